/- Bytes of strings, make, elements of arrays' values, clear. -/
import Derived.Test.YtbndodeihodjfaaGreatFwOps8
import Derived.Lib.ConvBytes
import Derived.IntWalk
namespace Go.Fw
set_option linter.unusedVariables false
set_option linter.unusedSimpArgs false

/-- A result in a world. -/
def GoodV (G : Nat) (K : Nat → Prop) (ρ : Env) (w : World) (m : Mem) (P : Program) (s : Sem Value) (v : AV) (u : List (Nat × Option Blk)) : Prop :=
  ∃ w' ρ', Step K ρ w m (addK K u) ρ' w' (m.upds u) ∧ Sat G (addK K u) ρ' w' (m.upds u) ∧ v.sc (addK K u) ∧ s.run P w = .ok (v.val ρ') w'
theorem goodV_pure {G K ρ w m P s v u} (h : Sat G K ρ w m) (hu : u = []) (hv : v.sc K) (hr : s.run P w = .ok (v.val ρ) w) : GoodV G K ρ w m P s v u := by
  subst hu
  exact ⟨w, ρ, by rw [addK_nil]; exact Step.refl _ _ _ _, by rw [addK_nil]; exact h, by rw [addK_nil]; exact hv, hr⟩

theorem bytesRows_flat (b : ByteArray) (ρ : Env) : AV.vals ρ (bytesRows b).flatten = b.data.toList.map fun u => Value.int .u8 u.toNat := by
  have : ∀ l : List UInt8, AV.vals ρ (l.map fun u => [AV.int .u8 (u.toNat : Int)]).flatten = l.map fun u => Value.int .u8 u.toNat := by
    intro l
    induction l with
    | nil => simp [AV.vals]
    | cons u l ih => simp [AV.vals, AV.val, ih]
  exact this _

theorem aconvB_ok {P : Program} {K ρ w m} (h : Sat P.globals.size K ρ w m) {nf : Nat} (hn : ¬ K nf) {s d : TypeId} {x v : AV} {u} (ha : (aconvB P m nf s d x).ok v u) :
    GoodV P.globals.size K ρ w m P (convert s d (x.val ρ)) v u := by
  unfold aconvB at ha
  split at ha
  · rename_i T _ _ _ _ e b h1 h2
    split at ha
    · rename_i h3
      obtain ⟨hp, rfl, rfl⟩ := ha
      obtain ⟨i, d', z', hi, hd, _⟩ := TY_spec h1
      have hu2 := tk_slice h2 rfl
      have hu3 := tk_int h3 rfl
      have hrun := Lib.run_convert_string_bytes (P := P) w s d e b hd hu2 hu3
      have hsz : b.size ≤ grownCap w b.size 0 e := grownCap_ge w _ _ _
      have hlen : (bytesRows b).length = b.size := by simp [bytesRows]
      have hheap : (Lib.bytesWorld w e b).heap = w.heap.push (.cells (Lib.bytesCells w e b) e ((Lib.bytesCells w e b).size, (Lib.bytesCells w e b).size + 1)) := by
        apply Array.ext_getElem?
        intro j
        rw [Array.getElem?_push]
        by_cases e1 : j = w.heap.size
        · rw [if_pos e1, e1]; exact Lib.bytesWorld_at_new w e b
        · rw [if_neg e1]
          rcases Nat.lt_or_ge j w.heap.size with hj | hj
          · exact Lib.bytesWorld_at_old w e b j hj
          · rw [Array.getElem?_eq_none (by rw [Lib.bytesWorld_size]; omega), Array.getElem?_eq_none (by omega)]
      obtain ⟨ρ', g1, g2, g3⟩ := sat_new h hn (b := ⟨false, .arr 1 (bytesRows b)⟩) (by
          intro l hl
          simp only [bytesRows, List.mem_map] at hl
          obtain ⟨u, _, rfl⟩ := hl
          simp [AV.scs, AV.sc]) (p := ⟨w.heap.size, 0, grownCap w b.size 0 e⟩) rfl (w' := Lib.bytesWorld w e b) (by
          have : Lib.bytesWorld w e b = { w with heap := (Lib.bytesWorld w e b).heap, drawn := (Lib.bytesWorld w e b).drawn } := rfl
          rw [this, hheap])
        (fun ρ' he _ => ⟨by rw [Lib.bytesWorld_size]; exact Nat.lt_succ_self _, by rw [hlen]; exact hsz, grownCap_le_maxLen w _ _ _ hp, by
            intro l hl
            simp only [bytesRows, List.mem_map] at hl
            obtain ⟨u, _, rfl⟩ := hl
            rfl, fun k v hv => by
            have hk : k < b.size := by
              have : k < (bytesRows b).flatten.length := by
                rcases Nat.lt_or_ge k (bytesRows b).flatten.length with hj | hj
                · exact hj
                · rw [List.getElem?_eq_none hj] at hv; cases hv
              rw [flatten_len 1 _ (by
                intro l hl
                simp only [bytesRows, List.mem_map] at hl
                obtain ⟨u, _, rfl⟩ := hl
                rfl), hlen] at this
              omega
            have h4 := vals_get ρ' (bytesRows b).flatten k
            rw [hv, bytesRows_flat] at h4
            rw [Nat.zero_add, Lib.bytesWorld_cell w e b k hk]
            rw [List.getElem?_map] at h4
            have hk' : k < b.data.toList.length := by simpa using hk
            rw [List.getElem?_eq_getElem hk'] at h4
            simp only [Option.map_some, Option.some.injEq] at h4
            rw [← h4]
            have hk2 : k < b.data.size := by simpa using hk'
            simp [List.getD, hk2]
            rw [Array.getElem?_eq_getElem hk2]; rfl⟩)
      refine ⟨_, ρ', g2, g3, .inr (by simp), ?_⟩
      simp only [AV.val, g1]
      exact hrun
    · exact ha.elim
  · obtain ⟨g1, g2, rfl⟩ := aconv_ok h ha
    exact goodV_pure h rfl g2 g1

theorem scs_flat' {K : Nat → Prop} {L : List (List AV)} (h : ∀ l ∈ L, AV.scs K l) : AV.scs K L.flatten := by
  rw [scs_iff]
  intro v hv
  obtain ⟨l, hl, hvl⟩ := List.mem_flatten.1 hv
  exact (scs_iff K l).1 (h l hl) v hvl

theorem zeroCells_eq (cs : List Value) (n : Nat) : (Builtin.zeroCells ⟨cs⟩ n).toList = (List.replicate n cs).flatten := by
  simp only [Builtin.zeroCells, Array.toList_map, Array.toList_range, List.size_toArray]
  by_cases h0 : cs.length = 0
  · have : cs = [] := List.eq_nil_of_length_eq_zero h0
    subst this
    simp
  · apply List.ext_getElem?
    intro j
    have hl : ∀ l ∈ List.replicate n cs, l.length = cs.length := fun l hl => by rw [(List.mem_replicate.1 hl).2]
    by_cases hj : j < n * cs.length
    · have e1 : j = (j / cs.length) * cs.length + j % cs.length := by rw [Nat.mul_comm]; exact (Nat.div_add_mod j cs.length).symm
      have hm : j % cs.length < cs.length := Nat.mod_lt _ (by omega)
      have hd : j / cs.length < n := (Nat.div_lt_iff_lt_mul (by omega)).2 hj
      have h2 := flatten_get cs.length (List.replicate n cs) hl (j / cs.length) (j % cs.length) cs (by rw [List.getElem?_replicate, if_pos hd]) hm
      rw [← e1] at h2
      rw [h2]
      simp [hj, hm]
    · rw [List.getElem?_eq_none (by simp; omega), List.getElem?_eq_none (by rw [flatten_len cs.length _ hl]; simp; omega)]

theorem vals_replicate (ρ : Env) (n : Nat) (z : List AV) : AV.vals ρ (List.replicate n z).flatten = (List.replicate n (AV.vals ρ z)).flatten := by
  induction n with
  | zero => simp [AV.vals]
  | succ n ih => simp [List.replicate_succ, vals_append, ih]

theorem amake_ok {P : Program} {K ρ w m} (h : Sat P.globals.size K ρ w m) {nf : Nat} (hn : ¬ K nf) {t : TypeId} {l c v : AV} {u} (ha : (amake P nf t l c).ok v u) :
    GoodV P.globals.size K ρ w m P (Instr.makeSlice t (l.val ρ) (c.val ρ)) v u := by
  unfold amake at ha
  split at ha
  · rename_i e hT
    split at ha
    · rename_i E hE
      split at ha
      · rename_i n n'
        split at ha
        · rename_i hc
          obtain ⟨rfl, hpos⟩ := hc
          obtain ⟨⟨h1, h2, h3⟩, rfl, rfl⟩ := ha
          have hu := tk_slice hT rfl
          obtain ⟨i, d, z, hi, hd, hz, hl, hsi, hb, hag, hk⟩ := TY_spec hE
          obtain ⟨zv, hzv, hzc⟩ := run_zeroValue hE w
          have hrs := run_sizeOf hE w
          have hmax : maxLen = 9223372036854775807 := rfl
          have hw : IntKind.i64.wrap n = n := IntWalk.i64_in n (by omega)
          have hzl : E.zero.length = E.size := TY_zero hE
          have hzsz : zv.cells.size = E.size := by rw [hzc ρ]; simp [vals_length, hzl]
          have hrun : (Instr.makeSlice t (.int .i64 n) (.int .i64 n)).run P w = .ok (.slice (some ⟨w.heap.size, 0, none⟩) n.toNat n.toNat) (w.alloc (.cells ⟨AV.vals ρ (List.replicate n.toNat E.zero).flatten⟩ e)) := by
            have hti : (typeInfo e).run P w = .ok i w := by simp [typeInfo, hi]
            have c1 : ¬ (n < 0) := by omega
            have c2 : ¬ ((i.bytes : Int) * n > 2 ^ 48) := by
              rw [← hb, Int.mul_comm]
              have : (2 : Int) ^ 48 = 281474976710656 := by decide
              omega
            have c3 : ¬ (n.toNat * i.bytes > roomBytes) := by
              have : roomBytes = 140737488355328 := by decide
              have e1 : ((n.toNat * i.bytes : Nat) : Int) = n * E.bytes := by rw [hb]; push_cast; rw [Int.toNat_of_nonneg h1]
              omega
            have hcells : (Builtin.zeroCells zv.cells n.toNat) = ⟨AV.vals ρ (List.replicate n.toNat E.zero).flatten⟩ := by
              apply Array.ext'
              rw [hzc ρ, zeroCells_eq, vals_replicate]
            by_cases h0 : n.toNat * E.size = 0
            · have hn0 : n.toNat = 0 := by
                rcases Nat.mul_eq_zero.1 h0 with e | e
                · exact e
                · omega
              have c2' : ¬ (281474976710656 < (i.bytes : Int) * n) := by
                have : (2 : Int) ^ 48 = 281474976710656 := by decide
                omega
              simp [Instr.makeSlice, run_underlying hu, asInt, asIntOf, hti, hw, c1, c2', c3, askRoom, hrs, hn0, newRow, AV.vals]
              have : ∀ f : Nat → Value, Array.map f (Array.range 0) = ⟨[]⟩ := fun f => by simp
              rw [this]
            · have hz2 : Array.map (fun x => zv.cells[x % zv.cells.size]!) (Array.range (n.toNat * E.size)) = ⟨AV.vals ρ (List.replicate n.toNat E.zero).flatten⟩ := by
                rw [← hcells, Builtin.zeroCells, hzsz]
              have c2' : ¬ (281474976710656 < (i.bytes : Int) * n) := by
                have : (2 : Int) ^ 48 = 281474976710656 := by decide
                omega
              have h0' : ¬ (n.toNat = 0 ∨ E.size = 0) := fun e => h0 (Nat.mul_eq_zero.2 e)
              have h0a : n.toNat ≠ 0 := fun e => h0' (.inl e)
              have h0b : E.size ≠ 0 := fun e => h0' (.inr e)
              simp [Instr.makeSlice, run_underlying hu, asInt, asIntOf, hti, hw, c1, c2', c3, askRoom, hrs, h0a, h0b, hzv, newRow]
              first
                | done
                | (rw [if_neg (by omega)]; simp [hz2])
                | simp [hz2]
          obtain ⟨ρ', g2, g3, g4⟩ := sat_new h hn (b := ⟨true, .arr E.size (List.replicate n.toNat E.zero)⟩) (by
              intro l hl
              rw [(List.mem_replicate.1 hl).2]; exact zero_sc hE K) (p := ⟨w.heap.size, 0, n.toNat⟩) (o := .cells ⟨AV.vals ρ (List.replicate n.toNat E.zero).flatten⟩ e) rfl (w' := w.alloc (.cells ⟨AV.vals ρ (List.replicate n.toNat E.zero).flatten⟩ e)) rfl
            (fun ρ' he _ => ⟨rfl, by simp, by show n.toNat ≤ maxLen; omega, fun l hl => by rw [(List.mem_replicate.1 hl).2, hzl], _, e, heap_alloc_new w _, by
                simp only [List.size_toArray, vals_length]
                rw [flatten_len E.size _ (fun l hl => by rw [(List.mem_replicate.1 hl).2, hzl])]
                simp, by
                rw [AV.vals_congr he _ (scs_flat' (fun l hl => by rw [(List.mem_replicate.1 hl).2]; exact zero_sc hE K))]
                have : (AV.vals ρ (List.replicate n.toNat E.zero).flatten).length = (List.replicate n.toNat E.zero).length * E.size := by
                  rw [vals_length, flatten_len E.size _ (fun l hl => by rw [(List.mem_replicate.1 hl).2, hzl])]
                rw [← this]; simp⟩)
          refine ⟨_, ρ', g3, g4, .inr (by simp), ?_⟩
          simp only [AV.val, g2]
          exact hrun
        · exact ha.elim
      · exact ha.elim
    · exact ha.elim
  · exact ha.elim

theorem aidx_ok {P : Program} {K ρ w m} (h : Sat P.globals.size K ρ w m) {t : TypeId} {l : List AV} {i v : AV} {u} (hs : AV.scs K l) (ha : (aidx P t l i).ok v u) :
    GoodV P.globals.size K ρ w m P (Instr.index t ((AV.agg l).val ρ) (i.val ρ)) v u := by
  unfold aidx at ha
  split at ha
  · rename_i n e hT
    split at ha
    · rename_i E hE
      have hu := tk_array hT rfl
      split at ha
      · rename_i kk k
        split at ha
        · rename_i hagg
          obtain ⟨⟨h1, h2⟩, rfl, rfl⟩ := ha
          refine goodV_pure h rfl (by simp only [AV.sc]; exact (scs_iff K _).2 fun v hv => (scs_iff K l).1 hs v (List.mem_of_mem_drop (List.mem_of_mem_take hv))) ?_
          simp [Instr.index, asIntOf, AV.val, run_underlying hu, h1, h2, part, run_isAgg hE, hagg, run_sizeOf hE]
          rw [vals_take, vals_drop]
        · rename_i hagg
          split at ha
          · rename_i v' hv'
            obtain ⟨⟨h1, h2⟩, rfl, rfl⟩ := ha
            refine goodV_pure h rfl ((scs_iff K l).1 hs _ (List.mem_of_getElem? hv')) ?_
            have h4 : (AV.vals ρ l)[k.toNat * E.size]? = some (v.val ρ) := by rw [vals_get, hv']; rfl
            simp [Instr.index, asIntOf, AV.val, run_underlying hu, h1, h2, part, run_isAgg hE, hagg, run_sizeOf hE, h4]
          · exact ha.elim
      · exact ha.elim
    · exact ha.elim
  · exact ha.elim

theorem aclear_ok {P : Program} {K ρ w m} (h : Sat P.globals.size K ρ w m) {e : TypeId} {nm lo len : Nat} {v : AV} {u} (ha : (aclear P m e nm lo len).ok v u) {t ty : TypeId} (hu : P.underlying t = some (.slice e))
    {x : Value} {c : Nat} (hx : len ≠ 0 → ∀ sz L, m.get nm = some ⟨true, .arr sz L⟩ → tsize P e = sz → x = .slice (some ⟨(ρ nm).b, (ρ nm).off + lo * sz, none⟩) len c) (hx0 : len = 0 → ∃ a, x = .slice a 0 c) :
    GoodV P.globals.size K ρ w m P (Builtin.clear_ #[t] ty #[x]) v u := by
  unfold aclear at ha
  simp only [Res.ok, decide_eq_true_eq] at ha
  split at ha
  · rename_i h0
    obtain ⟨_, rfl, rfl⟩ := ha
    obtain ⟨a, rfl⟩ := hx0 h0
    refine goodV_pure h rfl (by simp [undefA, AV.sc, AV.scs]) ?_
    cases a <;> simp [Builtin.clear_, run_underlying hu, undefA, AV.val, AV.vals]
  · rename_i h0
    split at ha
    · rename_i E sz L hE hg
      split at ha
      · rename_i hc
        obtain ⟨hsz, hone⟩ := hc
        obtain ⟨hle, rfl, rfl⟩ := ha
        have hzl : E.zero.length = E.size := TY_zero hE
        have hts : tsize P e = sz := by
          obtain ⟨i, d, z, hi, hd, hz, hl, hsi, hb, hag, hk⟩ := TY_spec hE
          simp only [tsize, hi]; omega
        have hxv := hx h0 sz L hg hts
        subst hxv
        obtain ⟨k0, k1, k2, k3, cur, e0, hh, hcs, ht⟩ := h.ok _ _ hg
        have hkn := h.known _ _ hg
        obtain ⟨zv, hzv, hzc⟩ := run_zeroValue hE w
        have hL1 : ∀ l ∈ L.take lo, l.length = sz := fun l hl => k3 l (List.mem_of_mem_take hl)
        have hL3 : ∀ l ∈ L.drop (lo + len), l.length = sz := fun l hl => k3 l (List.mem_of_mem_drop hl)
        have hL2 : ∀ l ∈ List.replicate len E.zero, l.length = sz := fun l hl => by rw [(List.mem_replicate.1 hl).2, hzl, hsz]
        have hLm : ∀ l ∈ (L.drop lo).take len, l.length = sz := fun l hl => k3 l (List.mem_of_mem_drop (List.mem_of_mem_take hl))
        have hsplit : L.flatten = (L.take lo).flatten ++ (((L.drop lo).take len).flatten ++ (L.drop (lo + len)).flatten) := by
          rw [← List.flatten_append, ← List.flatten_append]
          congr 1
          rw [show L.drop (lo + len) = (L.drop lo).drop len by rw [List.drop_drop], List.take_append_drop, List.take_append_drop]
        have n1 : (AV.vals ρ (L.take lo).flatten).length = lo * sz := by rw [vals_length, flatten_len sz _ hL1, List.length_take, Nat.min_eq_left (by omega)]
        have n2 : (AV.vals ρ ((L.drop lo).take len).flatten).length = len * sz := by rw [vals_length, flatten_len sz _ hLm, List.length_take, List.length_drop, Nat.min_eq_left (by omega)]
        have n4 : (AV.vals ρ (List.replicate len E.zero).flatten).length = len * sz := by rw [vals_length, flatten_len sz _ hL2, List.length_replicate]
        obtain ⟨R, hcur⟩ : ∃ R, cur.toList = AV.vals ρ (L.take lo).flatten ++ (AV.vals ρ ((L.drop lo).take len).flatten ++ (AV.vals ρ (L.drop (lo + len)).flatten ++ R)) := by
          refine ⟨cur.toList.drop (L.length * sz), ?_⟩
          have e1 := (List.take_append_drop (L.length * sz) cur.toList).symm
          generalize cur.toList.drop (L.length * sz) = R at e1 ⊢
          rw [ht, hsplit, vals_append, vals_append] at e1
          rw [e1]; simp only [List.append_assoc]
        have hvs1 : ∀ y ∈ AV.vals ρ (List.replicate len E.zero).flatten, y.oneCell' = true := by
          intro y hy
          rw [vals_eq] at hy
          obtain ⟨z, hz, rfl⟩ := List.mem_map.1 hy
          obtain ⟨l, hl, hzl'⟩ := List.mem_flatten.1 hz
          rw [(List.mem_replicate.1 hl).2] at hzl'
          rw [val_one]
          exact (List.all_eq_true.1 hone) z hzl'
        have hcl : cur.toList.length = cur.size := Array.length_toList
        have hfit : lo * sz + (AV.vals ρ (List.replicate len E.zero).flatten).length ≤ cur.size := by
          rw [n4, hcs, ← Nat.add_mul]; exact Nat.mul_le_mul_right _ (by omega)
        have hst := run_storeCells_at P (ρ nm).b (lo * sz) e0 (AV.vals ρ (List.replicate len E.zero).flatten) 0 cur w hh (by simpa using hfit) hvs1
        simp only [Nat.add_zero] at hst
        generalize hcsn : (cur.toList.take (lo * sz) ++ AV.vals ρ (List.replicate len E.zero).flatten ++ cur.toList.drop (lo * sz + (AV.vals ρ (List.replicate len E.zero).flatten).length)).toArray = csn at hst
        have hnew : csn.toList = AV.vals ρ (L.take lo).flatten ++ (AV.vals ρ (List.replicate len E.zero).flatten ++ (AV.vals ρ (L.drop (lo + len)).flatten ++ R)) := by
          rw [← hcsn]
          simp only [List.toList_toArray]
          have d1 : cur.toList.take (lo * sz) = AV.vals ρ (L.take lo).flatten := by rw [hcur, ← n1, List.take_left]
          have d2 : cur.toList.drop (lo * sz + (AV.vals ρ (List.replicate len E.zero).flatten).length) = AV.vals ρ (L.drop (lo + len)).flatten ++ R := by
            rw [n4]
            conv => lhs; rw [hcur]
            rw [← n1, ← n2, ← List.drop_drop, List.drop_left, List.drop_left]
          rw [d1, d2, List.append_assoc]
        obtain ⟨w1, w2, w3, w4, w5, w6⟩ := setRow_world hh csn
        have hlen' : (L.take lo ++ (List.replicate len E.zero ++ L.drop (lo + len))).length = L.length := by simp; omega
        have hflat : AV.vals ρ (L.take lo ++ (List.replicate len E.zero ++ L.drop (lo + len))).flatten = AV.vals ρ (L.take lo).flatten ++ (AV.vals ρ (List.replicate len E.zero).flatten ++ AV.vals ρ (L.drop (lo + len)).flatten) := by
          rw [List.flatten_append, List.flatten_append, vals_append, vals_append]
        have hall : ∀ l ∈ L.take lo ++ (List.replicate len E.zero ++ L.drop (lo + len)), l.length = sz := by
          intro l hl
          rcases List.mem_append.1 hl with hl | hl
          · exact hL1 l hl
          · rcases List.mem_append.1 hl with hl | hl
            · exact hL2 l hl
            · exact hL3 l hl
        obtain ⟨g1, g2⟩ := sat_write h hg rfl (b := ⟨true, .arr sz (L.take lo ++ (List.replicate len E.zero ++ L.drop (lo + len)))⟩) (by
            intro l hl
            rcases List.mem_append.1 hl with hl | hl
            · exact hkn.2 l (List.mem_of_mem_take hl)
            · rcases List.mem_append.1 hl with hl | hl
              · rw [(List.mem_replicate.1 hl).2]; exact zero_sc hE K
              · exact hkn.2 l (List.mem_of_mem_drop hl)) (w' := w.setRow (ρ nm).b csn) w1 w2 w3 (by rw [w4]; exact Nat.le_refl _) (fun k _ hk => w5 k hk)
          ⟨k0, by rw [hlen']; exact k1, k2, hall, csn, e0, w6, by
            have e1 : csn.size = cur.size := by
              rw [← hcl, ← Array.length_toList, hnew]
              conv => rhs; rw [hcur]
              simp only [List.length_append]
              omega
            rw [e1, hcs], by
            rw [hlen', hflat, hnew]
            have e2 : (AV.vals ρ (L.take lo).flatten ++ (AV.vals ρ (List.replicate len E.zero).flatten ++ AV.vals ρ (L.drop (lo + len)).flatten)).length = L.length * sz := by
              rw [← hflat, vals_length, flatten_len sz _ hall, hlen']
            rw [← e2]
            rw [show AV.vals ρ (L.take lo).flatten ++ (AV.vals ρ (List.replicate len E.zero).flatten ++ (AV.vals ρ (L.drop (lo + len)).flatten ++ R)) = (AV.vals ρ (L.take lo).flatten ++ (AV.vals ρ (List.replicate len E.zero).flatten ++ AV.vals ρ (L.drop (lo + len)).flatten)) ++ R by simp only [List.append_assoc]]
            rw [e2]
            rw [← e2, List.take_left]⟩
        refine ⟨_, ρ, g1, g2, by simp [undefA, AV.sc, AV.scs], ?_⟩
        have hzero : (Builtin.zeroCells zv.cells len).toList = AV.vals ρ (List.replicate len E.zero).flatten := by rw [hzc ρ, zeroCells_eq, vals_replicate]
        have hlen0 : len ≠ 0 := h0
        rw [k0, Nat.zero_add]
        obtain ⟨len', rfl⟩ : ∃ k, len = k + 1 := ⟨len - 1, by omega⟩
        simp only [Builtin.clear_]
        simp [run_underlying hu, hzv, hzero, hst, undefA, AV.val, AV.vals]
      · exact ha.elim
    · exact ha.elim

end Go.Fw
