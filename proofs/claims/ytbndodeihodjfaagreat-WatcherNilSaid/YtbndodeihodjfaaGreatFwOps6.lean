/- The operations' soundness: one theorem. -/
import Derived.Test.YtbndodeihodjfaaGreatFwOps5
namespace Go.Fw
set_option linter.unusedVariables false
set_option linter.unusedSimpArgs false

theorem evs_list {K ρ} {re : Operand → Value} {evf : Operand → AV} : ∀ (l : List Operand), (∀ x ∈ l, Evs K ρ re evf x) → AV.vals ρ (l.map evf) = l.map re ∧ AV.scs K (l.map evf)
  | [], _ => by simp [AV.vals, AV.scs]
  | x :: l, h => by
    have h1 := h x (by simp)
    have h2 := evs_list l (fun y hy => h y (by simp [hy]))
    simp [AV.vals, AV.scs, h1.val, h1.sc, h2]
theorem evs_pairs {K ρ} {re : Operand → Value} {evf : Operand → AV} (l : List (Nat × Operand)) (h : ∀ p ∈ l, Evs K ρ re evf p.2) :
    (l.map fun p => (p.1, evf p.2)).map (fun p => (p.1, p.2.val ρ)) = l.map (fun p => (p.1, re p.2)) ∧ ∀ p ∈ l.map (fun p => (p.1, evf p.2)), p.2.sc K := by
  refine ⟨?_, ?_⟩
  · rw [List.map_map]
    apply List.map_congr_left
    intro p hp
    simp [(h p hp).val]
  · intro p hp
    obtain ⟨q, hq, rfl⟩ := List.mem_map.1 hp
    exact (h q hq).sc

/-- A slice's elements. -/
theorem elems_ok {G K ρ w m} (h : Sat G K ρ w m) {v : AV} {sz : Nat} {L : List (List AV)} (hl : m.elems v sz = some L) :
    (∀ l ∈ L, l.length = sz) ∧ (∀ l ∈ L, AV.scs K l) ∧ L.length ≤ maxLen ∧
      ((v = .nilSlice ∧ L = []) ∨ ∃ b o c, v.val ρ = .slice (some ⟨b, o, none⟩) L.length c ∧ b < w.heap.size ∧ L.length ≤ c ∧ ∀ (j : Nat) u, L.flatten[j]? = some u → w.cell? ⟨b, o + j, none⟩ = some (u.val ρ)) := by
  unfold Mem.elems at hl
  split at hl
  · cases hl
    exact ⟨by simp, by simp, by simp, .inl ⟨rfl, rfl⟩⟩
  · rename_i nm len
    split at hl
    · rename_i wr sz' M hg
      split at hl
      · rename_i hc
        obtain ⟨rfl, hle⟩ := hc
        cases hl
        have hok := h.ok _ _ hg
        have hsc := (h.known _ _ hg).2
        have hM : (∀ l ∈ M, l.length = sz) ∧ M.length ≤ (ρ nm).cap ∧ (ρ nm).cap ≤ maxLen := by
          cases wr
          · exact ⟨hok.2.2.2.1, hok.2.1, hok.2.2.1⟩
          · exact ⟨hok.2.2.2.1, hok.2.1, hok.2.2.1⟩
        have hlen : (M.take len).length = len := by simp; omega
        refine ⟨fun l hl => hM.1 l (List.mem_of_mem_take hl), fun l hl => hsc l (List.mem_of_mem_take hl), by rw [hlen]; omega, .inr ⟨(ρ nm).b, (ρ nm).off, (ρ nm).cap, by rw [hlen]; simp [AV.val], Blk.ok_lt hok, by rw [hlen]; omega, fun j u hu => ?_⟩⟩
        refine Blk.ok_cell hok j u ?_
        simp only [Cont.flat]
        have : M.flatten = (M.take len).flatten ++ (M.drop len).flatten := by rw [← List.flatten_append, List.take_append_drop]
        rw [this, List.getElem?_append_left]
        · exact hu
        · rcases Nat.lt_or_ge j (M.take len).flatten.length with h | h
          · exact h
          · rw [List.getElem?_eq_none h] at hu; cases hu
      · cases hl
    · cases hl
  · rename_i nm sz0 lo len
    split at hl
    · rename_i wr sz' M hg
      split at hl
      · rename_i hc
        obtain ⟨rfl, rfl, hle⟩ := hc
        cases hl
        have hok := h.ok _ _ hg
        have hsc := (h.known _ _ hg).2
        have hM : (∀ l ∈ M, l.length = sz0) ∧ M.length ≤ (ρ nm).cap ∧ (ρ nm).cap ≤ maxLen := by
          cases wr
          · exact ⟨hok.2.2.2.1, hok.2.1, hok.2.2.1⟩
          · exact ⟨hok.2.2.2.1, hok.2.1, hok.2.2.1⟩
        have hlen : ((M.drop lo).take len).length = len := by simp; omega
        refine ⟨fun l hl => hM.1 l (List.mem_of_mem_drop (List.mem_of_mem_take hl)), fun l hl => hsc l (List.mem_of_mem_drop (List.mem_of_mem_take hl)), by rw [hlen]; omega,
          .inr ⟨(ρ nm).b, (ρ nm).off + lo * sz0, (ρ nm).cap - lo, by rw [hlen]; simp [AV.val], Blk.ok_lt hok, by rw [hlen]; omega, fun j u hu => ?_⟩⟩
        rw [Nat.add_assoc]
        refine Blk.ok_cell hok (lo * sz0 + j) u ?_
        simp only [Cont.flat]
        have e1 : M.flatten = (M.take lo).flatten ++ (((M.drop lo).take len).flatten ++ ((M.drop lo).drop len).flatten) := by
          rw [← List.flatten_append, ← List.flatten_append, List.take_append_drop, List.take_append_drop]
        have e2 : (M.take lo).flatten.length = lo * sz0 := by
          rw [flatten_len sz0 _ (fun l hl => hM.1 l (List.mem_of_mem_take hl)), List.length_take, Nat.min_eq_left (by omega)]
        rw [e1, List.getElem?_append_right (by omega), e2, Nat.add_sub_cancel_left, List.getElem?_append_left]
        · exact hu
        · rcases Nat.lt_or_ge j ((M.drop lo).take len).flatten.length with h | h
          · exact h
          · rw [List.getElem?_eq_none h] at hu; cases hu
      · cases hl
    · cases hl
  · cases hl

theorem bytesOf_cons {l : List AV} {L : List (List AV)} {bs : List UInt8} (h : bytesOf (l :: L) = some bs) : ∃ n b, l = [.int .u8 n] ∧ bytesOf L = some b ∧ bs = UInt8.ofNat n.toNat :: b := by
  unfold bytesOf at h
  split at h
  · simp_all
  · rename_i e
    cases e
    simp only [Option.map_eq_some_iff] at h
    obtain ⟨b, h1, h2⟩ := h
    exact ⟨_, b, rfl, h1, h2.symm⟩
  · cases h
theorem bytesOf_ok : ∀ {L : List (List AV)} {bs : List UInt8}, bytesOf L = some bs →
    bs.length = L.length ∧ (∀ (k : Nat) v, L.flatten[k]? = some v → ∃ n, v = .int .u8 n ∧ bs[k]? = some (UInt8.ofNat n.toNat)) ∧ L.flatten.length = L.length
  | [], bs, h => by simp [bytesOf] at h; subst h; simp
  | l :: L, bs, h => by
    obtain ⟨n, b, rfl, hb, rfl⟩ := bytesOf_cons h
    obtain ⟨h1, h2, h3⟩ := bytesOf_ok hb
    refine ⟨by simp [h1], ?_, by simp only [List.flatten_cons, List.length_append, h3]; simp; omega⟩
    intro k v hk
    cases k with
    | zero => simp at hk; subst hk; exact ⟨n, rfl, by simp⟩
    | succ k =>
      simp only [List.flatten_cons, List.singleton_append, List.getElem?_cons_succ] at hk
      obtain ⟨n', e1, e2⟩ := h2 k v hk
      exact ⟨n', e1, by simp [e2]⟩

theorem forIn_bytes {P : Program} {w : World} {ρ : Env} : ∀ (l : List AV) (bs : List UInt8) (acc : ByteArray), (∀ (k : Nat) v, l[k]? = some v → ∃ n, v = .int .u8 n ∧ bs[k]? = some (UInt8.ofNat n.toNat)) → bs.length = l.length →
    ((forIn (AV.vals ρ l) acc fun c s =>
      match c with
      | .int .u8 n => pure (.yield (s.push (UInt8.ofNat n.toNat)))
      | _ => do
        stuck "bytesToString: byte expected"
        pure (.yield s) : Sem ByteArray)).run P w = .ok ⟨acc.data ++ bs.toArray⟩ w
  | [], bs, acc, _, hl => by
    have : bs = [] := List.eq_nil_of_length_eq_zero (by simpa using hl)
    subst this
    simp [AV.vals]
  | v :: l, bs, acc, h, hl => by
    obtain ⟨n, e1, e2⟩ := h 0 v rfl
    subst e1
    cases bs with
    | nil => simp at e2
    | cons b bs =>
      simp at e2
      subst e2
      have := forIn_bytes (P := P) (w := w) (ρ := ρ) l bs (acc.push (UInt8.ofNat n.toNat)) (fun k v hk => by
        obtain ⟨n', e1, e2⟩ := h (k + 1) v (by simpa using hk)
        exact ⟨n', e1, by simpa using e2⟩) (by simpa using hl)
      simp only [AV.vals, AV.val, List.forIn_cons, Sem.run_bind]
      rw [show ((pure (ForInStep.yield (acc.push (UInt8.ofNat n.toNat))) : Sem (ForInStep ByteArray)).run P w) = .ok (ForInStep.yield (acc.push (UInt8.ofNat n.toNat))) w from rfl]
      simp only [Result.andThen_ok]
      rw [this]
      simp [ByteArray.push]

theorem aconv_ok {P : Program} {K ρ w m} (h : Sat P.globals.size K ρ w m) {s d : TypeId} {x v : AV} {u} (ha : (aconv P m s d x).ok v u) :
    (convert s d (x.val ρ)).run P w = .ok (v.val ρ) w ∧ v.sc K ∧ u = [] := by
  unfold aconv at ha
  split at ha
  · rename_i T1 sz by' ag z k k0 n h1 h2
    obtain ⟨hp, rfl, rfl⟩ := ha
    obtain ⟨i, d', z', hi, hd, _⟩ := TY_spec h1
    have hu := tk_int h2 rfl
    exact ⟨by simp [convert, run_underlying hd, run_underlying hu, AV.val, Conv.intToInt], by simp [AV.sc], rfl⟩
  · rename_i T1 sz by' ag z s0 h1 h2
    obtain ⟨hp, rfl, rfl⟩ := ha
    obtain ⟨i, d', z', hi, hd, _⟩ := TY_spec h1
    have hu := tk_str h2 rfl
    refine ⟨?_, by simp [AV.sc], rfl⟩
    simp only [convert, Sem.run_bind, run_underlying hd, run_underlying hu, Result.andThen_ok, AV.val]
    cases d' <;> rfl
  · rename_i h1 h2
    split at ha
    · rename_i h3
      obtain ⟨hp, rfl, rfl⟩ := ha
      have hu1 := tk_slice h1 rfl
      have hu2 := tk_str h2 rfl
      have hu3 := tk_int h3 rfl
      refine ⟨?_, by simp [AV.sc], rfl⟩
      simp only [convert, Sem.run_bind, run_underlying hu1, run_underlying hu2, Result.andThen_ok, AV.val, run_underlying hu3, Conv.bytesToString]
      rfl
    · exact ha.elim
  · rename_i nm len h1 h2
    split at ha
    · rename_i h3
      split at ha
      · rename_i L hL
        split at ha
        · rename_i bs hbs
          obtain ⟨hp, rfl, rfl⟩ := ha
          have hu1 := tk_slice h1 rfl
          have hu2 := tk_str h2 rfl
          have hu3 := tk_int h3 rfl
          obtain ⟨hl, hsc, _, hh⟩ := elems_ok h hL
          rcases hh with ⟨e, _⟩ | ⟨xb, xo, xc, e, hlt, hcap, hc⟩
          · cases e
          · simp only [AV.val, Value.slice.injEq, Option.some.injEq, Addr.mk.injEq, and_true] at e
            obtain ⟨⟨rfl, rfl⟩, rfl, rfl⟩ := e
            obtain ⟨hb1, hb2, hb3⟩ := bytesOf_ok hbs
            have hload := run_loadCells_list (P := P) (w := w) ⟨(ρ nm).b, (ρ nm).off, none⟩ (AV.vals ρ L.flatten) (fun j v hj => by
              rw [vals_get] at hj
              cases hq : L.flatten[j]? with
              | none => rw [hq] at hj; cases hj
              | some u => rw [hq] at hj; cases hj; rw [Addr.add_lit]; exact hc j u hq)
            rw [vals_length, hb3] at hload
            have hfor := forIn_bytes (P := P) (w := w) (ρ := ρ) L.flatten bs ByteArray.empty hb2 (by rw [hb1, hb3])
            refine ⟨?_, by simp [AV.sc], rfl⟩
            simp only [convert, Sem.run_bind, run_underlying hu1, run_underlying hu2, Result.andThen_ok, AV.val, run_underlying hu3, Conv.bytesToString, hload]
            rw [List.forIn_toArray]
            refine Eq.trans (congrArg (fun r => Result.andThen r (fun a w' => Sem.run P (pure (Value.string a)) w')) hfor) ?_
            simp only [Result.andThen_ok]
            rw [show ByteArray.empty.data ++ bs.toArray = bs.toArray by show (#[] : Array UInt8) ++ bs.toArray = bs.toArray; simp]
            rfl
        · exact ha.elim
      · exact ha.elim
    · exact ha.elim
  · exact ha.elim

/-! ### Slices of slices and strings -/
theorem sat_weak {G K ρ w m} (h : Sat G K ρ w m) {nm nf : Nat} (hn : ¬ K nf) {wr : Bool} {sz : Nat} {L : List (List AV)} (hg : m.get nm = some ⟨wr, .arr sz L⟩)
    (lo hi : Nat) (h1 : lo ≤ hi) (h2 : hi ≤ L.length) (off' : Nat) (hoff : lo < (ρ nm).cap → off' = (ρ nm).off + lo * sz) :
    ∃ ρ' : Env, ρ' nf = ⟨(ρ nm).b, off', (ρ nm).cap - lo⟩ ∧
      Step K ρ w m (addK K [(nm, some ⟨false, .arr sz L⟩), (nf, some ⟨false, .arr sz ((L.take hi).drop lo)⟩)]) ρ' w (m.upds [(nm, some ⟨false, .arr sz L⟩), (nf, some ⟨false, .arr sz ((L.take hi).drop lo)⟩)]) ∧
      Sat G (addK K [(nm, some ⟨false, .arr sz L⟩), (nf, some ⟨false, .arr sz ((L.take hi).drop lo)⟩)]) ρ' w (m.upds [(nm, some ⟨false, .arr sz L⟩), (nf, some ⟨false, .arr sz ((L.take hi).drop lo)⟩)]) := by
  have hkn := h.known nm _ hg
  have hok := h.ok nm _ hg
  have hne : nf ≠ nm := fun e => hn (e ▸ hkn.1)
  have hM : (∀ l ∈ L, l.length = sz) ∧ L.length ≤ (ρ nm).cap ∧ (ρ nm).cap ≤ maxLen := by
    cases wr
    · exact ⟨hok.2.2.2.1, hok.2.1, hok.2.2.1⟩
    · exact ⟨hok.2.2.2.1, hok.2.1, hok.2.2.1⟩
  refine ⟨fun i => if i = nf then ⟨(ρ nm).b, off', (ρ nm).cap - lo⟩ else ρ i, by simp, ?_⟩
  have henv : ∀ i, K i → (if i = nf then (⟨(ρ nm).b, off', (ρ nm).cap - lo⟩ : Place) else ρ i) = ρ i := fun i hi => if_neg (fun e => by subst e; exact hn hi)
  have hget : ∀ i, (m.upds [(nm, some ⟨false, .arr sz L⟩), (nf, some ⟨false, .arr sz ((L.take hi).drop lo)⟩)]).get i =
      if i = nf then some ⟨false, .arr sz ((L.take hi).drop lo)⟩ else if i = nm then some ⟨false, .arr sz L⟩ else m.get i := fun i => by
    simp only [Mem.upds]
    split
    · rename_i e; rw [e, Mem.get_set_same]
    · rename_i e
      rw [Mem.get_set_other _ _ _ _ (fun x => e x.symm)]
      split
      · rename_i e2; rw [e2, Mem.get_set_same]
      · rename_i e2; rw [Mem.get_set_other _ _ _ _ (fun x => e2 x.symm)]
  have hblt : (ρ nm).b < w.heap.size := Blk.ok_lt hok
  refine sat_next h rfl rfl rfl (Nat.le_refl _) (fun i hi => .inl hi) ?_ henv (fun _ _ _ => rfl) ?_ ?_
  · obtain ⟨N, hN⟩ := h.few
    refine ⟨max N (nf + 1), fun i hi => ?_⟩
    rcases hi with hi | hi
    · have := hN i hi; omega
    · simp at hi
      rcases hi with rfl | rfl
      · have := hN _ hkn.1; omega
      · omega
  · intro i c hc
    rw [hget] at hc
    split at hc
    · rename_i e
      cases hc
      subst e
      refine .inr ⟨?_, .inr (by simp), ?_, .inr ⟨nm, ⟨wr, .arr sz L⟩, And.intro hg (And.intro (fun hw => by cases hw) (by rw [if_pos rfl]))⟩⟩
      · simp only [if_true]
        refine ⟨hblt, by simp; omega, by show (ρ nm).cap - lo ≤ maxLen; omega, fun l hl => hM.1 l (List.mem_of_mem_take (List.mem_of_mem_drop hl)), fun k v hv => ?_⟩
        rcases Nat.lt_or_ge lo (ρ nm).cap with hlt | hge
        · have ho := hoff hlt
          subst ho
          have hflat : ∀ k v, ((L.take hi).drop lo).flatten[k]? = some v → L.flatten[lo * sz + k]? = some v := by
            intro k v hv
            have e1 : L.flatten = (L.take lo).flatten ++ ((L.take hi).drop lo).flatten ++ (L.drop hi).flatten := by
              rw [← List.flatten_append, ← List.flatten_append]
              congr 1
              rw [show L.take lo = (L.take hi).take lo by rw [List.take_take]; congr 1; omega, List.take_append_drop, List.take_append_drop]
            have e2 : (L.take lo).flatten.length = lo * sz := by
              rw [flatten_len sz _ (fun l hl => hM.1 l (List.mem_of_mem_take hl)), List.length_take, Nat.min_eq_left (by omega)]
            have hk : k < ((L.take hi).drop lo).flatten.length := by
              rcases Nat.lt_or_ge k ((L.take hi).drop lo).flatten.length with h | h
              · exact h
              · rw [List.getElem?_eq_none h] at hv; cases hv
            rw [e1, List.append_assoc, List.getElem?_append_right (by omega), e2, Nat.add_sub_cancel_left, List.getElem?_append_left hk]
            exact hv
          have := Blk.ok_cell hok (lo * sz + k) (v := _) (by simp only [Cont.flat]; exact hflat k _ hv)
          rw [Nat.add_assoc]
          rw [this, AV.val_congr henv _ (by
            obtain ⟨l, hl, hv'⟩ := List.mem_flatten.1 (List.mem_of_getElem? hv)
            exact (scs_iff K l).1 (hkn.2 l (List.mem_of_mem_take (List.mem_of_mem_drop hl))) _ hv')]
        · have : ((L.take hi).drop lo) = [] := List.drop_eq_nil_of_le (by simp; omega)
          rw [this] at hv; simp at hv
      · intro l hl
        exact AV.scs_mono (fun _ x => .inl x) l (hkn.2 l (List.mem_of_mem_take (List.mem_of_mem_drop hl)))
    · rename_i e
      split at hc
      · rename_i e2
        cases hc
        subst e2
        refine .inr ⟨?_, .inl hkn.1, fun l hl => AV.scs_mono (fun _ x => .inl x) l (hkn.2 l hl), .inr ⟨i, ⟨wr, .arr sz L⟩, And.intro hg (And.intro (fun hw => by cases hw) (by rw [if_neg e]))⟩⟩
        simp only [if_neg e]
        refine ⟨hblt, hM.2.1, hM.2.2, hM.1, fun k v hv => ?_⟩
        rw [Blk.ok_cell hok k v hv, AV.val_congr henv _ (by
            obtain ⟨l, hl, hv'⟩ := List.mem_flatten.1 (List.mem_of_getElem? hv)
            exact (scs_iff K l).1 (hkn.2 l hl) _ hv')]
      · exact .inl ⟨hc, rfl⟩
  · intro i j b' c hb hc hij hw
    rw [hget] at hb hc
    have key : ∀ i b, i ≠ nf → (if i = nm then some ⟨false, .arr sz L⟩ else m.get i) = some b → (∃ d, m.get i = some d ∧ (b.wr = true → d.wr = true)) := by
      intro p b hi hq
      by_cases e : p = nm
      · rw [if_pos e] at hq; rw [e]; have := Option.some.inj hq; exact ⟨_, hg, fun h => by rw [← this] at h; cases h⟩
      · rw [if_neg e] at hq; exact ⟨b, hq, fun h => h⟩
    have isnm : ∀ i b, i ≠ nf → (if i = nm then some ⟨false, .arr sz L⟩ else m.get i) = some b → b.wr = true → (ρ i).b ≠ (ρ nm).b := by
      intro p b hi hq hw
      by_cases e : p = nm
      · rw [if_pos e] at hq; have := Option.some.inj hq; rw [← this] at hw; cases hw
      · rw [if_neg e] at hq; exact h.apart p nm b _ hq hg e (.inl hw)
    by_cases e1 : i = nf <;> by_cases e2 : j = nf
    · exact absurd (e1.trans e2.symm) hij
    · rw [if_pos e1] at hb
      rw [if_neg e2] at hc
      cases hb
      simp only [e1, e2, if_true, if_false]
      rcases hw with hw | hw
      · cases hw
      · exact fun e => isnm j c e2 hc hw e.symm
    · rw [if_neg e1] at hb
      rw [if_pos e2] at hc
      cases hc
      simp only [e1, e2, if_true, if_false]
      rcases hw with hw | hw
      · exact isnm i b' e1 hb hw
      · cases hw
    · rw [if_neg e1] at hb
      rw [if_neg e2] at hc
      simp only [e1, e2, if_false]
      obtain ⟨d, hd, hdw⟩ := key i b' e1 hb
      obtain ⟨d', hd', hdw'⟩ := key j c e2 hc
      exact h.apart i j d d' hd hd' hij (hw.imp hdw hdw')

end Go.Fw
