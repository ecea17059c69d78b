/- append -/
import Derived.Test.YtbndodeihodjfaaGreatFwOps6
namespace Go.Fw
set_option linter.unusedVariables false
set_option linter.unusedSimpArgs false

theorem sat_move {G K ρ w m} (h : Sat G K ρ w m) {nf : Nat} (hn : ¬ K nf) {u : List (Nat × Option Blk)} {b : Blk} {p : Place} {w' : World}
    (old : Option Nat) (hold : ∀ nm, old = some nm → ∃ b0, m.get nm = some b0 ∧ b0.wr = true)
    (hu : ∀ i, (m.upds u).get i = if i = nf then some b else if some i = old then none else m.get i) (hun : ∀ i, i ∈ u.map (·.1) → i = nf ∨ K i) (hnf : nf ∈ u.map (·.1))
    (hsc : b.c.sc K) (hos : w'.os = w.os) (htape : w'.tape = w.tape) (hout : w'.output = w.output) (hsize : w.heap.size ≤ w'.heap.size)
    (hp : w.heap.size ≤ p.b ∨ ∃ nm, old = some nm ∧ p.b = (ρ nm).b)
    (hh : ∀ k, k < w.heap.size → (∀ nm, old = some nm → k ≠ (ρ nm).b) → w'.heap[k]? = w.heap[k]?)
    (hok : ∀ ρ' : Env, (∀ i, K i → ρ' i = ρ i) → ρ' nf = p → b.ok ρ' w' p) :
    ∃ ρ' : Env, ρ' nf = p ∧ (∀ i, K i → ρ' i = ρ i) ∧ Step K ρ w m (addK K u) ρ' w' (m.upds u) ∧ Sat G (addK K u) ρ' w' (m.upds u) := by
  refine ⟨fun i => if i = nf then p else ρ i, by simp, ?_⟩
  have henv : ∀ i, K i → (if i = nf then p else ρ i) = ρ i := fun i hi => if_neg (fun e => by subst e; exact hn hi)
  refine ⟨henv, ?_⟩
  have hother : ∀ i c, m.get i = some c → some i ≠ old → ∀ nm, old = some nm → (ρ i).b ≠ (ρ nm).b := by
    intro i c hc hne nm ho
    obtain ⟨b0, hb0, hw0⟩ := hold nm ho
    exact h.apart i nm c b0 hc hb0 (fun e => hne (by rw [e, ho])) (.inr hw0)
  refine sat_next h hos htape hout hsize (fun i hi => .inl hi) ?_ henv ?_ ?_ ?_
  · obtain ⟨N, hN⟩ := h.few
    refine ⟨max N (nf + 1), fun i hi => ?_⟩
    rcases hi with hi | hi
    · have := hN i hi; omega
    · rcases hun i hi with rfl | hi
      · omega
      · have := hN i hi; omega
  · intro k hk hn'
    refine hh k hk (fun nm ho => ?_)
    obtain ⟨b0, hb0, hw0⟩ := hold nm ho
    exact fun e => hn' nm b0 hb0 hw0 e.symm
  · intro i c hc
    rw [hu] at hc
    by_cases e : i = nf
    · rw [if_pos e] at hc
      cases hc
      subst e
      refine .inr ⟨by simpa using hok _ henv (by simp), .inr hnf, b.c.sc_mono (fun _ x => .inl x) hsc, ?_⟩
      simp only [if_true]
      rcases hp with hp | ⟨nm, ho, hp⟩
      · exact .inl hp
      · obtain ⟨b0, hb0, hw0⟩ := hold nm ho
        exact .inr ⟨nm, b0, hb0, fun _ => hw0, hp.symm⟩
    · rw [if_neg e] at hc
      by_cases e2 : some i = old
      · rw [if_pos e2] at hc; cases hc
      · rw [if_neg e2] at hc
        exact .inl ⟨hc, hh _ (Blk.ok_lt (h.ok i c hc)) (fun nm ho => hother i c hc e2 nm ho)⟩
  · intro i j b' c hb hc hij hw
    rw [hu] at hb hc
    have isold : ∀ i b, i ≠ nf → (if some i = old then none else m.get i) = some b → m.get i = some b ∧ p.b ≠ (ρ i).b := by
      intro i b hi hq
      by_cases e : some i = old
      · rw [if_pos e] at hq; cases hq
      · rw [if_neg e] at hq
        refine ⟨hq, ?_⟩
        rcases hp with hp | ⟨nm, ho, hp⟩
        · have := Blk.ok_lt (h.ok i b hq); omega
        · rw [hp]; exact fun x => hother i b hq e nm ho x.symm
    by_cases e1 : i = nf <;> by_cases e2 : j = nf
    · exact absurd (e1.trans e2.symm) hij
    · rw [if_neg e2] at hc
      simp only [e1, e2, if_true, if_false]
      exact (isold j c e2 hc).2
    · rw [if_neg e1] at hb
      simp only [e1, e2, if_true, if_false]
      exact fun x => (isold i b' e1 hb).2 x.symm
    · rw [if_neg e1] at hb
      rw [if_neg e2] at hc
      simp only [e1, e2, if_false]
      exact h.apart i j b' c (isold i b' e1 hb).1 (isold j c e2 hc).1 hij hw

theorem run_append_room' {P : Program} {w : World} {t ty e : TypeId} {i : TypeInfo} (ht : P.underlying t = some (.slice e)) (hi : P.info? e = some i)
    {g sLen sCap : Nat} {cur : Array Value} {e0 : TypeId} (hg : w.heap[g]? = some (.cells cur e0 (0, 0)))
    {a : Addr} {m c : Nat} {news : List Value} (hl : news.length = m * i.size) (hnews : ∀ j u, news[j]? = some u → w.cell? (a.add j) = some u) (h1 : ∀ u ∈ news, u.oneCell' = true)
    (hroom : sLen + m ≤ sCap) (hfit : sLen * i.size + news.length ≤ cur.size) :
    (Builtin.append_ #[t, t] ty #[.slice (some ⟨g, 0, none⟩) sLen sCap, .slice (some a) m c]).run P w =
      .ok (.slice (some ⟨g, 0, none⟩) (sLen + m) sCap) (w.setRow g (cur.toList.take (sLen * i.size) ++ news ++ cur.toList.drop (sLen * i.size + news.length)).toArray) := by
  have hf := run_firstCells_some (P := P) w i.size m a m c news hl hnews
  have hst := run_storeCells_at P g (sLen * i.size) e0 news 0 cur w hg (by simpa using hfit) h1
  simp only [Nat.add_zero] at hst
  simp [Builtin.append_, run_underlying ht, sizeOf, typeInfo, hi, Builtin.lenOf, hroom, hf, Addr.add_lit, hst]

theorem run_append_none {P : Program} {w : World} {t ty e : TypeId} {i : TypeInfo} (ht : P.underlying t = some (.slice e)) (hi : P.info? e = some i) {b : Option Addr} {n c : Nat} (h : n ≤ c) :
    (Builtin.append_ #[t, t] ty #[.slice b n c, .slice none 0 0]).run P w = .ok (.slice b n c) w := by
  cases b <;> simp [Builtin.append_, run_underlying ht, sizeOf, typeInfo, hi, Builtin.lenOf, Builtin.firstCells, h, storeCells]

theorem vals_ones {ρ : Env} {M : List (List AV)} (h : ∀ l ∈ M, ∀ v ∈ l, v.one = true) : ∀ u ∈ AV.vals ρ M.flatten, u.oneCell' = true := by
  intro u hu
  rw [vals_eq] at hu
  obtain ⟨v, hv, rfl⟩ := List.mem_map.1 hu
  obtain ⟨l, hl, hv⟩ := List.mem_flatten.1 hv
  rw [val_one]
  exact h l hl v hv

theorem drew_os (w : World) : w.drew.os = w.os ∧ w.drew.tape = w.tape ∧ w.drew.output = w.output ∧ w.drew.heap = w.heap := ⟨rfl, rfl, rfl, rfl⟩

/-- the cells of a new row -/
theorem arr_ok {P : Program} {ρ' : Env} {w : World} {sz n cap b : Nat} {L : List (List AV)} {z : Value} {e : TypeId} (hL : ∀ l ∈ L, l.length = sz) (hn : L.length = n) (hc : n ≤ cap) (hm : cap ≤ maxLen) (hz : z.cells.size = sz)
    {cs : List Value} (hcs : cs = AV.vals ρ' L.flatten) {w' : World} (hw : w'.heap[b]? = some (.cells (cs.toArray ++ Builtin.zeroCells z.cells (cap - n)) e (0, 0))) :
    Blk.ok ρ' w' ⟨b, 0, cap⟩ ⟨true, .arr sz L⟩ := by
  subst hn
  refine ⟨rfl, hc, hm, hL, _, e, hw, ?_, ?_⟩
  · rw [Array.size_append, List.size_toArray, hcs, vals_length, flatten_len sz L hL]
    have : (Builtin.zeroCells z.cells (cap - L.length)).size = (cap - L.length) * z.cells.size := by simp [Builtin.zeroCells]
    rw [this, hz, ← Nat.add_mul]
    congr 1
    show L.length + (cap - L.length) = cap
    omega
  · rw [hcs]
    have : (AV.vals ρ' L.flatten).length = L.length * sz := by rw [vals_length, flatten_len sz L hL]
    rw [← this]
    simp

theorem aappend_ok {P : Program} {K ρ w m} (h : Sat P.globals.size K ρ w m) {nf : Nat} (hn : ¬ K nf) {t ty : TypeId} {s x : AV} {v : AV} {u} (hs : s.sc K) (ha : (aappend P m nf t s x).ok v u) :
    ∃ w' ρ', Step K ρ w m (addK K u) ρ' w' (m.upds u) ∧ Sat P.globals.size (addK K u) ρ' w' (m.upds u) ∧ v.sc (addK K u) ∧
      (Builtin.append_ #[t, t] ty #[s.val ρ, x.val ρ]).run P w = .ok (v.val ρ') w' := by
  unfold aappend at ha
  split at ha
  · rename_i sz0 by0 ag0 z0 e h1
    split at ha
    · rename_i sz bytes ag1 z1 tk1 h2
      split at ha
      · rename_i M hM
        split at ha
        · rename_i hsz
          have hu := tk_slice h1 rfl
          obtain ⟨i, d, z, hi, hd, hz, hl, hsi, hb, hag, hk⟩ := TY_spec h2
          simp only at hsi hb hl
          have hzs : z.cells.size = sz := by
            have h3 := ofSs_val hl ρ
            have h4 := TY_zero h2
            simp only at h4
            rw [← h4, ← vals_length ρ, h3]
            simp
          obtain ⟨hMl, hMs, hMm, hM'⟩ := elems_ok h hM
          have hMls : (AV.vals ρ M.flatten).length = M.length * i.size := by rw [vals_length, flatten_len sz M hMl, ← hsi]
          have hnf : ∀ (l : List (Nat × Option Blk)), l = l := fun _ => rfl
          split at ha
          · -- nil
            simp only [Res.ok, decide_eq_true_eq] at ha
            split at ha
            · rename_i h0
              obtain ⟨_, rfl, rfl⟩ := ha
              have hM0 : M = [] := List.eq_nil_of_length_eq_zero h0
              subst hM0
              refine ⟨w, ρ, by rw [addK_nil]; exact Step.refl _ _ _ _, by rw [addK_nil]; exact h, by simp [AV.sc], ?_⟩
              rcases hM' with ⟨rfl, _⟩ | ⟨xb, xo, xc, hxv, hlt, hcap, hc⟩
              · simpa [AV.val] using run_append_none (P := P) (w := w) (ty := ty) hu hi (b := none) (n := 0) (c := 0) (Nat.le_refl _)
              · simp [AV.val, hxv, Builtin.append_, run_underlying hu, sizeOf, typeInfo, hi, Builtin.lenOf, Builtin.firstCells, loadCells, loadCellsFrom]
            · rename_i h0
              obtain ⟨⟨hp1, hp2, hp3⟩, rfl, rfl⟩ := ha
              rcases hM' with ⟨rfl, e⟩ | ⟨xb, xo, xc, hxv, hlt, hcap, hc⟩
              · subst e; simp at h0
              · have hcM : ∀ (j : Nat) u, (AV.vals ρ M.flatten)[j]? = some u → w.cell? ((⟨xb, xo, none⟩ : Addr).add j) = some u := fun j u hj => by
                  rw [vals_get] at hj
                  cases hq : M.flatten[j]? with
                  | none => rw [hq] at hj; cases hj
                  | some u' => rw [hq] at hj; cases hj; rw [Addr.add_lit]; exact hc j u' hq
                have hrun := run_append_nil (P := P) w t ty e i z hu hi hz ⟨xb, xo, none⟩ M.length xc (AV.vals ρ M.flatten) hMls hcM (by omega) (by
                  have : maxLen = 9223372036854775807 := rfl
                  omega) (by rw [← hb]; omega)
                generalize hcs : ((AV.vals ρ M.flatten).toArray ++ Builtin.zeroCells z.cells (grownCap w M.length 0 e - M.length)) = cs at hrun
                obtain ⟨ρ', g1, g2, g3, g4⟩ := sat_move h hn (u := [(nf, some ⟨true, .arr sz M⟩)]) (b := ⟨true, .arr sz M⟩) (p := ⟨w.heap.size, 0, grownCap w M.length 0 e⟩) (w' := w.drew.alloc (.cells cs e))
                  none (fun _ h => by cases h) (fun i => by
                    simp only [Mem.upds]
                    split
                    · rename_i e; rw [e, Mem.get_set_same]
                    · rename_i e; rw [Mem.get_set_other _ _ _ _ (fun x => e x.symm)]; simp) (by simp) (by simp) (fun l hl => hMs l hl) rfl rfl rfl (by simp) (.inl (Nat.le_refl _))
                  (fun k hk _ => heap_alloc_old w.drew _ hk)
                  (fun ρ' he hq => by
                    rw [← hcs]
                    exact arr_ok (P := P) (ρ' := ρ') (w := w) (e := e) hMl rfl (grownCap_ge w _ _ _) (grownCap_le_maxLen w _ _ _ hp2) hzs
                      (by rw [AV.vals_congr he _ ((scs_iff K _).2 fun v hv => by
                        obtain ⟨l, hl, hv⟩ := List.mem_flatten.1 hv
                        exact (scs_iff K l).1 (hMs l hl) v hv)]) (heap_alloc_new w.drew _))
                refine ⟨_, ρ', g3, g4, .inr (by simp), ?_⟩
                rw [hxv]
                simp only [AV.val, g1]
                exact hrun
          · -- an own row
            rename_i nm len
            have hnK : K nm := by simpa [AV.sc] using hs
            split at ha
            · rename_i sz' L hg
              split at ha
              · rename_i hc0
                obtain ⟨rfl, hle⟩ := hc0
                obtain ⟨⟨hp1, hp2, hp3⟩, rfl, rfl⟩ := ha
                obtain ⟨k0, k1, k2, k3, cur, e0, hh, hcs, ht⟩ := h.ok _ _ hg
                have hkn := h.known _ _ hg
                have hLl : ∀ l ∈ L.take len ++ M, l.length = sz := fun l hl => by
                  rcases List.mem_append.1 hl with hl | hl
                  · exact k3 l (List.mem_of_mem_take hl)
                  · exact hMl l hl
                have hLn : (L.take len ++ M).length = len + M.length := by simp; omega
                have hLsc : ∀ l ∈ L.take len ++ M, AV.scs K l := fun l hl => by
                  rcases List.mem_append.1 hl with hl | hl
                  · exact hkn.2 l (List.mem_of_mem_take hl)
                  · exact hMs l hl
                have hu' : ∀ i, (m.upds [(nm, none), (nf, some ⟨true, .arr sz (L.take len ++ M)⟩)]).get i = if i = nf then some ⟨true, .arr sz (L.take len ++ M)⟩ else if some i = some nm then none else m.get i := fun i => by
                  simp only [Mem.upds]
                  split
                  · rename_i e; rw [e, Mem.get_set_same]
                  · rename_i e
                    rw [Mem.get_set_other _ _ _ _ (fun x => e x.symm)]
                    split
                    · rename_i e2; cases e2; rw [Mem.get_set_same]
                    · rename_i e2; rw [Mem.get_set_other _ _ _ _ (fun x => e2 (by rw [x]))]
                have hun' : ∀ i, i ∈ ([(nm, none), (nf, some ⟨true, .arr sz (L.take len ++ M)⟩)] : List (Nat × Option Blk)).map (·.1) → i = nf ∨ K i := by
                  intro i hi
                  simp at hi
                  rcases hi with rfl | rfl
                  · exact .inr hnK
                  · exact .inl rfl
                have hvsc : ∀ ρ' : Env, (∀ i, K i → ρ' i = ρ i) → AV.vals ρ' (L.take len ++ M).flatten = AV.vals ρ (L.take len ++ M).flatten := fun ρ' he =>
                  AV.vals_congr he _ ((scs_iff K _).2 fun v hv => by
                    obtain ⟨l, hl, hv⟩ := List.mem_flatten.1 hv
                    exact (scs_iff K l).1 (hLsc l hl) v hv)
                have htl : AV.vals ρ (L.take len).flatten = cur.toList.take (len * sz) := by
                  have e1 : L.flatten = (L.take len).flatten ++ (L.drop len).flatten := by rw [← List.flatten_append, List.take_append_drop]
                  have e2 : (L.take len).flatten.length = len * sz := by rw [flatten_len sz _ (fun l hl => k3 l (List.mem_of_mem_take hl)), List.length_take, Nat.min_eq_left hle]
                  have e3 : AV.vals ρ (L.take len).flatten = (AV.vals ρ L.flatten).take (len * sz) := by rw [e1, vals_append, ← e2, ← vals_length ρ, List.take_left]
                  rw [e3, ← ht, List.take_take, Nat.min_eq_left (Nat.mul_le_mul_right _ hle)]
                have hknf : ∀ (x : Prop), x → x := fun _ h => h
                rcases hM' with ⟨rfl, e⟩ | ⟨xb, xo, xc, hxv, hlt, hcap, hc⟩
                · subst e
                  obtain ⟨ρ', g1, g2, g3, g4⟩ := sat_move h hn (u := [(nm, none), (nf, some ⟨true, .arr sz (L.take len ++ [])⟩)]) (b := ⟨true, .arr sz (L.take len ++ [])⟩) (p := ρ nm) (w' := w)
                    (some nm) (fun n hn => by cases hn; exact ⟨_, hg, rfl⟩) hu' hun' (by simp) hLsc rfl rfl rfl (Nat.le_refl _) (.inr ⟨nm, rfl, rfl⟩) (fun _ _ _ => rfl)
                    (fun ρ' he hq => ⟨k0, by rw [hLn]; simp; omega, k2, hLl, cur, e0, hh, hcs, by rw [hvsc ρ' he, hLn]; simp only [List.append_nil, List.length_nil, Nat.add_zero]; exact htl.symm⟩)
                  refine ⟨_, ρ', g3, g4, .inr (by simp), ?_⟩
                  simp only [AV.val, g1]
                  exact run_append_none hu hi (by omega)
                · have hcM : ∀ (j : Nat) u, (AV.vals ρ M.flatten)[j]? = some u → w.cell? ((⟨xb, xo, none⟩ : Addr).add j) = some u := fun j u hj => by
                    rw [vals_get] at hj
                    cases hq : M.flatten[j]? with
                    | none => rw [hq] at hj; cases hj
                    | some u' => rw [hq] at hj; cases hj; rw [Addr.add_lit]; exact hc j u' hq
                  have hone := vals_ones (ρ := ρ) hp3
                  by_cases hroom : len + M.length ≤ (ρ nm).cap
                  · have hfit : len * i.size + (AV.vals ρ M.flatten).length ≤ cur.size := by
                      rw [hMls, hcs, ← hsi, ← Nat.add_mul]; exact Nat.mul_le_mul_right _ hroom
                    have hrun := run_append_room' (P := P) (w := w) (ty := ty) hu hi hh (c := xc) hMls hcM hone hroom hfit
                    generalize hcsn : (cur.toList.take (len * i.size) ++ AV.vals ρ M.flatten ++ cur.toList.drop (len * i.size + (AV.vals ρ M.flatten).length)).toArray = csn at hrun
                    obtain ⟨w1, w2, w3, w4, w5, w6⟩ := setRow_world hh csn
                    obtain ⟨ρ', g1, g2, g3, g4⟩ := sat_move h hn (u := [(nm, none), (nf, some ⟨true, .arr sz (L.take len ++ M)⟩)]) (b := ⟨true, .arr sz (L.take len ++ M)⟩) (p := ρ nm) (w' := w.setRow (ρ nm).b csn)
                      (some nm) (fun n hn => by cases hn; exact ⟨_, hg, rfl⟩) hu' hun' (by simp) hLsc w1 w2 w3 (by rw [w4]; exact Nat.le_refl _) (.inr ⟨nm, rfl, rfl⟩) (fun k _ hk => w5 k (hk nm rfl))
                      (fun ρ' he hq => by
                        refine ⟨k0, by rw [hLn]; exact hroom, k2, hLl, csn, e0, w6, ?_, ?_⟩
                        · rw [← hcsn]
                          simp only [List.size_toArray, List.length_append, List.length_take, List.length_drop, Array.length_toList]
                          rw [hMls] at hfit ⊢
                          omega
                        · rw [hvsc ρ' he, hLn, ← hcsn]
                          simp only [List.toList_toArray]
                          have e1 : (cur.toList.take (len * i.size) ++ AV.vals ρ M.flatten).length = (len + M.length) * sz := by
                            rw [List.length_append, List.length_take, Array.length_toList, hMls, ← hsi, Nat.add_mul, Nat.min_eq_left]
                            rw [hMls, ← hsi] at hfit
                            omega
                          rw [← e1, List.take_left, List.flatten_append, vals_append, htl, hsi])
                    refine ⟨_, ρ', g3, g4, .inr (by simp), ?_⟩
                    rw [hxv]
                    simp only [AV.val, g1]
                    have e0' : (ρ nm).off = 0 := k0
                    rw [e0']
                    exact hrun
                  · have holds : ∀ (j : Nat) u, (AV.vals ρ (L.take len).flatten)[j]? = some u → w.cell? ((⟨(ρ nm).b, (ρ nm).off, none⟩ : Addr).add j) = some u := fun j u hj => by
                      rw [Addr.add_lit, k0, Nat.zero_add, cell_of_heap hh]
                      rw [htl, List.getElem?_take] at hj
                      split at hj
                      · simpa using hj
                      · cases hj
                    have hol : (AV.vals ρ (L.take len).flatten).length = len * i.size := by
                      rw [vals_length, flatten_len sz _ (fun l hl => k3 l (List.mem_of_mem_take hl)), List.length_take, Nat.min_eq_left hle, ← hsi]
                    have hrun := run_append_grow (P := P) w t ty e i z hu hi hz ⟨(ρ nm).b, (ρ nm).off, none⟩ len (ρ nm).cap (AV.vals ρ (L.take len).flatten) hol holds
                      ⟨xb, xo, none⟩ M.length xc (AV.vals ρ M.flatten) hMls hcM (by omega) (by
                        have : maxLen = 9223372036854775807 := rfl
                        omega) (growslice_fits (by omega) (by rw [← hb]; exact hp1))
                    generalize hcsn : ((AV.vals ρ (L.take len).flatten).toArray ++ (AV.vals ρ M.flatten).toArray ++ Builtin.zeroCells z.cells (grownCap w (len + M.length) (ρ nm).cap e - (len + M.length))) = csn at hrun
                    obtain ⟨ρ', g1, g2, g3, g4⟩ := sat_move h hn (u := [(nm, none), (nf, some ⟨true, .arr sz (L.take len ++ M)⟩)]) (b := ⟨true, .arr sz (L.take len ++ M)⟩) (p := ⟨w.heap.size, 0, grownCap w (len + M.length) (ρ nm).cap e⟩) (w' := w.drew.alloc (.cells csn e))
                      (some nm) (fun n hn => by cases hn; exact ⟨_, hg, rfl⟩) hu' hun' (by simp) hLsc rfl rfl rfl (by simp) (.inl (Nat.le_refl _))
                      (fun k hk _ => heap_alloc_old w.drew _ hk)
                      (fun ρ' he hq => by
                        rw [← hcsn]
                        exact arr_ok (P := P) (ρ' := ρ') (w := w) (e := e) (cs := AV.vals ρ (L.take len ++ M).flatten) hLl hLn (grownCap_ge w _ _ _) (grownCap_le_maxLen w _ _ _ hp2) hzs (hvsc ρ' he).symm
                          (by
                            have := heap_alloc_new w.drew (.cells ((AV.vals ρ (L.take len).flatten).toArray ++ (AV.vals ρ M.flatten).toArray ++ Builtin.zeroCells z.cells (grownCap w (len + M.length) (ρ nm).cap e - (len + M.length))) e)
                            simpa [vals_append] using this))
                    refine ⟨_, ρ', g3, g4, .inr (by simp), ?_⟩
                    rw [hxv]
                    simp only [AV.val, g1]
                    exact hrun
              · exact ha.elim
            · exact ha.elim
          · exact ha.elim
        · exact ha.elim
      · exact ha.elim
    · exact ha.elim
  · exact ha.elim

end Go.Fw
