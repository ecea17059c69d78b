/- The operations' soundness, on. -/
import Derived.Test.YtbndodeihodjfaaGreatFwOps
namespace Go.Fw
set_option linter.unusedVariables false
set_option linter.unusedSimpArgs false

theorem run_v {P : Program} {s : Sem Value} {x : Value} {w w' : World} (h : s.run P w = .ok x w') : (do pure (Next.value (← s)) : Sem Next).run P w = .ok (.value x) w' := by
  simp [h]

/-! ### Storing -/
theorem set_at (l : List AV) (o : Nat) (cs : List AV) (h : o + cs.length ≤ l.length) : (l.take o ++ cs ++ l.drop (o + cs.length)).length = l.length := by
  simp; omega

theorem flatten_set_get {α : Type} (sz : Nat) (L : List (List α)) (hL : ∀ l ∈ L, l.length = sz) (i : Nat) (c : List α) (hc : c.length = sz) (hi : i < L.length) :
    (L.set i c).flatten = L.flatten.take (i * sz) ++ c ++ L.flatten.drop (i * sz + sz) := by
  induction L generalizing i with
  | nil => simp at hi
  | cons l L ih =>
    have hl := hL l (by simp)
    cases i with
    | zero =>
      simp only [List.set_cons_zero, List.flatten_cons, Nat.zero_mul, List.take_zero, List.nil_append, Nat.zero_add]
      rw [← hl, List.drop_left]
    | succ i =>
      have := ih (fun x hx => hL x (by simp [hx])) i (by simp at hi; omega)
      simp only [List.set_cons_succ, List.flatten_cons, this]
      have e1 : (i + 1) * sz = l.length + i * sz := by rw [Nat.add_mul, hl]; omega
      rw [e1, List.take_length_add_append]
      rw [Nat.add_assoc, List.drop_length_add_append]
      simp

theorem run_storeVar {P : Program} {w : World} {t : TypeId} {T : TyI} (hT : TY P t = some T) {g o : Nat} {cur : Array Value} {e : TypeId} (hg : w.heap[g]? = some (.cells cur e (0, 0)))
    {v : Value} {vs : List Value} (hv : v.cells = ⟨vs⟩) (hlen : vs.length = T.size) (h1 : ∀ x ∈ vs, x.oneCell' = true) (hfit : o + vs.length ≤ cur.size) :
    (storeVar t ⟨g, o, none⟩ v).run P w = .ok () (w.setRow g (cur.toList.take o ++ vs ++ cur.toList.drop (o + vs.length)).toArray) := by
  have h := run_storeCells_at P g o e vs 0 cur w hg (by simpa using hfit) h1
  simp only [Nat.add_zero] at h
  have e1 : v.cells.size = T.size := by rw [hv]; simpa using hlen
  rw [storeVar, Sem.run_bind, run_sizeOf hT]
  have e2 : (⟨vs⟩ : Array Value).size = T.size := by simpa using hlen
  simp only [Result.andThen_ok, e2, ne_eq, not_true_eq_false, if_false, hv]
  exact h

theorem setRow_world {w : World} {g : Nat} {cur : Array Value} {e : TypeId} {fr : Nat × Nat} (hg : w.heap[g]? = some (.cells cur e fr)) (cs : Array Value) :
    (w.setRow g cs).os = w.os ∧ (w.setRow g cs).tape = w.tape ∧ (w.setRow g cs).output = w.output ∧ (w.setRow g cs).heap.size = w.heap.size ∧
      (∀ k, k ≠ g → (w.setRow g cs).heap[k]? = w.heap[k]?) ∧ (w.setRow g cs).heap[g]? = some (.cells cs e fr) := by
  refine ⟨rfl, rfl, rfl, by simp [World.setRow], fun k hk => ?_, ?_⟩
  · simp only [World.setRow, Array.getElem?_modify]
    rw [if_neg (by omega)]
  · simp only [World.setRow, Array.getElem?_modify]
    simp [hg]

theorem storeN_ok {P : Program} {G K ρ w m} (h : Sat G K ρ w m) {t : TypeId} {T : TyI} (hT : TY P t = some T) {a : AV} {x : AV} {nm : Nat} {b : Blk}
    (hs : m.storeN a x.cells = some (nm, b)) (hlen : x.cells.length = T.size) (hone : (x.cells.all AV.one) = true) (hsc : x.sc K) :
    ∃ w', (Instr.storeAt t (a.val ρ) (x.val ρ)).run P w = .ok () w' ∧ Step K ρ w m (addK K [(nm, some b)]) ρ w' (m.upds [(nm, some b)]) ∧ Sat G (addK K [(nm, some b)]) ρ w' (m.upds [(nm, some b)]) := by
  have hvs1 : ∀ y ∈ AV.vals ρ x.cells, y.oneCell' = true := by
    intro y hy
    rw [vals_eq] at hy
    obtain ⟨z, hz, rfl⟩ := List.mem_map.1 hy
    rw [val_one]
    exact (List.all_eq_true.1 hone) z hz
  unfold Mem.storeN at hs
  split at hs
  · rename_i nm' o
    split at hs
    · rename_i l hg
      split at hs
      · rename_i hle
        simp only [Option.some.injEq, Prod.mk.injEq] at hs
        obtain ⟨rfl, rfl⟩ := hs
        obtain ⟨h0, e, hh⟩ := h.ok _ _ hg
        have hrun := run_storeVar (P := P) (w := w) hT hh (o := o) (v := x.val ρ) (vs := AV.vals ρ x.cells) (val_cells ρ x) (by rw [vals_length, hlen]) hvs1 (by simpa [vals_length] using hle)
        generalize hcs : ((⟨AV.vals ρ l⟩ : Array Value).toList.take o ++ AV.vals ρ x.cells ++ (⟨AV.vals ρ l⟩ : Array Value).toList.drop (o + (AV.vals ρ x.cells).length)).toArray = cs at hrun
        obtain ⟨w1, w2, w3, w4, w5, w6⟩ := setRow_world hh cs
        refine ⟨w.setRow (ρ nm').b cs, by simpa [Instr.storeAt, AV.val, Instr.sureAddr, h0] using hrun, ?_⟩
        refine sat_write h hg rfl (b := ⟨true, .fin (l.take o ++ x.cells ++ l.drop (o + x.cells.length))⟩) ?_ w1 w2 w3 (by rw [w4]; exact Nat.le_refl _) (fun k _ hk => w5 k hk) ⟨h0, e, ?_⟩
        · have := (h.known _ _ hg).2
          simp only [Cont.sc] at this ⊢
          rw [scs_iff] at this ⊢
          intro v hv
          simp only [List.mem_append] at hv
          rcases hv with (hv | hv) | hv
          · exact this v (List.mem_of_mem_take hv)
          · exact (scs_iff K _).1 ((sc_cells K x).2 hsc) v hv
          · exact this v (List.mem_of_mem_drop hv)
        · rw [w6, ← hcs]
          simp [vals_append, vals_take, vals_drop, vals_length]
      · cases hs
    · cases hs
  · rename_i nm' sz i k
    split at hs
    · rename_i sz' L hg
      split at hs
      · rename_i hle
        obtain ⟨rfl, hle⟩ := hle
        split at hs
        · rename_i c0 hc0
          simp only [Option.some.injEq, Prod.mk.injEq] at hs
          obtain ⟨rfl, rfl⟩ := hs
          obtain ⟨h0, h1, h2, h3, cur, e, hh, hcs, ht⟩ := h.ok _ _ hg
          have hi : i < L.length := (List.getElem?_eq_some_iff.1 hc0).1
          have hc0l : c0.length = sz := h3 c0 (List.mem_of_getElem? hc0)
          have hroom : i * sz + sz ≤ cur.size := by
            rw [hcs]
            have : (i + 1) * sz ≤ (ρ nm').cap * sz := Nat.mul_le_mul_right _ (by omega)
            rw [Nat.add_mul] at this; omega
          have hrun := run_storeVar (P := P) (w := w) hT hh (o := i * sz + k) (v := x.val ρ) (vs := AV.vals ρ x.cells) (val_cells ρ x) (by rw [vals_length, hlen]) hvs1 (by rw [vals_length]; omega)
          generalize hcsn : (cur.toList.take (i * sz + k) ++ AV.vals ρ x.cells ++ cur.toList.drop (i * sz + k + (AV.vals ρ x.cells).length)).toArray = csn at hrun
          obtain ⟨w1, w2, w3, w4, w5, w6⟩ := setRow_world hh csn
          refine ⟨w.setRow (ρ nm').b csn, by simpa [Instr.storeAt, AV.val, Instr.sureAddr, h0] using hrun, ?_⟩
          have hnewl : (c0.take k ++ x.cells ++ c0.drop (k + x.cells.length)).length = sz := by rw [set_at _ _ _ (by omega), hc0l]
          refine sat_write h hg rfl (b := ⟨true, .arr sz (L.set i (c0.take k ++ x.cells ++ c0.drop (k + x.cells.length)))⟩) ?_ w1 w2 w3 (by rw [w4]; exact Nat.le_refl _) (fun k _ hk => w5 k hk) ⟨h0, by simpa using h1, h2, ?_, ?_⟩
          · have hkn := (h.known _ _ hg).2
            simp only [Cont.sc] at hkn ⊢
            intro l hl
            rcases List.mem_or_eq_of_mem_set hl with hl | rfl
            · exact hkn l hl
            · have := hkn c0 (List.mem_of_getElem? hc0)
              rw [scs_iff] at this ⊢
              intro v hv
              simp only [List.mem_append] at hv
              rcases hv with (hv | hv) | hv
              · exact this v (List.mem_of_mem_take hv)
              · exact (scs_iff K _).1 ((sc_cells K x).2 hsc) v hv
              · exact this v (List.mem_of_mem_drop hv)
          · intro l hl
            rcases List.mem_or_eq_of_mem_set hl with hl | rfl
            · exact h3 l hl
            · exact hnewl
          · subst hcsn
            refine ⟨_, e, w6, by simp [vals_length]; omega, ?_⟩
            rw [List.length_set, flatten_set_get sz L h3 i _ hnewl hi]
            have hfl : L.flatten.length = L.length * sz := flatten_len sz L h3
            have hLs : i * sz + sz ≤ L.length * sz := by
              have : (i + 1) * sz ≤ L.length * sz := Nat.mul_le_mul_right _ (by omega)
              rw [Nat.add_mul] at this; omega
            have hcl : cur.toList.length = cur.size := by simp
            have eF : (L.flatten.take (i * sz)).length = i * sz := by rw [List.length_take, hfl]; omega
            have eC : (cur.toList.take (i * sz + k)).length = i * sz + k := by rw [List.length_take, hcl]; omega
            have e0 : (c0.take k).length = k := by rw [List.length_take]; omega
            have eX : (AV.vals ρ x.cells).length = x.cells.length := vals_length _ _
            have eD : (c0.drop (k + x.cells.length)).length = sz - (k + x.cells.length) := by rw [List.length_drop, hc0l]
            apply List.ext_getElem?
            intro j
            have htj : ∀ j, j < L.length * sz → cur.toList[j]? = (AV.vals ρ L.flatten)[j]? := fun j hj => by
              rw [← ht, List.getElem?_take, if_pos hj]
            by_cases hj : j < L.length * sz
            · rw [List.getElem?_take, if_pos (by simpa using hj)]
              simp only [List.toList_toArray]
              rw [vals_get]
              -- the stored stretch
              rcases Nat.lt_or_ge j (i * sz + k) with hj1 | hj1
              · rw [List.append_assoc, List.getElem?_append_left (by rw [eC]; omega), List.getElem?_take, if_pos hj1, htj j hj, vals_get]
                rcases Nat.lt_or_ge j (i * sz) with hj2 | hj2
                · rw [List.append_assoc (L.flatten.take (i * sz)), List.getElem?_append_left (by rw [eF]; omega), List.getElem?_take, if_pos hj2]
                · rw [List.append_assoc (L.flatten.take (i * sz)), List.getElem?_append_right (by rw [eF]; omega)]
                  rw [eF, List.append_assoc, List.append_assoc, List.getElem?_append_left (by rw [e0]; omega), List.getElem?_take, if_pos (by omega)]
                  have := flatten_get sz L h3 i (j - i * sz) c0 hc0 (by omega)
                  rw [show i * sz + (j - i * sz) = j by omega] at this
                  rw [this]
              · rcases Nat.lt_or_ge j (i * sz + k + x.cells.length) with hj2 | hj2
                · rw [List.getElem?_append_left (by rw [List.length_append, eC, eX]; omega), List.getElem?_append_right (by rw [eC]; omega)]
                  rw [eC, vals_get]
                  rw [List.getElem?_append_left (by simp only [List.length_append, eF, e0, eD]; omega), List.getElem?_append_right (by rw [eF]; omega)]
                  rw [eF, List.getElem?_append_left (by simp only [List.length_append, e0]; omega), List.getElem?_append_right (by rw [e0]; omega)]
                  rw [e0, show j - i * sz - k = j - (i * sz + k) by omega]
                · rw [List.getElem?_append_right (by simp only [List.length_append, eC, eX]; omega)]
                  have e1 : (cur.toList.take (i * sz + k) ++ AV.vals ρ x.cells).length = i * sz + k + x.cells.length := by simp only [List.length_append, eC, eX]
                  rw [e1, eX, List.getElem?_drop, show i * sz + k + x.cells.length + (j - (i * sz + k + x.cells.length)) = j by omega, htj j hj, vals_get]
                  rcases Nat.lt_or_ge j (i * sz + sz) with hj3 | hj3
                  · rw [List.getElem?_append_left (by simp only [List.length_append, eF, e0, eD]; omega), List.getElem?_append_right (by rw [eF]; omega)]
                    rw [eF, List.getElem?_append_right (by simp only [List.length_append, e0]; omega)]
                    have e3 : (c0.take k ++ x.cells).length = k + x.cells.length := by simp only [List.length_append, e0]
                    rw [e3, List.getElem?_drop, show k + x.cells.length + (j - i * sz - (k + x.cells.length)) = j - i * sz by omega]
                    have := flatten_get sz L h3 i (j - i * sz) c0 hc0 (by omega)
                    rw [show i * sz + (j - i * sz) = j by omega] at this
                    rw [this]
                  · have e2 : (L.flatten.take (i * sz) ++ (c0.take k ++ x.cells ++ c0.drop (k + x.cells.length))).length = i * sz + sz := by
                      rw [List.length_append, hnewl, eF]
                    rw [List.getElem?_append_right (by rw [e2]; omega)]
                    rw [e2, List.getElem?_drop, show i * sz + sz + (j - (i * sz + sz)) = j by omega]
            · rw [List.getElem?_take, if_neg (by simpa using hj)]
              rw [List.getElem?_eq_none]
              rw [vals_length]
              rw [List.length_append, List.length_append, hnewl, eF, List.length_drop, hfl]
              omega
        · cases hs
      · cases hs
    · cases hs
  · cases hs

end Go.Fw
