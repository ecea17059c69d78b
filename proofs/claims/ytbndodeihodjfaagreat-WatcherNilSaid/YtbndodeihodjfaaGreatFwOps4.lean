/- The operations' soundness: each operation that is no call. -/
import Derived.Test.YtbndodeihodjfaaGreatFwOps3
namespace Go.Fw
set_option linter.unusedVariables false
set_option linter.unusedSimpArgs false

/-- A result that stands. -/
def Res.ok : Res → AV → List (Nat × Option Blk) → Prop
  | @Res.val pre _ v u, v', u' => pre ∧ v' = v ∧ u' = u
  | .ite b x y, v', u' => if b then x.ok v' u' else y.ok v' u'
  | _, _, _ => False

theorem ok_pure {G K ρ w m} (h : Sat G K ρ w m) {pre : Prop} [Decidable pre] {x v : AV} {u} (hr : (Res.val pre x []).ok v u) {r : Result Next} (hs : pre → x.sc K) (hrun : pre → r = .ok (.value (x.val ρ)) w) : Good G K ρ w m r v u := by
  obtain ⟨hp, rfl, rfl⟩ := hr
  exact good_pure h (hs hp) (hrun hp)

/-! ### build -/
theorem foldl_set (l : List Value) (off : Nat) : ∀ (i : Nat) (cs : Array Value), off + i + l.length ≤ cs.size →
    ((l.zipIdx i).foldl (fun (cs : Array Value) (p : Value × Nat) => cs.setIfInBounds (off + p.2) p.1) cs).toList = cs.toList.take (off + i) ++ l ++ cs.toList.drop (off + i + l.length) := by
  induction l with
  | nil => intro i cs h; simp
  | cons v l ih =>
    intro i cs h
    simp only [List.length_cons] at h
    simp only [List.zipIdx_cons, List.foldl_cons]
    rw [ih (i + 1) _ (by simp; omega)]
    apply List.ext_getElem?
    intro j
    have hsz : cs.toList.length = cs.size := by simp
    simp only [Array.toList_setIfInBounds, List.append_assoc, List.cons_append, List.length_cons]
    have e1 : (List.take (off + (i + 1)) (cs.toList.set (off + i) v)).length = off + i + 1 := by simp; omega
    have e2 : (List.take (off + i) cs.toList).length = off + i := by simp; omega
    rcases Nat.lt_or_ge j (off + i) with hj | hj
    · rw [List.getElem?_append_left (by rw [e1]; omega), List.getElem?_append_left (by rw [e2]; omega), List.getElem?_take, List.getElem?_take, if_pos (by omega), if_pos hj, List.getElem?_set_ne (by omega)]
    · rcases Nat.lt_or_ge j (off + i + 1) with hj1 | hj1
      · have : j = off + i := by omega
        subst this
        rw [List.getElem?_append_left (by rw [e1]; omega), List.getElem?_append_right (by rw [e2]; omega), List.getElem?_take, if_pos (by omega), e2, List.getElem?_set_self (by rw [hsz]; omega), Nat.sub_self]
        rfl
      · conv => lhs; rw [List.getElem?_append_right (by rw [e1]; omega), e1]
        conv => rhs; rw [List.getElem?_append_right (by rw [e2]; omega), e2, show j - (off + i) = (j - (off + i + 1)) + 1 by omega, List.getElem?_cons_succ]
        rcases Nat.lt_or_ge (j - (off + i + 1)) l.length with hj2 | hj2
        · rw [List.getElem?_append_left hj2, List.getElem?_append_left hj2]
        · conv => lhs; rw [List.getElem?_append_right hj2, List.getElem?_drop, List.getElem?_set_ne (by omega)]
          conv => rhs; rw [List.getElem?_append_right hj2, List.getElem?_drop]
          congr 1; omega

theorem fill_ok {ρ : Env} {place : Nat → Option (Nat × Nat)} : ∀ (parts : List (Nat × AV)) (cells l : List AV), fillA place cells parts = some l →
    Instr.fill place ⟨AV.vals ρ cells⟩ (parts.map fun p => (p.1, p.2.val ρ)) = some ⟨AV.vals ρ l⟩
  | [], cells, l, h => by simp [fillA] at h; subst h; simp [Instr.fill]
  | (i, v) :: rest, cells, l, h => by
    simp only [fillA] at h
    cases hp : place i with
    | none => rw [hp] at h; cases h
    | some os =>
      rw [hp] at h
      obtain ⟨off, size⟩ := os
      simp only at h
      split at h
      · rename_i hc
        obtain ⟨hsz, hle⟩ := hc
        have ih := fill_ok (ρ := ρ) rest _ l h
        have hcs : (v.val ρ).cells.size = v.cells.length := by rw [val_cells]; simp [vals_length]
        have hfold : ((v.val ρ).cells.zipIdx.foldl (fun cs (p : Value × Nat) => cs.setIfInBounds (off + p.2) p.1) (⟨AV.vals ρ cells⟩ : Array Value)) = ⟨AV.vals ρ (cells.take off ++ v.cells ++ cells.drop (off + v.cells.length))⟩ := by
          apply Array.ext'
          rw [← Array.foldl_toList, Array.toList_zipIdx, val_cells]
          have := foldl_set (AV.vals ρ v.cells) off 0 ⟨AV.vals ρ cells⟩ (by simp [vals_length]; omega)
          rw [this]
          simp [vals_append, vals_take, vals_drop, vals_length]
        simp only [List.map_cons, Instr.fill, hp]
        have hneg : ¬ ((v.val ρ).cells.size ≠ size ∨ off + (v.val ρ).cells.size > (⟨AV.vals ρ cells⟩ : Array Value).size) := by
          have e1 : (⟨AV.vals ρ cells⟩ : Array Value).size = cells.length := by simp [vals_length]
          rw [hcs, e1]; omega
        rw [if_neg (by rw [Bool.or_eq_true, decide_eq_true_eq, decide_eq_true_eq]; exact hneg)]
        rw [hfold]
        exact ih
      · cases h
theorem fill_sc {K : Nat → Prop} {place : Nat → Option (Nat × Nat)} : ∀ (parts : List (Nat × AV)) (cells l : List AV), fillA place cells parts = some l → AV.scs K cells → (∀ p ∈ parts, p.2.sc K) → AV.scs K l
  | [], cells, l, h, hs, _ => by simp [fillA] at h; subst h; exact hs
  | (i, v) :: rest, cells, l, h, hs, hp => by
    simp only [fillA] at h
    split at h
    · cases h
    · split at h
      · refine fill_sc rest _ l h ?_ (fun p hp' => hp p (by simp [hp']))
        rw [scs_iff] at hs ⊢
        intro x hx
        simp only [List.mem_append] at hx
        rcases hx with (hx | hx) | hx
        · exact hs x (List.mem_of_mem_take hx)
        · exact (scs_iff K _).1 ((sc_cells K v).2 (hp (i, v) (by simp))) x hx
        · exact hs x (List.mem_of_mem_drop hx)
      · cases h

/-! ### buildSlice -/
theorem fill_order {ρ : Env} {sz : Nat} : ∀ (parts : List (Nat × AV)) (k : Nat) (L : List (List AV)) (cells : List Value), inOrder k parts = some L → (∀ l ∈ L, l.length = sz) → cells.length = (k + L.length) * sz →
    Instr.fill (fun i => some (i * sz, sz)) ⟨cells⟩ (parts.map fun p => (p.1, p.2.val ρ)) = some ⟨cells.take (k * sz) ++ AV.vals ρ L.flatten⟩
  | [], k, L, cells, h, hL, hc => by
    simp only [inOrder, Option.some.injEq] at h
    subst h
    simp only [List.map_nil, Instr.fill, List.flatten_nil, AV.vals, List.append_nil]
    rw [List.take_of_length_le (by simp at hc; omega)]
  | (i, v) :: rest, k, L, cells, h, hL, hc => by
    simp only [inOrder] at h
    split at h
    · rename_i hi
      subst hi
      cases hr : inOrder (i + 1) rest with
      | none => rw [hr] at h; cases h
      | some L' =>
        rw [hr] at h
        simp only [Option.map_some, Option.some.injEq] at h
        subst h
        have hv : v.cells.length = sz := hL _ (by simp)
        simp only [List.length_cons] at hc
        have hcs : (v.val ρ).cells.size = sz := by rw [val_cells]; simp [vals_length, hv]
        have hle : i * sz + sz ≤ cells.length := by
          rw [hc]
          have : (i + 1) * sz ≤ (i + (L'.length + 1)) * sz := Nat.mul_le_mul_right _ (by omega)
          rw [Nat.add_mul] at this; omega
        have hfold : ((v.val ρ).cells.zipIdx.foldl (fun cs (p : Value × Nat) => cs.setIfInBounds (i * sz + p.2) p.1) (⟨cells⟩ : Array Value)) = ⟨cells.take (i * sz) ++ AV.vals ρ v.cells ++ cells.drop (i * sz + sz)⟩ := by
          apply Array.ext'
          rw [← Array.foldl_toList, Array.toList_zipIdx, val_cells]
          have := foldl_set (AV.vals ρ v.cells) (i * sz) 0 ⟨cells⟩ (by simp [vals_length, hv]; omega)
          rw [this]
          simp [vals_length, hv]
        have hl' : (cells.take (i * sz) ++ AV.vals ρ v.cells ++ cells.drop (i * sz + sz)).length = (i + 1 + L'.length) * sz := by
          simp only [List.length_append, List.length_take, List.length_drop, vals_length, hv]
          rw [show (i + 1 + L'.length) * sz = (i + (L'.length + 1)) * sz by congr 1; omega, ← hc]
          omega
        have ih := fill_order (ρ := ρ) (sz := sz) rest (i + 1) L' _ hr (fun l hl => hL l (by simp [hl])) hl'
        simp only [List.map_cons, Instr.fill]
        rw [if_neg (by rw [hcs]; simp; omega), hfold, ih]
        congr 2
        simp only [List.flatten_cons, vals_append]
        have e1 : (cells.take (i * sz) ++ AV.vals ρ v.cells).length = (i + 1) * sz := by
          simp only [List.length_append, List.length_take, vals_length, hv, Nat.add_mul]; omega
        rw [← e1, List.take_left, List.append_assoc]
    · cases h
theorem inOrder_sc {K : Nat → Prop} : ∀ (parts : List (Nat × AV)) (k : Nat) (L : List (List AV)), inOrder k parts = some L → (∀ p ∈ parts, p.2.sc K) → ∀ l ∈ L, AV.scs K l
  | [], k, L, h, _, l, hl => by simp [inOrder] at h; subst h; simp at hl
  | (i, v) :: rest, k, L, h, hp, l, hl => by
    simp only [inOrder] at h
    split at h
    · cases hr : inOrder (k + 1) rest with
      | none => rw [hr] at h; cases h
      | some L' =>
        rw [hr] at h
        simp only [Option.map_some, Option.some.injEq] at h
        subst h
        rcases List.mem_cons.1 hl with rfl | hl
        · exact (sc_cells K v).2 (hp (i, v) (by simp))
        · exact inOrder_sc rest (k + 1) L' hr (fun p hp' => hp p (by simp [hp'])) l hl
    · cases h

end Go.Fw
