/- The kernel's machine: regions that draw their order: the parts. -/
import Derived.Test.YtbndodeihodjfaaGreatFwExecS3
namespace Go.Fw
set_option linter.unusedVariables false
set_option linter.unusedSimpArgs false

theorem map_congr_ev {evf evf' : Operand → AV} : ∀ {l : List Operand}, (∀ x ∈ l, evf x = evf' x) → l.map evf = l.map evf' := fun h => List.map_congr_left h
theorem parts_congr {evf evf' : Operand → AV} {l : List (Nat × Operand)} (h : ∀ x ∈ l.map (·.2), evf x = evf' x) : l.map (fun p => (p.1, evf p.2)) = l.map (fun p => (p.1, evf' p.2)) :=
  List.map_congr_left fun p hp => by rw [h p.2 (List.mem_map.2 ⟨p, hp, rfl⟩)]
theorem opt_congr {evf evf' : Operand → AV} {o : Option Operand} (h : ∀ x ∈ o.toArray.toList, evf x = evf' x) : o.map evf = o.map evf' := by
  cases o with
  | none => rfl
  | some x => simp only [Option.map_some]; rw [h x (by simp [Option.toArray])]

theorem aop_ev {P : Program} {evf evf' : Operand → AV} {m : Mem} {nf : Nat} (o : Op) (h : ∀ x ∈ o.operands.toList, evf x = evf' x) : aop P evf m nf o = aop P evf' m nf o := by
  cases o with
  | move x => simp only [aop, h x (by simp [Op.operands])]
  | assign x => simp only [aop, h x (by simp [Op.operands])]
  | box t x => simp only [aop, h x (by simp [Op.operands])]
  | load t x => simp only [aop, h x (by simp [Op.operands])]
  | nilCheck x => simp only [aop, h x (by simp [Op.operands])]
  | unOp o t x => simp only [aop, h x (by simp [Op.operands])]
  | convert s d x => simp only [aop, h x (by simp [Op.operands])]
  | makeInterface t x => simp only [aop, h x (by simp [Op.operands])]
  | fieldAddr t x f => simp only [aop, h x (by simp [Op.operands])]
  | field t x f => simp only [aop, h x (by simp [Op.operands])]
  | extract x i => simp only [aop, h x (by simp [Op.operands])]
  | pick c a b => simp only [aop, h c (by simp [Op.operands]), h a (by simp [Op.operands]), h b (by simp [Op.operands])]
  | store t a x => simp only [aop, h a (by simp [Op.operands]), h x (by simp [Op.operands])]
  | binOp o t a x y => simp only [aop, h a (by simp [Op.operands]), h x (by simp [Op.operands])]
  | makeSlice t a x => simp only [aop, h a (by simp [Op.operands]), h x (by simp [Op.operands])]
  | indexAddr t a x => simp only [aop, h a (by simp [Op.operands]), h x (by simp [Op.operands])]
  | index t a x => simp only [aop, h a (by simp [Op.operands]), h x (by simp [Op.operands])]
  | build t ps => simp only [aop, parts_congr (l := ps.toList) (fun x hx => h x (by simpa [Op.operands] using hx))]
  | buildSlice t n ps => simp only [aop, parts_congr (l := ps.toList) (fun x hx => h x (by simpa [Op.operands] using hx))]
  | makeFunc fn first caps =>
    have e1 := map_congr_ev (evf := evf) (evf' := evf') (l := caps.toList) (fun x hx => h x (by simp only [Op.operands, Array.toList_append, List.mem_append]; exact .inr hx))
    simp only [aop, e1]
    cases fn with
    | func f => cases first.toList <;> rfl
    | method name =>
      cases hl : first.toList with
      | nil => rfl
      | cons r l =>
        cases l with
        | nil => simp only []; rw [h r (by simp [Op.operands, hl])]
        | cons _ _ => rfl
    | _ => rfl
  | slice t x lo hi mx =>
    have e1 := h x (by simp [Op.operands])
    have e2 := opt_congr (evf := evf) (evf' := evf') (o := lo) (fun x hx => h x (by simp only [Op.operands, Array.toList_append, List.mem_append]; exact .inl (.inl (.inr hx))))
    have e3 := opt_congr (evf := evf) (evf' := evf') (o := hi) (fun x hx => h x (by simp only [Op.operands, Array.toList_append, List.mem_append]; exact .inl (.inr hx)))
    simp only [aop, e1, e2, e3]
  | call c =>
    simp only [aop, acallee]
    cases hc : c.callee with
    | builtin b =>
      simp only [Op.operands, Call.operands, hc] at h
      simp only [map_congr_ev (l := c.args.toList) (fun x hx => h x (by simpa using hx))]
    | value f =>
      simp only [Op.operands, Call.operands, hc] at h
      simp only [map_congr_ev (l := c.args.toList) (fun x hx => h x (by simp; exact .inr (by simpa using hx))), h f (by simp)]
    | invoke r nm =>
      simp only [Op.operands, Call.operands, hc] at h
      simp only [map_congr_ev (l := c.args.toList) (fun x hx => h x (by simp; exact .inr (by simpa using hx))), h r (by simp)]
  | _ => rfl

/-! ### What the edges bind -/
def MasksOk (ops : Array Oper) (ms : List Nat) : Prop := ∀ i, i < ms.length → ∀ j, (ms.getD i 0).testBit j = true → Bef ops j i
theorem maskOf_ok {ops : Array Oper} {ms : List Nat} (h : MasksOk ops ms) {o : Oper} {i : Nat} (ho : ops[i]? = some o) {j : Nat} (hj : (maskOf ms o).testBit j = true) : Bef ops j i := by
  have key : ∀ (l : List Edge), (∀ e ∈ l, e ∈ o.after) → ∀ acc : Nat, (l.foldl (fun acc e => if Region.binds .any e then acc ||| (1 <<< e.on) ||| ms.getD e.on 0 else acc) acc).testBit j = true →
      acc.testBit j = true ∨ Bef ops j i := by
    intro l
    induction l with
    | nil => intro _ acc h; exact .inl h
    | cons e l ih =>
      intro hl acc hh
      rw [List.foldl_cons] at hh
      rcases ih (fun e he => hl e (by simp [he])) _ hh with h1 | h1
      · split at h1
        · rename_i hb
          rw [Nat.testBit_or, Nat.testBit_or, Bool.or_eq_true, Bool.or_eq_true] at h1
          rcases h1 with (h1 | h1) | h1
          · exact .inl h1
          · right
            have : e.on = j := by
              rw [Nat.testBit_shiftLeft] at h1
              simp only [Bool.and_eq_true, decide_eq_true_eq] at h1
              have h2 := h1.2
              by_cases hz : j - e.on = 0
              · omega
              · have := Nat.testBit_one_eq_true_iff_self_eq_zero.1 h2
                omega
            subst this
            exact .one ho (hl e (by simp)) hb
          · right
            by_cases hlt : e.on < ms.length
            · exact .more (h e.on hlt j h1) ho (hl e (by simp)) hb
            · rw [List.getD_eq_getElem?_getD, List.getElem?_eq_none (by omega)] at h1
              simp at h1
        · exact .inl h1
      · exact .inr h1
  rcases key o.after.toList (fun e he => by simpa using he) 0 hj with h1 | h1
  · simp at h1
  · exact h1
theorem masks_ok {ops : Array Oper} : ∀ {l : List Oper} {ms : List Nat}, MasksOk ops ms → ops.toList.drop ms.length = l → MasksOk ops (masks l ms)
  | [], ms, h, _ => h
  | o :: l, ms, h, hd => by
    simp only [masks]
    have ho : ops[ms.length]? = some o := by
      rw [← Array.getElem?_toList]
      have := List.getElem?_drop (xs := ops.toList) (i := ms.length) (j := 0)
      rw [hd] at this
      simpa using this.symm
    refine masks_ok (fun i hi j hj => ?_) ?_
    · simp only [List.length_append, List.length_singleton] at hi
      by_cases e : i < ms.length
      · rw [List.getD_eq_getElem?_getD, List.getElem?_append_left e, ← List.getD_eq_getElem?_getD] at hj
        exact h i e j hj
      · have : i = ms.length := by omega
        subst this
        rw [List.getD_eq_getElem?_getD, List.getElem?_append_right (Nat.le_refl _)] at hj
        simp at hj
        exact maskOf_ok h ho hj
    · rw [List.length_append, List.length_singleton, ← List.drop_drop, hd]
      rfl
theorem befM_ok {ops : Array Oper} {i j : Nat} (h : befM (masks ops.toList []) j i = true) : Bef ops j i := by
  have hm : MasksOk ops (masks ops.toList []) := masks_ok (fun i hi => by simp at hi) rfl
  unfold befM at h
  by_cases hi : i < (masks ops.toList []).length
  · exact hm i hi j h
  · rw [List.getD_eq_getElem?_getD, List.getElem?_eq_none (by omega)] at h
    simp at h
theorem static_edges {ops : Array Oper} {ms : List Nat} (h : static ops ms = true) : edgesOk ops = true := by
  unfold static at h
  unfold edgesOk
  rw [List.all_eq_true] at h ⊢
  intro i hi
  have hi' : i < ops.size := List.mem_range.1 hi
  have := h (ops[i], i) (by
    rw [List.mem_zipIdx_iff_getElem?]
    simp [hi'])
  simp only [Bool.and_eq_true] at this
  rw [Array.getElem?_eq_getElem hi']
  exact this.1
theorem static_slots {ops : Array Oper} {ms : List Nat} (h : static ops ms = true) {i j : Nat} {o q : Oper} (ho : ops[i]? = some o) (hq : ops[j]? = some q) (hij : i < j) : befM ms i j = true ∨ slotsApart ops o q = true := by
  unfold static at h
  rw [List.all_eq_true] at h
  have h1 := h (q, j) (by rw [List.mem_zipIdx_iff_getElem?]; simpa using hq)
  simp only [Bool.and_eq_true] at h1
  have h2 := List.all_eq_true.1 h1.2 (o, i) (by rw [List.mem_zipIdx_iff_getElem?]; simpa using ho)
  simp only [Bool.or_eq_true, decide_eq_true_eq] at h2
  rcases h2 with (h2 | h2) | h2
  · omega
  · exact .inl h2
  · exact .inr h2
theorem slotsApart_ok {full : Array Oper} {o q : Oper} (h : slotsApart full o q = true) : (∀ d, o.dst = some d → d ∉ slotsOf full q ∧ q.dst ≠ some d) ∧ (∀ d, q.dst = some d → d ∉ slotsOf full o) := by
  unfold slotsApart at h
  rw [Bool.and_eq_true] at h
  refine ⟨fun d hd => ?_, fun d hd => ?_⟩
  · have := h.1
    rw [hd] at this
    simpa using this
  · have := h.2
    rw [hd] at this
    simpa using this
end Go.Fw
