/- The kernel's machine: regions that draw their order: the parts. -/
import Derived.Test.YtbndodeihodjfaaGreatFwExecS3
namespace Go.Fw
set_option linter.unusedVariables false
set_option linter.unusedSimpArgs false

theorem map_congr_ev {evf evf' : Operand → AV} : ∀ {l : List Operand}, (∀ x ∈ l, evf x = evf' x) → l.map evf = l.map evf' := fun h => List.map_congr_left h
theorem parts_congr {evf evf' : Operand → AV} {l : List (Nat × Operand)} (h : ∀ x ∈ l.map (·.2), evf x = evf' x) : l.map (fun p => (p.1, evf p.2)) = l.map (fun p => (p.1, evf' p.2)) :=
  List.map_congr_left fun p hp => by rw [h p.2 (List.mem_map.2 ⟨p, hp, rfl⟩)]
theorem opt_congr {evf evf' : Operand → AV} {o : Option Operand} (h : ∀ x ∈ o.toArray.toList, evf x = evf' x) : o.map evf = o.map evf' := by
  cases o with
  | none => rfl
  | some x => simp only [Option.map_some]; rw [h x (by simp [Option.toArray])]

theorem aop_ev {P : Program} {evf evf' : Operand → AV} {m : Mem} {nf : Nat} (o : Op) (h : ∀ x ∈ o.operands.toList, evf x = evf' x) : aop P evf m nf o = aop P evf' m nf o := by
  cases o with
  | move x => simp only [aop, h x (by simp [Op.operands])]
  | assign x => simp only [aop, h x (by simp [Op.operands])]
  | box t x => simp only [aop, h x (by simp [Op.operands])]
  | load t x => simp only [aop, h x (by simp [Op.operands])]
  | nilCheck x => simp only [aop, h x (by simp [Op.operands])]
  | unOp o t x => simp only [aop, h x (by simp [Op.operands])]
  | convert s d x => simp only [aop, h x (by simp [Op.operands])]
  | makeInterface t x => simp only [aop, h x (by simp [Op.operands])]
  | fieldAddr t x f => simp only [aop, h x (by simp [Op.operands])]
  | field t x f => simp only [aop, h x (by simp [Op.operands])]
  | extract x i => simp only [aop, h x (by simp [Op.operands])]
  | pick c a b => simp only [aop, h c (by simp [Op.operands]), h a (by simp [Op.operands]), h b (by simp [Op.operands])]
  | store t a x => simp only [aop, h a (by simp [Op.operands]), h x (by simp [Op.operands])]
  | binOp o t a x y => simp only [aop, h a (by simp [Op.operands]), h x (by simp [Op.operands])]
  | makeSlice t a x => simp only [aop, h a (by simp [Op.operands]), h x (by simp [Op.operands])]
  | indexAddr t a x => simp only [aop, h a (by simp [Op.operands]), h x (by simp [Op.operands])]
  | index t a x => simp only [aop, h a (by simp [Op.operands]), h x (by simp [Op.operands])]
  | build t ps => simp only [aop, parts_congr (l := ps.toList) (fun x hx => h x (by simpa [Op.operands] using hx))]
  | buildSlice t n ps => simp only [aop, parts_congr (l := ps.toList) (fun x hx => h x (by simpa [Op.operands] using hx))]
  | makeFunc fn first caps =>
    have e1 := map_congr_ev (evf := evf) (evf' := evf') (l := caps.toList) (fun x hx => h x (by simp only [Op.operands, Array.toList_append, List.mem_append]; exact .inr hx))
    simp only [aop, e1]
    cases fn with
    | func f => cases first.toList <;> rfl
    | method name =>
      cases hl : first.toList with
      | nil => rfl
      | cons r l =>
        cases l with
        | nil => simp only []; rw [h r (by simp [Op.operands, hl])]
        | cons _ _ => rfl
    | _ => rfl
  | slice t x lo hi mx =>
    have e1 := h x (by simp [Op.operands])
    have e2 := opt_congr (evf := evf) (evf' := evf') (o := lo) (fun x hx => h x (by simp only [Op.operands, Array.toList_append, List.mem_append]; exact .inl (.inl (.inr hx))))
    have e3 := opt_congr (evf := evf) (evf' := evf') (o := hi) (fun x hx => h x (by simp only [Op.operands, Array.toList_append, List.mem_append]; exact .inl (.inr hx)))
    simp only [aop, e1, e2, e3]
  | call c =>
    simp only [aop, acallee]
    cases hc : c.callee with
    | builtin b =>
      simp only [Op.operands, Call.operands, hc] at h
      simp only [map_congr_ev (l := c.args.toList) (fun x hx => h x (by simpa using hx))]
    | value f =>
      simp only [Op.operands, Call.operands, hc] at h
      simp only [map_congr_ev (l := c.args.toList) (fun x hx => h x (by simp; exact .inr (by simpa using hx))), h f (by simp)]
    | invoke r nm =>
      simp only [Op.operands, Call.operands, hc] at h
      simp only [map_congr_ev (l := c.args.toList) (fun x hx => h x (by simp; exact .inr (by simpa using hx))), h r (by simp)]
  | _ => rfl

/-! ### What the edges bind -/
def MasksOk (ops : Array Oper) (ms : List Nat) : Prop := ∀ i, i < ms.length → ∀ j, (ms.getD i 0).testBit j = true → Bef ops j i
theorem maskOf_ok {ops : Array Oper} {ms : List Nat} (h : MasksOk ops ms) {o : Oper} {i : Nat} (ho : ops[i]? = some o) {j : Nat} (hj : (maskOf ms o).testBit j = true) : Bef ops j i := by
  have key : ∀ (l : List Edge), (∀ e ∈ l, e ∈ o.after) → ∀ acc : Nat, (l.foldl (fun acc e => if Region.binds .any e then acc ||| (1 <<< e.on) ||| ms.getD e.on 0 else acc) acc).testBit j = true →
      acc.testBit j = true ∨ Bef ops j i := by
    intro l
    induction l with
    | nil => intro _ acc h; exact .inl h
    | cons e l ih =>
      intro hl acc hh
      rw [List.foldl_cons] at hh
      rcases ih (fun e he => hl e (by simp [he])) _ hh with h1 | h1
      · split at h1
        · rename_i hb
          rw [Nat.testBit_or, Nat.testBit_or, Bool.or_eq_true, Bool.or_eq_true] at h1
          rcases h1 with (h1 | h1) | h1
          · exact .inl h1
          · right
            have : e.on = j := by
              rw [Nat.testBit_shiftLeft] at h1
              simp only [Bool.and_eq_true, decide_eq_true_eq] at h1
              have h2 := h1.2
              by_cases hz : j - e.on = 0
              · omega
              · have := Nat.testBit_one_eq_true_iff_self_eq_zero.1 h2
                omega
            subst this
            exact .one ho (hl e (by simp)) hb
          · right
            by_cases hlt : e.on < ms.length
            · exact .more (h e.on hlt j h1) ho (hl e (by simp)) hb
            · rw [List.getD_eq_getElem?_getD, List.getElem?_eq_none (by omega)] at h1
              simp at h1
        · exact .inl h1
      · exact .inr h1
  rcases key o.after.toList (fun e he => by simpa using he) 0 hj with h1 | h1
  · simp at h1
  · exact h1
theorem masks_ok {ops : Array Oper} : ∀ {l : List Oper} {ms : List Nat}, MasksOk ops ms → ops.toList.drop ms.length = l → MasksOk ops (masks l ms)
  | [], ms, h, _ => h
  | o :: l, ms, h, hd => by
    simp only [masks]
    have ho : ops[ms.length]? = some o := by
      rw [← Array.getElem?_toList]
      have := List.getElem?_drop (xs := ops.toList) (i := ms.length) (j := 0)
      rw [hd] at this
      simpa using this.symm
    refine masks_ok (fun i hi j hj => ?_) ?_
    · simp only [List.length_append, List.length_singleton] at hi
      by_cases e : i < ms.length
      · rw [List.getD_eq_getElem?_getD, List.getElem?_append_left e, ← List.getD_eq_getElem?_getD] at hj
        exact h i e j hj
      · have : i = ms.length := by omega
        subst this
        rw [List.getD_eq_getElem?_getD, List.getElem?_append_right (Nat.le_refl _)] at hj
        simp at hj
        exact maskOf_ok h ho hj
    · rw [List.length_append, List.length_singleton, ← List.drop_drop, hd]
      rfl
theorem befM_ok {ops : Array Oper} {i j : Nat} (h : befM (masks ops.toList []) j i = true) : Bef ops j i := by
  have hm : MasksOk ops (masks ops.toList []) := masks_ok (fun i hi => by simp at hi) rfl
  unfold befM at h
  by_cases hi : i < (masks ops.toList []).length
  · exact hm i hi j h
  · rw [List.getD_eq_getElem?_getD, List.getElem?_eq_none (by omega)] at h
    simp at h
theorem bits_mem {l : List Nat} {t : Nat} (h : t ∈ l) : (bitsOf l).testBit t = true := by
  have key : ∀ (l : List Nat) (acc : Nat), (t ∈ l ∨ acc.testBit t = true) → (l.foldl (fun acc t => acc ||| (1 <<< t)) acc).testBit t = true := by
    intro l
    induction l with
    | nil =>
      intro acc h
      rcases h with h | h
      · cases h
      · exact h
    | cons a l ih =>
      intro acc h
      rw [List.foldl_cons]
      refine ih _ ?_
      rcases h with h | h
      · simp only [List.mem_cons] at h
        rcases h with rfl | h
        · right; rw [Nat.testBit_or, Nat.testBit_shiftLeft]; simp
        · exact .inl h
      · right; rw [Nat.testBit_or, h]; rfl
  exact key l 0 (.inl h)
theorem land_zero {a b : Nat} (h : Nat.beq (Nat.land a b) 0 = true) {t : Nat} (ha : a.testBit t = true) : b.testBit t = false := by
  have h0 : a &&& b = 0 := Nat.eq_of_beq_eq_true h
  have := congrArg (fun n => n.testBit t) h0
  simp only [Nat.testBit_and, ha, Bool.true_and, Nat.zero_testBit] at this
  exact this
theorem rowOk_ok {m S D : Nat} : ∀ {l : List (Nat × Nat)} {i j : Nat} {p : Nat × Nat}, rowOk m S D l i = true → l[j]? = some p → m.testBit (i + j) = true ∨ (Nat.beq (Nat.land p.2 (Nat.lor S D)) 0 = true ∧ Nat.beq (Nat.land D p.1) 0 = true)
  | [], _, _, _, _, h => by simp at h
  | q :: l, i, 0, p, h, hp => by
    simp at hp; subst hp
    simp only [rowOk, Bool.and_eq_true, Bool.or_eq_true] at h
    exact h.1
  | q :: l, i, j + 1, p, h, hp => by
    simp only [rowOk, Bool.and_eq_true] at h
    have := rowOk_ok (j := j) h.2 (by simpa using hp)
    rwa [show Nat.succ i + j = i + (j + 1) from by rw [Nat.succ_eq_add_one]; omega] at this
theorem statGo_ok {full : Array Oper} : ∀ {l : List Oper} {ms : List Nat} {prior : List (Nat × Nat)} {i : Nat}, statGo full l ms prior i = true → ∀ {k : Nat} {q : Oper}, l[k]? = some q →
    ∃ m, ms[k]? = some m ∧ m < 2 ^ (i + k) ∧ ∀ j p, (prior ++ (l.take k).map fun o => (slotMask full o, dstMask o))[j]? = some p →
      m.testBit j = true ∨ (Nat.beq (Nat.land p.2 (Nat.lor (slotMask full q) (dstMask q))) 0 = true ∧ Nat.beq (Nat.land (dstMask q) p.1) 0 = true)
  | [], _, _, _, _, _, _, h => by simp at h
  | _ :: _, [], _, _, h, _, _, _ => by simp [statGo] at h
  | o :: l, m :: ms, prior, i, h, 0, q, hq => by
    simp at hq; subst hq
    simp only [statGo, Bool.and_eq_true] at h
    refine ⟨m, rfl, ?_, fun j p hp => ?_⟩
    · have h1 := h.1.1
      rw [Nat.blt_eq] at h1
      have h2 : Nat.shiftLeft 1 i = 2 ^ i := Nat.one_shiftLeft i
      rw [h2] at h1
      simpa using h1
    · simp at hp
      have := rowOk_ok h.1.2 hp
      simpa using this
  | o :: l, m :: ms, prior, i, h, k + 1, q, hq => by
    simp only [statGo, Bool.and_eq_true] at h
    obtain ⟨m', h2, h1, h3⟩ := statGo_ok h.2 (k := k) (q := q) (by simpa using hq)
    refine ⟨m', by simpa using h2, by rwa [show Nat.succ i + k = i + (k + 1) from by rw [Nat.succ_eq_add_one]; omega] at h1, fun j p hp => h3 j p ?_⟩
    rw [List.append_assoc]
    simpa using hp
theorem maskOf_bit {ms : List Nat} {o : Oper} {e : Edge} (he : e ∈ o.after) (hb : Region.binds .any e = true) : (maskOf ms o).testBit e.on = true := by
  have key : ∀ (l : List Edge) (acc : Nat), (e ∈ l ∨ acc.testBit e.on = true) → (l.foldl (fun acc e => if Region.binds .any e then acc ||| (1 <<< e.on) ||| ms.getD e.on 0 else acc) acc).testBit e.on = true := by
    intro l
    induction l with
    | nil =>
      intro acc h
      rcases h with h | h
      · cases h
      · exact h
    | cons a l ih =>
      intro acc h
      rw [List.foldl_cons]
      refine ih _ ?_
      rcases h with h | h
      · simp only [List.mem_cons] at h
        rcases h with rfl | h
        · right
          rw [if_pos hb, Nat.testBit_or, Nat.testBit_or, Nat.testBit_shiftLeft]
          simp
        · exact .inl h
      · right
        split
        · rw [Nat.testBit_or, Nat.testBit_or, h]; rfl
        · exact h
  exact key o.after.toList 0 (.inl (by simpa using he))
theorem masks_pre : ∀ (l : List Oper) (ms : List Nat) (i : Nat), i < ms.length → (masks l ms)[i]? = ms[i]?
  | [], _, _, _ => rfl
  | o :: l, ms, i, h => by
    simp only [masks]
    rw [masks_pre l _ i (by simp; omega), List.getElem?_append_left h]
theorem masks_at : ∀ (l : List Oper) (ms : List Nat) (k : Nat) (o : Oper), l[k]? = some o → ∃ ms', (masks l ms)[ms.length + k]? = some (maskOf ms' o)
  | [], _, _, _, h => by simp at h
  | o :: l, ms, 0, q, h => by
    simp at h; subst h
    refine ⟨ms, ?_⟩
    simp only [masks]
    rw [masks_pre l _ _ (by simp)]
    simp
  | o :: l, ms, k + 1, q, h => by
    simp only [masks]
    obtain ⟨ms', h'⟩ := masks_at l (ms ++ [maskOf ms o]) k q (by simpa using h)
    refine ⟨ms', ?_⟩
    rw [List.length_append, List.length_singleton] at h'
    rw [← h']
    congr 1
    omega
theorem static_edges {ops : Array Oper} (h : static ops (masks ops.toList []) = true) : edgesOk ops = true := by
  unfold edgesOk
  rw [List.all_eq_true]
  intro i hi
  have hi' : i < ops.size := List.mem_range.1 hi
  rw [Array.getElem?_eq_getElem hi']
  simp only []
  rw [List.all_eq_true]
  intro e he
  obtain ⟨m, h1, h2, _⟩ := statGo_ok h (k := i) (q := ops[i]) (by simp [hi'])
  cases hb : Region.binds .any e with
  | false => rfl
  | true =>
    obtain ⟨ms', h3⟩ := masks_at ops.toList [] i ops[i] (by simp [hi'])
    rw [List.length_nil, Nat.zero_add, h1] at h3
    injection h3 with h3
    have h4 := maskOf_bit (ms := ms') (o := ops[i]) (e := e) (by simpa using he) hb
    rw [← h3] at h4
    have : e.on < i := by
      rcases Nat.lt_or_ge e.on i with h5 | h5
      · exact h5
      · have h6 : m < 2 ^ e.on := Nat.lt_of_lt_of_le (by simpa using h2) (Nat.pow_le_pow_right (by omega) h5)
        rw [Nat.testBit_lt_two_pow h6] at h4; cases h4
    simpa using this
theorem static_slots {ops : Array Oper} {ms : List Nat} (h : static ops ms = true) {i j : Nat} {o q : Oper} (ho : ops[i]? = some o) (hq : ops[j]? = some q) (hij : i < j) : befM ms i j = true ∨ slotsApart ops o q = true := by
  obtain ⟨m, h2, _, h3⟩ := statGo_ok h (k := j) (q := q) (by rw [Array.getElem?_toList]; exact hq)
  have hi : i < ops.size := (Array.getElem?_eq_some_iff.1 ho).1
  have hp : (([] : List (Nat × Nat)) ++ (ops.toList.take j).map fun o => (slotMask ops o, dstMask o))[i]? = some (slotMask ops o, dstMask o) := by
    rw [List.nil_append, List.getElem?_map, List.getElem?_take, if_pos hij, Array.getElem?_toList, ho]; rfl
  rcases h3 i _ hp with h4 | ⟨h4, h5⟩
  · left
    unfold befM
    rw [List.getD_eq_getElem?_getD, h2]; exact h4
  · right
    unfold slotsApart
    rw [Bool.and_eq_true]
    refine ⟨?_, ?_⟩
    · cases hd : o.dst with
      | none => rfl
      | some d =>
        have hb : (dstMask o).testBit d = true := by unfold dstMask; rw [hd]; simp only []; rw [Nat.testBit_shiftLeft]; simp
        have hz := land_zero h4 hb
        have hz' : (slotMask ops q ||| dstMask q).testBit d = false := hz
        rw [Nat.testBit_or, Bool.or_eq_false_iff] at hz'
        simp only [Bool.and_eq_true, Bool.not_eq_true', bne_iff_ne, ne_eq]
        refine ⟨?_, fun e => ?_⟩
        · cases hc : (slotsOf ops q).contains d with
          | false => rfl
          | true =>
            have := bits_mem (l := slotsOf ops q) (t := d) (by simpa using hc)
            have h6 : (slotMask ops q).testBit d = true := this
            rw [h6] at hz'; exact absurd hz'.1 (by simp)
        · have : (dstMask q).testBit d = true := by unfold dstMask; rw [e]; simp only []; rw [Nat.testBit_shiftLeft]; simp
          rw [this] at hz'; exact absurd hz'.2 (by simp)
    · cases hd : q.dst with
      | none => rfl
      | some d =>
        have hb : (dstMask q).testBit d = true := by unfold dstMask; rw [hd]; simp only []; rw [Nat.testBit_shiftLeft]; simp
        have hz := land_zero h5 hb
        simp only [Bool.not_eq_true']
        cases hc : (slotsOf ops o).contains d with
        | false => rfl
        | true =>
          have := bits_mem (l := slotsOf ops o) (t := d) (by simpa using hc)
          have h6 : (slotMask ops o).testBit d = true := this
          simp only at hz
          rw [h6] at hz; cases hz
theorem slotsApart_ok {full : Array Oper} {o q : Oper} (h : slotsApart full o q = true) : (∀ d, o.dst = some d → d ∉ slotsOf full q ∧ q.dst ≠ some d) ∧ (∀ d, q.dst = some d → d ∉ slotsOf full o) := by
  unfold slotsApart at h
  rw [Bool.and_eq_true] at h
  refine ⟨fun d hd => ?_, fun d hd => ?_⟩
  · have := h.1
    rw [hd] at this
    simpa using this
  · have := h.2
    rw [hd] at this
    simpa using this
end Go.Fw
