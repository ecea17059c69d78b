/- The kernel's machine: regions that draw their order and write nothing. -/
import Derived.Test.YtbndodeihodjfaaGreatFwExecS5
namespace Go.Fw
set_option linter.unusedVariables false
set_option linter.unusedSimpArgs false

theorem calm_nf {P : Program} {evf : Operand → AV} {m : Mem} {nf nf' : Nat} {o : Op} (h : calmOp o = true) : aop P evf m nf o = aop P evf m nf' o := by
  cases o with
  | call c =>
    simp only [calmOp] at h
    simp only [aop, acallee]
    cases hc : c.callee with
    | builtin b =>
      rw [hc] at h
      cases b <;> first | (simp at h; done) | rfl | (generalize c.args.toList.map evf = A; cases A <;> first | rfl | (rename_i x l; cases l <;> rfl))
    | _ => rfl
  | _ => first | rfl | (simp [calmOp] at h; done)

theorem calm_nil {P : Program} {evf : Operand → AV} {m : Mem} {nf : Nat} {o : Op} (hc : calmOp o = true) {v : AV} {u} (h : (aop P evf m nf o).ok v u) : u = [] := by
  have nil : ∀ {pre : Prop} [Decidable pre] {x : AV}, (Res.val pre x []).ok v u → u = [] := fun hr => hr.2.2
  cases o with
  | call c =>
    simp only [calmOp] at hc
    simp only [aop, acallee] at h
    cases hcc : c.callee with
    | builtin b =>
      rw [hcc] at h hc
      cases b <;> first | (simp at hc; done) | skip
      all_goals
        simp only [abuiltin] at h
        repeat' (split at h)
        all_goals first | exact h.elim | exact nil h | cases ‹Builtin.len = _› | cases ‹Builtin.min = _› | cases ‹Builtin.max = _›
    | _ => rw [hcc] at hc; simp at hc
  | binOp op t x y _ =>
    simp only [aop, abin, abinI, anilEq, aaggEq] at h
    repeat' (split at h)
    all_goals first | exact h.elim | exact nil h
  | unOp op t x =>
    simp only [aop, aun] at h
    repeat' (split at h)
    all_goals first | exact h.elim | exact nil h
  | index t x i =>
    simp only [aop, aidx] at h
    repeat' (split at h)
    all_goals first | exact h.elim | exact nil h
  | indexAddr t x i =>
    simp only [aop, aindexAddr] at h
    repeat' (split at h)
    all_goals first | exact h.elim | exact nil h
  | _ =>
    first
      | (simp [calmOp] at hc; done)
      | (simp only [aop] at h
         try (repeat' (split at h))
         all_goals first | exact h.elim | exact nil h)

theorem abuiltin_no {P : Program} {m : Mem} {nf : Nat} {b : Builtin} {A : List AV} {ts : List TypeId} : (∀ f args, abuiltin P m nf b A ts ≠ .call f args) ∧ (∀ f args, abuiltin P m nf b A ts ≠ .yld f args) := by
  refine ⟨fun f args h => ?_, fun f args h => ?_⟩
  all_goals
    unfold abuiltin at h
    simp only [aappend, aclear] at h
    repeat' (split at h)
    all_goals cases h
theorem res_yld_isCall {P : Program} {evf : Operand → AV} {m : Mem} {nf : Nat} {o : Op} {f args} (h : aop P evf m nf o = .yld f args) : ∃ c, o = .call c := by
  cases o with
  | call c => exact ⟨c, rfl⟩
  | _ =>
    exfalso
    simp only [aop, abin, abinI, anilEq, aaggEq, aun, aconvB, aconv, amake, aidx, aslice, aindexAddr] at h
    try (repeat' (split at h))
    all_goals cases h
theorem calm_call {P : Program} {evf : Operand → AV} {m : Mem} {nf : Nat} {o : Op} (hc : calmOp o = true) : (∀ f args, aop P evf m nf o ≠ .call f args) ∧ (∀ f args, aop P evf m nf o ≠ .yld f args) := by
  have key : ∀ c, o = .call c → ∃ b, c.callee = .builtin b := by
    rintro c rfl
    simp only [calmOp] at hc
    cases hcc : c.callee with
    | builtin b => exact ⟨b, rfl⟩
    | _ => rw [hcc] at hc; simp at hc
  refine ⟨fun f args h => ?_, fun f args h => ?_⟩
  · obtain ⟨c, rfl⟩ := res_call_isCall h
    obtain ⟨b, hb⟩ := key c rfl
    simp only [aop, acallee, hb] at h
    exact abuiltin_no.1 _ _ h
  · obtain ⟨c, rfl⟩ := res_yld_isCall h
    obtain ⟨b, hb⟩ := key c rfl
    simp only [aop, acallee, hb] at h
    exact abuiltin_no.2 _ _ h

section
variable {P : Program} {N z : Nat} {rd : Option Nat} {cn : Nat} {call : CallF} {ops : Array Oper} {Q : Exit → Act → World → Prop}

theorem rec_calm {i : Nat} {o : Oper} (ho : ops[i]? = some o) (hop : operOk P N ops o = true) (hcm : calmOp o.op = true) {fr0 : Tr} (hw : want ops fr0 o = some true) {m0 : Mem} {nf : Nat} {v : AV}
    (hok : (aop P (ev fr0) m0 nf o.op).ok v []) : RecOk P N z rd cn ops Q ⟨i, o.dst, slotsOf ops o, foot (ev fr0) o.op, [], v, [], fr0.get, m0.get⟩ := by
  intro K ρ a w s next hR hfit hnew hn
  obtain ⟨B, hB⟩ := hR.sat.few
  have hop0 := hop
  simp only [operOk, Bool.and_eq_true] at hop0
  obtain ⟨⟨hd, hopn⟩, _⟩ := hop0
  have hev : ∀ x ∈ o.op.operands.toList, Evs K ρ a.eval (ev s.fr) x := fun x hx => hR.ev (List.all_eq_true.1 hopn x hx)
  have hdst : ∀ t, o.dst = some t → t < N := fun t e => by rw [e] at hd; simpa using hd
  have hsame : aop P (ev s.fr) s.m B o.op = aop P (ev fr0) m0 nf o.op := by
    rw [aop_ev o.op (ev_fit hfit.1), calm_nf (nf' := nf) hcm]
    exact aop_foot o.op fun i hi => hfit.2 i hi
  rw [← hsame] at hok
  unfold wpOpIn
  simp only [ho]
  rw [want_ok hR hop ((want_fit hfit.1).trans hw)]
  simp only [if_true]
  refine wpIn_val (aop_ok_noDefer hok) (aop_ok hR.sat (fun hk => Nat.lt_irrefl _ (hB _ hk)) hev (aop_noCall hok) hok) fun w' ρ' h1 h2 h3 => ?_
  refine hn _ _ _ _ ⟨putD s.fr o.dst v, s.m.upds []⟩ h1 (hR.next h1 h2 hdst h3) (Same.refl _) fun j hj => ?_
  rcases hj with hj | hj
  · exact .inl hj
  · simp at hj

theorem eops_calm : ∀ {l : List Oper} {i : Nat} {s s' : ES}, ops.toList.drop i = l → (l.all (operOk P N ops)) = true → (l.all fun o => calmOp o.op) = true → eops P call ops l s = some s' →
    s'.e = s.e ∧ ∃ recs : List Rec, Chain recs ⟨s.fr, s.e.m⟩ ∧ Same (appAll recs ⟨s.fr, s.e.m⟩) ⟨s'.fr, s'.e.m⟩ ∧ (∀ r ∈ recs, RecOk P N z rd cn ops Q r) ∧
      recs.map (·.i) = List.range' i l.length ∧ (∀ r ∈ recs, ∃ o, ops[r.i]? = some o ∧ r.dst = o.dst ∧ r.slots = slotsOf ops o) ∧ (∀ r ∈ recs, r.new = [] ∧ r.u = [])
  | [], i, s, s', hd, hl, hcm, h => by
    simp only [eops] at h; cases h
    exact ⟨rfl, [], trivial, Same.refl _, by simp, by simp, by simp, by simp⟩
  | o :: l, i, s, s', hd, hl, hcm, h => by
    have ho : ops[i]? = some o := by
      rw [← Array.getElem?_toList]
      have := List.getElem?_drop (xs := ops.toList) (i := i) (j := 0)
      rw [hd] at this
      simpa using this.symm
    have hd' : ops.toList.drop (i + 1) = l := by rw [← List.drop_drop, hd]; rfl
    simp only [List.all_cons, Bool.and_eq_true] at hl hcm
    simp only [eops] at h
    have fin : ∀ (r : Rec) (s1 : ES), s1.e = s.e → r.i = i → r.dst = o.dst → r.slots = slotsOf ops o → r.new = [] → r.u = [] → RecOk P N z rd cn ops Q r → r.Fit ⟨s.fr, s.e.m⟩ →
        s1.fr = putD s.fr o.dst r.v → eops P call ops l s1 = some s' → s'.e = s.e ∧ ∃ recs : List Rec, Chain recs ⟨s.fr, s.e.m⟩ ∧ Same (appAll recs ⟨s.fr, s.e.m⟩) ⟨s'.fr, s'.e.m⟩ ∧ (∀ r ∈ recs, RecOk P N z rd cn ops Q r) ∧
      recs.map (·.i) = List.range' i (l.length + 1) ∧ (∀ r ∈ recs, ∃ o, ops[r.i]? = some o ∧ r.dst = o.dst ∧ r.slots = slotsOf ops o) ∧ (∀ r ∈ recs, r.new = [] ∧ r.u = []) := by
      intro r s1 e1 r1 r2 r3 r4 r5 r6 r7 e2 h
      obtain ⟨b1, recs, b2, b3, b4, b5, b6, b7⟩ := eops_calm hd' hl.2 hcm.2 h
      have hsame : Same (r.app ⟨s.fr, s.e.m⟩) ⟨s1.fr, s1.e.m⟩ := by
        refine ⟨fun t => ?_, fun j => ?_⟩
        · simp only [Rec.app, r2, e2]; exact ⟨trivial, trivial⟩
        · simp only [Rec.app, r5, e1]; rfl
      refine ⟨b1.trans e1, r :: recs, ⟨r7, Chain_same hsame.symm b2⟩, (appAll_same (l := recs) hsame).trans b3, ?_, ?_, ?_, ?_⟩
      · intro q hq
        simp only [List.mem_cons] at hq
        rcases hq with rfl | hq
        · exact r6
        · exact b4 q hq
      · simp only [List.map_cons, r1, b5]; rfl
      · intro q hq
        simp only [List.mem_cons] at hq
        rcases hq with rfl | hq
        · exact ⟨o, by rw [r1]; exact ho, r2, r3⟩
        · exact b6 q hq
      · intro q hq
        simp only [List.mem_cons] at hq
        rcases hq with rfl | hq
        · exact ⟨r4, r5⟩
        · exact b7 q hq
    split at h
    · rename_i hw
      split at h
      · rename_i v e he
        rw [putF_eq] at h
        unfold eop at he
        rw [evF_eq, aopF_eq] at he
        split at he
        · rename_i f args hr; exact ((calm_call hcm.1).1 _ _ hr).elim
        · rename_i f args hr; exact ((calm_call hcm.1).2 _ _ hr).elim
        · split at he
          · rename_i v1 u hg
            have hok := get?_ok hg
            have hu := calm_nil hcm.1 hok
            subst hu
            simp only [EM.puts] at he
            cases he
            exact fin ⟨i, o.dst, slotsOf ops o, foot (ev s.fr) o.op, [], v, [], s.fr.get, s.e.m.get⟩ ⟨putD s.fr o.dst v, s.e⟩ rfl rfl rfl rfl rfl rfl (rec_calm ho hl.1 hcm.1 hw hok) ⟨fun _ _ => rfl, fun _ _ => rfl⟩ rfl h
          · cases he
      · cases h
    · rename_i hw
      rw [putF_eq] at h
      exact fin ⟨i, o.dst, slotsOf ops o, [], [], undefA, [], s.fr.get, s.e.m.get⟩ ⟨putD s.fr o.dst undefA, s.e⟩ rfl rfl rfl rfl rfl rfl (rec_skip ho hl.1 hw) ⟨fun _ _ => rfl, fun _ _ => rfl⟩ rfl h
    · cases h
end
end Go.Fw
