/- The quick machine: the other operations; sequences. -/
import Derived.Test.YtbndodeihodjfaaGreatFwKm2
namespace Go.Fw
set_option linter.unusedVariables false
set_option linter.unusedSimpArgs false

section
variable {P : Program} {call : CallF} {evf : Operand → AV} {e e' : EM} {v : AV}

theorem toS_slice {x : AV} {nm len : Nat} (h : x.toS = .slice nm len) : x = .slice nm len := by
  cases x <;> simp [AV.toS] at h
  obtain ⟨rfl, rfl⟩ := h; rfl
theorem toS_sub {x : AV} {nm sz lo len : Nat} (h : x.toS = .sub nm sz lo len) : x = .sub nm sz lo len := by
  cases x <;> simp [AV.toS] at h
  obtain ⟨rfl, rfl, rfl, rfl⟩ := h; rfl
theorem toS_nil {x : AV} (h : x.toS = .nil) : x = .nilSlice := by
  cases x <;> simp [AV.toS] at h; rfl
theorem toL_ok {x : AV} {l : List AV} (h : x.toL = some l) : x = .agg l := by
  cases x <;> simp [AV.toL] at h
  rw [h]
theorem toF_ok {x : AV} {f : FuncId} {l : List AV} (h : x.toF = .fn f l) : x = .func f l := by
  cases x <;> simp [AV.toF] at h
  obtain ⟨rfl, rfl⟩ := h; rfl

theorem addrK_ok {off : Nat} {a : AV} (h : addrK off a = some v) : aaddr a off = some v := by
  unfold addrK at h
  split at h
  · rename_i nm o hp
    rw [toP_ptr hp]; rw [tightN_eq] at h; cases h; rfl
  · rename_i nm sz i k hp
    rw [toP_eptr hp]; rw [tightN_eq] at h; cases h; rfl
  · cases h
theorem cFieldAddr_ok {t : TypeId} {x : Operand} {f : Nat} {fr : Fr8} (h : (cFieldAddr P t x f).run call fr e = some (v, e')) : eopE P call (evK fr) e (.fieldAddr t x f) = some (v, e') := by
  unfold cFieldAddr at h
  split at h
  · rename_i fs hT
    split at h
    · rename_i off size a hfs
      split at h
      · exact h
      · rename_i hsz
        have hsz' : size ≠ 0 := fun e0 => by rw [e0] at hsz; simp at hsz
        simp only [Bx.to_eq] at h
        refine co_opt h fun hf => ?_
        rw [cEv_un] at hf
        have := addrK_ok hf
        simp only [aop, hT, hfs, hsz', ne_eq, not_false_eq_true, if_true, this, get_val]
    · exact h
  · exact h
theorem get_pre {pre : Prop} [Decidable pre] (h : pre) {x : AV} {u : List (Nat × Option Blk)} : (Res.val pre x u).get? = some (x, u) := by simp [Res.get?, h]
theorem cIndexAddr_ok {t : TypeId} {x i : Operand} {fr : Fr8} (h : (cIndexAddr P t x i).run call fr e = some (v, e')) : eopE P call (evK fr) e (.indexAddr t x i) = some (v, e') := by
  unfold cIndexAddr at h
  split at h
  · rename_i el hT
    split at h
    · rename_i E hE
      simp only [Bx.to_eq, tightN_eq] at h
      refine co_opt h fun hf => ?_
      simp only [cEv_un] at hf
      unfold idxK at hf
      split at hf
      · rename_i k n hi
        have hi' := toI_ok hi
        split at hf
        · rename_i nm len hs
          split at hf
          · rename_i hlt
            have hlt' : n < len := by simpa [Nat.blt_eq] using hlt
            rw [tightN_eq] at hf; cases hf
            simp only [aop, aindexAddr, hi', hT, hE, toS_slice hs]
            exact get_pre ⟨by simp, by simpa using hlt'⟩
          · cases hf
        · rename_i nm sz lo len hs
          split at hf
          · rename_i hsz
            have hsz' : sz = E.size := Nat.eq_of_beq_eq_true hsz
            split at hf
            · rename_i hlt
              have hlt' : n < len := by simpa [Nat.blt_eq] using hlt
              rw [tightN_eq] at hf; cases hf
              simp only [aop, aindexAddr, hi', hT, hE, toS_sub hs, hsz', if_true]
              exact get_pre ⟨by simp, by simpa using hlt'⟩
            · cases hf
          · cases hf
        · cases hf
      · cases hf
    · exact h
  · exact co_opt h fun hf => slowO_ok rfl rfl hf _ _
theorem notK_ok {a : AV} (h : notK a = some v) : ∃ b, a = .bool b ∧ v = .bool (!b) := by
  unfold notK at h
  split at h
  · rename_i hb; cases h; exact ⟨true, toB_ok hb, rfl⟩
  · rename_i hb; cases h; exact ⟨false, toB_ok hb, rfl⟩
  · cases h
theorem cLen_ok {c : Call} (hc : c.callee = .builtin .len) {fr : Fr8} (h : (cLen P (.call c) c).run call fr e = some (v, e')) : eopE P call (evK fr) e (.call c) = some (v, e') := by
  have hsil : silentOp (.call c) = true := by simp [silentOp, hc]
  have hcalm : calmOp (.call c) = true := by simp [calmOp, hc]
  unfold cLen at h
  split at h
  · rename_i x t ha hts
    split at h
    · rename_i el hT
      simp only [Bx.to_eq] at h
      refine co_opt h fun hf => ?_
      rw [cEv_un] at hf
      unfold lenS at hf
      have hop : aop P (evK fr) e.m e.nb (.call c) = abuiltin P e.m e.nb .len [evK fr x] [t] := by
        simp only [aop, acallee, hc, ha, hts, List.map_cons, List.map_nil]
      split at hf
      · rename_i nm n hs
        rw [tightN_eq] at hf; cases hf
        rw [hop]; simp only [abuiltin, hT, toS_slice hs, get_val]; rfl
      · rename_i nm sz lo n hs
        rw [tightN_eq] at hf; cases hf
        rw [hop]; simp only [abuiltin, hT, toS_sub hs, get_val]; rfl
      · rename_i hs
        cases hf
        rw [hop]; simp only [abuiltin, hT, toS_nil hs, get_val]
      · exact slowO_ok hsil hcalm hf _ _
    · exact co_opt h fun hf => slowO_ok hsil hcalm hf _ _
  · exact h
theorem cArgs_un : ∀ (l : List Operand) (fr : Fr8) (k : List AV → Option (AV × EM)), (cArgs l).un fr k = k (l.map (evK fr))
  | [], fr, k => rfl
  | x :: l, fr, k => by
    simp only [cArgs, Bx.to_eq]
    show (cArgs l).un fr (fun r => k ((cEv x).un fr :: r)) = _
    rw [cArgs_un l, cEv_un]; rfl
theorem cCall_ok {c : Call} {fr : Fr8} (h : (cCall P c).run call fr e = some (v, e')) : eopE P call (evK fr) e (.call c) = some (v, e') := by
  unfold cCall at h
  split at h
  · rename_i b hc
    split at h
    · exact cLen_ok hc h
    · exact h
  · rename_i x hc
    simp only [Bx.to_eq] at h
    have hop : aop P (evK fr) e.m e.nb (.call c) = (match evK fr x with
        | .func g caps => .call g (c.args.toList.map (evK fr) ++ caps)
        | .yield nm => .yld nm (c.args.toList.map (evK fr))
        | _ => .bad) := by simp only [aop, acallee, hc]; cases evK fr x <;> rfl
    split at h
    · rename_i f
      simp only [CO.run, cArgs_un] at h
      unfold eopE
      rw [aopF_eq, hop]
      simp only [evK, List.append_nil]
      exact h
    · simp only [CO.run] at h
      split at h
      · rename_i f caps hf
        rw [cEv_un] at hf
        rw [cArgs_un] at h
        unfold eopE
        rw [aopF_eq, hop, toF_ok hf]
        exact h
      · exact h
  · exact h

theorem cOp_ok {o : Op} {fr : Fr8} (ht : e.tidy) (h : (cOp P o).run call fr e = some (v, e')) : eopE P call (evK fr) e o = some (v, e') := by
  unfold cOp at h
  split at h
  · rename_i x
    simp only [Bx.to_eq, CO.run, cEv_un] at h
    cases h
    exact eopE_of_get (by simp only [aop, get_val])
  · rename_i x
    simp only [Bx.to_eq, CO.run, cEv_un] at h
    cases h
    exact eopE_of_get (by simp only [aop, get_val])
  · simp only [Bx.to_eq] at h
    refine co_opt h fun hf => ?_
    simp only [cEv_un] at hf
    exact binK_ok hf
  · exact cLoad_ok ht h
  · exact cStore_ok ht h
  · exact cFieldAddr_ok h
  · exact cIndexAddr_ok h
  · rename_i x i
    simp only [Bx.to_eq] at h
    refine co_opt h fun hf => ?_
    rw [cEv_un] at hf
    unfold nthT at hf
    split at hf
    · rename_i l hl
      rw [nthF_eq] at hf
      simp only [aop, toT_ok hl, hf, get_val]
    · cases hf
  · rename_i op t x
    split at h
    · simp only [Bx.to_eq] at h
      refine co_opt h fun hf => ?_
      rw [cEv_un] at hf
      obtain ⟨b, hb, rfl⟩ := notK_ok hf
      simp only [aop, aun, hb, get_val]
    · exact co_opt h fun hf => slowO_ok rfl rfl hf _ _
  · rename_i x
    simp only [Bx.to_eq] at h
    refine co_opt h fun hf => ?_
    rw [cEv_un] at hf
    unfold nilK at hf
    split at hf
    · rename_i hp; cases hf; simp only [aop, toP_ptr hp, get_val]
    · rename_i hp; cases hf; simp only [aop, toP_eptr hp, get_val]
    · exact slowO_ok rfl rfl hf _ _
  · rename_i c a b
    simp only [Bx.to_eq] at h
    refine co_opt h fun hf => ?_
    simp only [cEv_un] at hf
    unfold pickK at hf
    split at hf
    · rename_i hb; cases hf; simp only [aop, toB_ok hb, pickA, get_val]
    · rename_i hb; cases hf; simp only [aop, toB_ok hb, pickA, get_val]
    · cases hf
  · exact cCall_ok h
  · exact h
end

/-! ### Sequences -/
section
variable {P : Program} {N : Nat} {call : CallF}

theorem operOk_ops {full : Array Oper} {o : Oper} (h : operOk P N full o = true) : (∀ x ∈ o.op.operands.toList, opndOk P N x = true) ∧ (∀ t, o.dst = some t → t < N) ∧ (∀ j w t, o.guard = some (j, w) → gslot full j = some t → t < N) := by
  simp only [operOk, Bool.and_eq_true] at h
  obtain ⟨⟨h1, h2⟩, h3⟩ := h
  refine ⟨fun x hx => List.all_eq_true.1 h2 x hx, fun t e => by rw [e] at h1; simpa using h1, fun j w t e1 e2 => ?_⟩
  rw [e1] at h3
  simp only [e2] at h3
  simpa using h3
theorem wantB_ok {w : Bool} {x : AV} {b : Bool} (h : wantB w x = some b) : (∃ b', x = .bool b' ∧ b = (b' == w)) ∨ (x = .tuple [] ∧ b = false) := by
  unfold wantB at h
  split at h
  · rename_i b' hb
    refine .inl ⟨b', toB_ok hb, ?_⟩
    cases w <;> cases b' <;> simp_all
  · split at h
    · rename_i ht
      cases h
      exact .inr ⟨toT_ok ht, rfl⟩
    · cases h
theorem cPutD_un (d : Option Tmp) (fr : Fr8) (v : AV) : (cPutD d).un fr v = fr.putD d v := by cases d <;> rfl

theorem cOps_ok (hp : CallPure call) {full : Array Oper} : ∀ {l : List Oper} {fr : Fr8} {e : EM} {fr' : Fr8} {e' : EM}, (l.all (operOk P N full)) = true → (cOps P full l).un call fr e = .ok fr' e' → e.tidy →
    ∀ {tr : Tr}, FrK N fr tr → ∃ tr', eops P call full l ⟨tr, e⟩ = some ⟨tr', e'⟩ ∧ FrK N fr' tr'
  | [], fr, e, fr', e', hl, h, ht, tr, hfr => by
    have h' : RS.ok fr e = RS.ok fr' e' := h
    cases h'
    exact ⟨tr, rfl, hfr⟩
  | o :: l, fr, e, fr', e', hl, h, ht, tr, hfr => by
    simp only [List.all_cons, Bool.and_eq_true] at hl
    obtain ⟨ho1, ho2, ho3⟩ := operOk_ops hl.1
    have hev : ∀ x ∈ o.op.operands.toList, evK fr x = ev tr x := fun x hx => hfr.ev (ho1 x hx)
    -- an operation that is wanted
    have wanted : ∀ {v e1}, (cOp P o.op).run call fr e = some (v, e1) → want full tr o = some true → (cOps P full l).un call (fr.putD o.dst v) e1 = .ok fr' e' →
        ∃ tr', eops P call full (o :: l) ⟨tr, e⟩ = some ⟨tr', e'⟩ ∧ FrK N fr' tr' := by
      intro v e1 h1 hw h2
      have h3 := cOp_ok ht h1
      rw [eopE_ev hev, ← eop_eq] at h3
      have hx := eop_ext hp h3 ht
      obtain ⟨tr', h4, h5⟩ := cOps_ok hp hl.2 h2 (hx.tidy ht) (hfr.putD ho2 v)
      refine ⟨tr', ?_, h5⟩
      simp only [eops, hw, h3, putF_eq]
      exact h4
    have skipped : want full tr o = some false → (cOps P full l).un call (fr.putD o.dst undefA) e = .ok fr' e' → ∃ tr', eops P call full (o :: l) ⟨tr, e⟩ = some ⟨tr', e'⟩ ∧ FrK N fr' tr' := by
      intro hw h2
      obtain ⟨tr', h4, h5⟩ := cOps_ok hp hl.2 h2 ht (hfr.putD ho2 undefA)
      refine ⟨tr', ?_, h5⟩
      simp only [eops, hw, putF_eq]
      exact h4
    have hcw : ∀ {j w t b}, o.guard = some (j, w) → gslot full j = some t → wantB w ((cG t).un fr) = some b → want full tr o = some b := by
      intro j w t b hg hs hb
      have := wantB_ok hb
      have e1 : (cG t).un fr = tr.get t := (hfr.eq t (ho3 j w t hg hs)).2
      rw [e1] at this
      unfold want
      simp only [hg, hs, Tr.getF_eq]
      rcases this with ⟨b', h1, rfl⟩ | ⟨h1, rfl⟩
      · rw [h1]
      · rw [h1]
    simp only [cOps, Bx.to_eq] at h
    split at h
    · rename_i hg
      have hw : want full tr o = some true := by unfold want; rw [hg]
      split at h
      · rename_i f hco
        have h' : (cOps P full l).un call ((cPutD o.dst).un fr (f fr)) e = .ok fr' e' := h
        rw [cPutD_un] at h'
        exact wanted (by rw [hco]; rfl) hw h'
      · rename_i f hco
        have h' : (match f fr with | some v => (cOps P full l).un call ((cPutD o.dst).un fr v) e | none => .stuck) = RS.ok fr' e' := h
        split at h'
        · rename_i v hv
          rw [cPutD_un] at h'
          exact wanted (by rw [hco]; simp only [CO.run, hv]) hw h'
        · cases h'
      · rename_i f hco
        have h' : (match f call fr e with | some (v, e') => (cOps P full l).un call ((cPutD o.dst).un fr v) e' | none => .stuck) = RS.ok fr' e' := h
        split at h'
        · rename_i v e1 hv
          rw [cPutD_un] at h'
          exact wanted (by rw [hco]; exact hv) hw h'
        · cases h'
    · rename_i j w hg
      split at h
      · cases h
      · rename_i t hs
        split at h
        · rename_i f hco
          have h' : (match wantB w ((cG t).un fr) with | some true => (cOps P full l).un call ((cPutD o.dst).un fr (f fr)) e | some false => (cOps P full l).un call ((cPutD o.dst).un fr undefA) e | none => .stuck) = RS.ok fr' e' := h
          split at h'
          · rename_i hb
            rw [cPutD_un] at h'
            exact wanted (by rw [hco]; rfl) (hcw hg hs hb) h'
          · rename_i hb
            rw [cPutD_un] at h'
            exact skipped (hcw hg hs hb) h'
          · cases h'
        · rename_i f hco
          have h' : (match wantB w ((cG t).un fr) with | some true => (match f fr with | some v => (cOps P full l).un call ((cPutD o.dst).un fr v) e | none => .stuck) | some false => (cOps P full l).un call ((cPutD o.dst).un fr undefA) e | none => .stuck) = RS.ok fr' e' := h
          split at h'
          · rename_i hb
            split at h'
            · rename_i v hv
              rw [cPutD_un] at h'
              exact wanted (by rw [hco]; simp only [CO.run, hv]) (hcw hg hs hb) h'
            · cases h'
          · rename_i hb
            rw [cPutD_un] at h'
            exact skipped (hcw hg hs hb) h'
          · cases h'
        · rename_i f hco
          have h' : (match wantB w ((cG t).un fr) with | some true => (match f call fr e with | some (v, e') => (cOps P full l).un call ((cPutD o.dst).un fr v) e' | none => .stuck) | some false => (cOps P full l).un call ((cPutD o.dst).un fr undefA) e | none => .stuck) = RS.ok fr' e' := h
          split at h'
          · rename_i hb
            split at h'
            · rename_i v e1 hv
              rw [cPutD_un] at h'
              exact wanted (by rw [hco]; exact hv) (hcw hg hs hb) h'
            · cases h'
          · rename_i hb
            rw [cPutD_un] at h'
            exact skipped (hcw hg hs hb) h'
          · cases h'
end
end Go.Fw
