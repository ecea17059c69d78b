/- The kernel's machine: regions that draw their order stand for the model's. -/
import Derived.Test.YtbndodeihodjfaaGreatFwExecS4
namespace Go.Fw
set_option linter.unusedVariables false
set_option linter.unusedSimpArgs false

theorem ev_fit {full : Array Oper} {o : Oper} {fr fr0 : Tr} (h : ∀ t ∈ slotsOf full o, fr.get t = fr0.get t) : ∀ x ∈ o.op.operands.toList, ev fr x = ev fr0 x := by
  intro x hx
  cases x with
  | tmp t => exact h t (List.mem_append_left _ (List.mem_flatMap.2 ⟨.tmp t, hx, by simp [tmpOf]⟩))
  | _ => rfl
theorem want_fit {full : Array Oper} {o : Oper} {fr fr0 : Tr} (h : ∀ t ∈ slotsOf full o, fr.get t = fr0.get t) : want full fr o = want full fr0 o := by
  unfold want
  cases hg : o.guard with
  | none => rfl
  | some g =>
    obtain ⟨j, w⟩ := g
    simp only []
    cases hs : gslot full j with
    | none => rfl
    | some t =>
      simp only [Tr.getF_eq]
      rw [h t (List.mem_append_right _ (by simp [hg, hs]))]

theorem diff_get {nb : Nat} {e1 : EM} {m : Mem} {i : Nat} (ht : e1.tidy) (h : i ∈ (diffOf nb e1).map (·.1)) : (m.upds (diffOf nb e1)).get i = e1.m.get i := by
  have key : ∀ (l : List Nat) (m : Mem), i ∈ l → (m.upds (l.map fun i => (i, e1.t.get i))).get i = e1.m.get i := by
    intro l
    induction l with
    | nil => intro m h; simp at h
    | cons a l ih =>
      intro m h
      simp only [List.map_cons, Mem.upds]
      by_cases hl : i ∈ l
      · exact ih _ hl
      · simp only [List.mem_cons] at h
        rcases h with rfl | h
        · rw [upds_get_out _ _ _ (by simpa using hl), Mem.get_set_same, em_get _ ht]
        · exact absurd h hl
  have : i ∈ (e1.ws.filter (fun i => Nat.blt i nb) ++ List.range' nb (Nat.sub e1.nb nb)) := by
    unfold diffOf at h
    simpa using h
  exact key _ m this
theorem diff_out {e0 e1 : EM} {i : Nat} (hx : Ext e0 e1) (ht : e0.tidy) (hfl : e0.fl = e0.nb) (h : i ∉ (diffOf e0.nb e1).map (·.1)) : e1.m.get i = e0.m.get i := by
  rw [em_get _ ht, em_get _ (hx.tidy ht)]
  unfold diffOf at h
  simp only [List.map_map, List.mem_map, Function.comp, exists_eq_right, List.mem_append, List.mem_filter, List.mem_range', not_or] at h
  obtain ⟨h1, h2⟩ := h
  by_cases hi : i < e0.nb
  · exact hx.old i (hfl ▸ hi) fun hw => h1 ⟨hw, by simpa [Nat.blt_eq] using hi⟩
  · by_cases hj : e1.nb ≤ i
    · exact hx.out i hj
    · exact absurd ⟨i - e0.nb, by show _ < e1.nb - e0.nb; omega, by omega⟩ h2
theorem diff_mem {nb : Nat} {e1 : EM} {i : Nat} : i ∈ (diffOf nb e1).map (·.1) ↔ (i ∈ e1.ws ∧ i < nb) ∨ (nb ≤ i ∧ i < e1.nb) := by
  unfold diffOf
  simp only [List.map_map, List.mem_map, Function.comp, exists_eq_right, List.mem_append, List.mem_filter, List.mem_range', Nat.blt_eq]
  constructor
  · rintro (h | ⟨k, hk, rfl⟩)
    · exact .inl h
    · have : k < e1.nb - nb := hk
      exact .inr ⟨by omega, by omega⟩
  · rintro (h | h)
    · exact .inl h
    · exact .inr ⟨i - nb, by show _ < e1.nb - nb; omega, by omega⟩

section
variable {P : Program} {N z : Nat} {rd : Option Nat} {cn : Nat} {call : CallF} {ops : Array Oper} {Q : Exit → Act → World → Prop}

theorem rec_skip {i : Nat} {o : Oper} (ho : ops[i]? = some o) (hop : operOk P N ops o = true) {fr0 : Tr} (hw : want ops fr0 o = some false) {g0 : Nat → Option Blk} :
    RecOk P N z rd cn ops Q ⟨i, o.dst, slotsOf ops o, [], [], undefA, [], fr0.get, g0⟩ := by
  intro K ρ a w s next hR hfit hnew hn
  have hdst : ∀ t, o.dst = some t → t < N := fun t e => by
    simp only [operOk, Bool.and_eq_true, e] at hop
    simpa using hop.1.1
  unfold wpOpIn
  simp only [ho]
  rw [want_ok hR hop ((want_fit hfit.1).trans hw)]
  simp only [Bool.false_eq_true, if_false]
  refine ⟨fun f _ => Fr_fn rd f, hn K ρ _ w ⟨putD s.fr o.dst undefA, s.m⟩ (Step.refl _ _ _ _) ?_ (Same.refl _) (fun i hi => .inl hi)⟩
  simpa [undefA, AV.val, AV.vals, undef] using hR.next (d := o.dst) (v := undefA) (Step.refl K ρ w s.m) hR.sat hdst (by simp [undefA, AV.sc, AV.scs])

theorem rec_val {i : Nat} {o : Oper} (ho : ops[i]? = some o) (hop : operOk P N ops o = true) {fr0 : Tr} (hw : want ops fr0 o = some true) {m0 : Mem} {nf : Nat} {v : AV} {u}
    (hok : (aop P (ev fr0) m0 nf o.op).ok v u) {F : List Nat} (hF : silentOp o.op = true ∨ ∀ i ∈ foot (ev fr0) o.op, i ∈ F) :
    RecOk P N z rd cn ops Q ⟨i, o.dst, slotsOf ops o, F, [nf], v, u, fr0.get, m0.get⟩ := by
  intro K ρ a w s next hR hfit hnew hn
  have hop0 := hop
  simp only [operOk, Bool.and_eq_true] at hop0
  obtain ⟨⟨hd, hopn⟩, _⟩ := hop0
  have hev : ∀ x ∈ o.op.operands.toList, Evs K ρ a.eval (ev s.fr) x := fun x hx => hR.ev (List.all_eq_true.1 hopn x hx)
  have hdst : ∀ t, o.dst = some t → t < N := fun t e => by rw [e] at hd; simpa using hd
  have hsame : aop P (ev s.fr) s.m nf o.op = aop P (ev fr0) m0 nf o.op := by
    rw [aop_ev o.op (ev_fit hfit.1)]
    rcases hF with hs | hF
    · exact aop_silent o.op hs
    · exact aop_foot o.op fun i hi => hfit.2 i (hF i hi)
  rw [← hsame] at hok
  unfold wpOpIn
  simp only [ho]
  rw [want_ok hR hop ((want_fit hfit.1).trans hw)]
  simp only [if_true]
  refine wpIn_val (aop_ok_noDefer hok) (aop_ok hR.sat (hnew nf (by simp)) hev (aop_noCall hok) hok) fun w' ρ' h1 h2 h3 => ?_
  refine hn _ _ _ _ ⟨putD s.fr o.dst v, s.m.upds u⟩ h1 (hR.next h1 h2 hdst h3) (Same.refl _) fun j hj => ?_
  rcases hj with hj | hj
  · exact .inl hj
  · rcases aop_names hok j hj with e | e
    · exact .inr (by simp [e])
    · obtain ⟨b, hb⟩ := Option.isSome_iff_exists.1 e
      exact .inl (hR.sat.known j b hb).1

theorem rec_call (hc : CallOk P call) (hp : CallPure call) {i : Nat} {o : Oper} (ho : ops[i]? = some o) (hop : operOk P N ops o = true) {fr0 : Tr} (hw : want ops fr0 o = some true) {m0 : Mem} {nf : Nat} {f : FuncId} {args : List AV}
    (hr : aop P (ev fr0) m0 nf o.op = .call f args) {e0 e1 : EM} {v : AV} (hcall : call (.inl f) args e0 = some (v, e1)) (ht : e0.tidy) (hfl : e0.fl = e0.nb) {F : List Nat} {g0 : Nat → Option Blk} (hg : ∀ i b, e0.t.get i = some b → i ∈ F ∧ g0 i = some b) :
    RecOk P N z rd cn ops Q ⟨i, o.dst, slotsOf ops o, F, List.range' e0.nb (e1.nb + 1 - e0.nb), v, diffOf e0.nb e1, fr0.get, g0⟩ := by
  intro K ρ a w s next hR hfit hnew hn
  have hop0 := hop
  simp only [operOk, Bool.and_eq_true] at hop0
  obtain ⟨⟨hd, hopn⟩, _⟩ := hop0
  have hev : ∀ x ∈ o.op.operands.toList, Evs K ρ a.eval (ev s.fr) x := fun x hx => hR.ev (List.all_eq_true.1 hopn x hx)
  have hdst : ∀ t, o.dst = some t → t < N := fun t e => by rw [e] at hd; simpa using hd
  have hx := hp _ _ _ _ _ hcall ht
  obtain ⟨c, hoc⟩ := res_call_isCall hr
  have hr' : aop P (ev s.fr) s.m nf o.op = .call f args := by
    rw [aop_ev o.op (ev_fit hfit.1), ← hr]
    rw [hoc] at hr ⊢
    simp only [aop, acallee] at hr ⊢
    cases hcc : c.callee with
    | builtin b =>
      rw [hcc] at hr
      have hno : ∀ f args, abuiltin P m0 nf b (c.args.toList.map (ev fr0)) c.argTypes.toList ≠ .call f args := by
        intro f args h
        unfold abuiltin at h
        simp only [aappend, aclear] at h
        repeat' (split at h)
        all_goals cases h
      exact absurd hr (hno f args)
    | _ => rfl
  obtain ⟨hen, hcalls⟩ := hc.fn _ _ _ _ _ hcall ht
  obtain ⟨h1, h2⟩ := call_run hoc hev hr' hen w
  unfold wpOpIn
  simp only [ho]
  rw [want_ok hR hop ((want_fit hfit.1).trans hw)]
  simp only [if_true]
  refine ⟨fun f _ => Fr_fn rd f, ?_⟩
  rw [Fr_round, semAt_noDefer (aop_call_noDefer hr'), h1]
  refine ⟨fun hd => (by rw [Fr_depth] at hd; cases hd), Fr_calls.2 ?_⟩
  have hsub : ∀ i b, e0.m.get i = some b → s.m.get i = some b := fun i b hb => by
    rw [em_get _ ht] at hb
    obtain ⟨x1, x2⟩ := hg i b hb
    exact (hfit.2 i x1).trans x2
  have hbd := hx.bd
  refine (hcalls K ρ w (sat_part hR.sat hsub) h2 (fun i h1 h2 => hnew i (List.mem_range'.2 ⟨i - e0.nb, by omega, by omega⟩))).mono ?_
  rintro x w' ⟨K', ρ', rfl, hW, hS, hv⟩
  obtain ⟨g1, g2⟩ := frame_rule hR.sat hsub hW.step hS (fun i => i ∈ (diffOf e0.nb e1).map (·.1)) (m1' := s.m.upds (diffOf e0.nb e1)) (fun i hi => diff_get (hx.tidy ht) hi)
    (fun i hi => ⟨upds_get_out _ _ _ hi, diff_out hx ht hfl hi⟩)
  refine hn _ _ _ _ ⟨putD s.fr o.dst v, s.m.upds (diffOf e0.nb e1)⟩ g1 (hR.next g1 g2 hdst hv) (Same.refl _) fun j hj => ?_
  rcases hW.new j hj with h | h
  · exact .inl h
  · exact .inr (List.mem_range'.2 ⟨j - e0.nb, by omega, by omega⟩)

/-- A note of an operation in a region. -/
def Noted (rs : List DR) (r : Rec) : Prop := ∃ d ∈ rs, d.i = r.i ∧ d.ws = r.u.map (·.1) ∧ ∀ F, d.reads = some F → r.reads = F

theorem restrict_get : ∀ (F : List Nat) (t r : MT) (i : Nat) (b : Blk), (restrict t F r).get i = some b → r.get i = some b ∨ (i ∈ F ∧ t.get i = some b)
  | [], t, r, i, b, h => .inl h
  | j :: F, t, r, i, b, h => by
    simp only [restrict] at h
    rcases restrict_get F t _ i b h with h1 | h1
    · by_cases e : j = i
      · subst e
        by_cases hm : r.mem j = true
        · rw [MT.get_put_same _ _ _ hm] at h1; exact .inr ⟨by simp, h1⟩
        · rw [MT.get_put_out _ _ _ (by simpa using hm)] at h1
          exact .inl h1
      · rw [MT.get_put_other _ _ _ _ e] at h1; exact .inl h1
    · exact .inr ⟨by simp [h1.1], h1.2⟩

theorem edraw1_rec (hc : CallOk P call) (hp : CallPure call) {i : Nat} {o : Oper} (ho : ops[i]? = some o) (hop : operOk P N ops o = true) {s : ES} (hw : want ops s.fr o = some true) {b : Bool} {v : AV} {e' : EM} {F ws}
    (h : edraw1 P call b s o.op = some (v, e', F, ws)) (ht : s.e.tidy) :
    ∃ r : Rec, r.i = i ∧ r.dst = o.dst ∧ r.slots = slotsOf ops o ∧ r.v = v ∧ r.u.map (·.1) = ws ∧ (∀ F', F = some F' → r.reads = F') ∧ RecOk P N z rd cn ops Q r ∧ r.Fit ⟨s.fr, s.e.m⟩ ∧
      (∀ j, (s.e.m.upds r.u).get j = e'.m.get j) ∧ (∀ n ∈ r.new, s.e.nb ≤ n ∧ n < e'.nb) := by
  have hext := edraw1_ext hp h ht
  unfold edraw1 at h
  rw [evF_eq, aopF_eq] at h
  split at h
  · rename_i f args hr
    split at h
    · split at h
      · rename_i v1 e1 h1
        cases h
        have hx := hp _ _ _ _ _ h1 ht.at_
        refine ⟨⟨i, o.dst, slotsOf ops o, List.range s.e.nb, List.range' s.e.nb (e1.nb + 1 - s.e.nb), v, diffOf s.e.nb e1, s.fr.get, s.e.t.get⟩, rfl, rfl, rfl, rfl, rfl, (fun F' hF' => by cases hF'),
          rec_call hc hp ho hop hw hr h1 ht.at_ rfl (fun j b hb => ⟨?_, hb⟩), ⟨fun _ _ => rfl, fun j _ => em_get _ ht j⟩, fun j => ?_, fun n hn => ?_⟩
        · rcases Nat.lt_or_ge j s.e.nb with hj | hj
          · exact List.mem_range.2 hj
          · rw [ht.out j hj] at hb; cases hb
        · have t1 : EM.tidy ⟨e1.t, Nat.succ e1.nb, s.e.fl, (e1.ws.filter (fun i => Nat.blt i s.e.fl)).foldl wrote s.e.ws⟩ := hext.tidy ht
          rw [em_get _ t1]
          show _ = e1.t.get j
          rw [← em_get _ (hx.tidy ht.at_)]
          by_cases hj : j ∈ (diffOf s.e.nb e1).map (·.1)
          · exact diff_get (hx.tidy ht.at_) hj
          · rw [upds_get_out _ _ _ hj]
            have := diff_out (e0 := ⟨s.e.t, s.e.nb, s.e.nb, []⟩) hx ht.at_ rfl hj
            rw [this]; rfl
        · have hbd := hx.bd
          simp only at hbd
          obtain ⟨k, hk, rfl⟩ := List.mem_range'.1 hn
          simp only at hk ⊢
          omega
      · cases h
    · split at h
      · rename_i v1 e1 h1
        split at h
        · rename_i e2 hpt
          split at h
          · rename_i hbq
            cases h
            have hnb : e2.nb = e1.nb := Nat.eq_of_beq_eq_true hbq
            have htr : EM.tidy ⟨restrict s.e.t (reach s.e.t 4000 (AV.namesL args) []) MT.empty, s.e.nb, s.e.nb, []⟩ := by
              refine ⟨?_, Nat.le_refl _⟩
              intro j hj
              cases hq : (restrict s.e.t (reach s.e.t 4000 (AV.namesL args) []) MT.empty).get j with
              | none => rfl
              | some b =>
                rcases restrict_get _ _ _ _ _ hq with h | h
                · rw [MT.get_empty] at h; cases h
                · rw [ht.out j hj] at h; cases h.2
            have hx := hp _ _ _ _ _ h1 htr
            obtain ⟨p1, p2, p3⟩ := puts_spec hpt ht
            refine ⟨⟨i, o.dst, slotsOf ops o, reach s.e.t 4000 (AV.namesL args) [], List.range' s.e.nb (e1.nb + 1 - s.e.nb), v, diffOf s.e.nb e1, s.fr.get, s.e.t.get⟩, rfl, rfl, rfl, rfl, rfl, (fun F' hF' => by cases hF'; rfl),
              rec_call hc hp ho hop hw hr h1 htr rfl (fun j b hb => ?_), ⟨fun _ _ => rfl, fun j _ => em_get _ ht j⟩, fun j => ?_, fun n hn => ?_⟩
            · rcases restrict_get _ _ _ _ _ hb with h | h
              · rw [MT.get_empty] at h; cases h
              · exact h
            · rw [← p2 j, em_get _ (p1.tidy ht)]
              have t1 : EM.tidy ⟨e2.t, Nat.succ e2.nb, e2.fl, e2.ws⟩ := hext.tidy ht
              rw [em_get _ t1]
            · have hbd := hx.bd
              simp only at hbd
              obtain ⟨k, hk, rfl⟩ := List.mem_range'.1 hn
              simp only at hk ⊢
              omega
          · cases h
        · cases h
      · cases h
  · split at h
    · rename_i v1 u hg
      split at h
      · rename_i e1 hpt
        cases h
        have hok := get?_ok hg
        obtain ⟨p1, p2, p3⟩ := puts_spec hpt ht
        refine ⟨⟨i, o.dst, slotsOf ops o, (match silentOp o.op with | true => [] | false => foot (ev s.fr) o.op), [s.e.nb], v, u, s.fr.get, s.e.m.get⟩, rfl, rfl, rfl, rfl, rfl, (fun F' hF' => by cases hF'; rfl),
          rec_val ho hop hw hok ?_, ⟨fun _ _ => rfl, fun j _ => rfl⟩, fun j => ?_, fun n hn => ?_⟩
        · cases hsl : silentOp o.op with
          | true => exact .inl rfl
          | false => exact .inr fun _ h => h
        · rw [← p2 j, em_get _ (p1.tidy ht), em_get _ (hext.tidy ht)]
        · simp only [List.mem_singleton] at hn
          subst hn
          refine ⟨Nat.le_refl _, ?_⟩
          show _ < (match Nat.beq e1.nb s.e.nb with | true => Nat.succ s.e.nb | false => e1.nb)
          split
          · exact Nat.lt_succ_self _
          · rename_i hb
            have : e1.nb ≠ s.e.nb := fun e => by rw [e] at hb; simp at hb
            have := p1.bd
            omega
      · cases h
    · cases h

theorem edraw_recs (hc : CallOk P call) (hp : CallPure call) : ∀ {l : List Oper} {i : Nat} {s s' : ES} {rs rs' : List DR}, ops.toList.drop i = l → (l.all (operOk P N ops)) = true → edraw P call ops (masks ops.toList []) l i s rs = some (s', rs') → s.e.tidy →
    ∃ recs : List Rec, (∀ d ∈ rs, d ∈ rs') ∧ (∀ r ∈ recs, Noted rs' r) ∧ Chain recs ⟨s.fr, s.e.m⟩ ∧ Same (appAll recs ⟨s.fr, s.e.m⟩) ⟨s'.fr, s'.e.m⟩ ∧ (∀ r ∈ recs, RecOk P N z rd cn ops Q r) ∧
      recs.map (·.i) = List.range' i l.length ∧ (∀ r ∈ recs, ∃ o, ops[r.i]? = some o ∧ r.dst = o.dst ∧ r.slots = slotsOf ops o) ∧ (∀ r ∈ recs, ∀ n ∈ r.new, s.e.nb ≤ n ∧ n < s'.e.nb) ∧
      recs.Pairwise (fun r q => ∀ n ∈ r.new, n ∉ q.new)
  | [], i, s, s', rs, rs', hd, hl, h, ht => by
    simp only [edraw] at h; cases h
    exact ⟨[], fun _ h => h, by simp, trivial, Same.refl _, by simp, by simp, by simp, by simp, List.Pairwise.nil⟩
  | o :: l, i, s, s', rs, rs', hd, hl, h, ht => by
    have ho : ops[i]? = some o := by
      rw [← Array.getElem?_toList]
      have := List.getElem?_drop (xs := ops.toList) (i := i) (j := 0)
      rw [hd] at this
      simpa using this.symm
    have hd' : ops.toList.drop (i + 1) = l := by rw [← List.drop_drop, hd]; rfl
    simp only [List.all_cons, Bool.and_eq_true] at hl
    simp only [edraw] at h
    split at h
    · rename_i hw
      split at h
      · rename_i v e F ws he
        rw [putF_eq] at h
        have hx := edraw1_ext hp he ht
        obtain ⟨r, r1, r2, r3, r4, r5, r6, r7, r8, r9, r10⟩ := edraw1_rec (N := N) (z := z) (rd := rd) (cn := cn) (Q := Q) hc hp ho hl.1 hw he ht
        have hx2 := edraw_ext hp h (hx.tidy ht)
        obtain ⟨recs, a1, a2, a3, a4, a5, a6, a7, a8, a9⟩ := edraw_recs hc hp hd' hl.2 h (hx.tidy ht)
        have hsame : Same (r.app ⟨s.fr, s.e.m⟩) ⟨putD s.fr o.dst v, e.m⟩ := by
          refine ⟨fun t => ?_, fun j => r9 j⟩
          simp only [Rec.app, r2, r4]
          exact ⟨trivial, trivial⟩
        refine ⟨r :: recs, fun d hd => a1 d (by simp [hd]), ?_, ⟨r8, Chain_same hsame.symm a3⟩, (appAll_same (l := recs) hsame).trans a4, ?_, ?_, ?_, ?_, ?_⟩
        · intro q hq
          simp only [List.mem_cons] at hq
          rcases hq with rfl | hq
          · exact ⟨_, a1 ⟨i, F, ws⟩ (by simp), r1.symm, r5.symm, fun F' hF' => r6 F' hF'⟩
          · exact a2 q hq
        · intro q hq
          simp only [List.mem_cons] at hq
          rcases hq with rfl | hq
          · exact r7
          · exact a5 q hq
        · simp only [List.map_cons, r1, a6, List.length_cons]
          rfl
        · intro q hq
          simp only [List.mem_cons] at hq
          rcases hq with rfl | hq
          · exact ⟨o, by rw [r1]; exact ho, r2, r3⟩
          · exact a7 q hq
        · intro q hq n hn
          simp only [List.mem_cons] at hq
          rcases hq with rfl | hq
          · have := r10 n hn
            have := hx2.bd
            simp only at this
            omega
          · have := a8 q hq n hn
            have := hx.bd
            simp only at *
            omega
        · refine List.pairwise_cons.2 ⟨fun q hq n hn hn' => ?_, a9⟩
          have := r10 n hn
          have := a8 q hq n hn'
          simp only at *
          omega
      · cases h
    · rename_i hw
      rw [putF_eq] at h
      obtain ⟨recs, a1, a2, a3, a4, a5, a6, a7, a8, a9⟩ := edraw_recs (s := ⟨putD s.fr o.dst undefA, s.e⟩) hc hp hd' hl.2 h ht
      refine ⟨⟨i, o.dst, slotsOf ops o, [], [], undefA, [], s.fr.get, s.e.m.get⟩ :: recs, fun d hd => a1 d (by simp [hd]), ?_, ⟨⟨fun _ _ => rfl, fun j _ => rfl⟩, a3⟩, a4, ?_, ?_, ?_, ?_, ?_⟩
      · intro q hq
        simp only [List.mem_cons] at hq
        rcases hq with rfl | hq
        · exact ⟨_, a1 ⟨i, some [], []⟩ (by simp), rfl, rfl, fun F' hF' => by cases hF'; rfl⟩
        · exact a2 q hq
      · intro q hq
        simp only [List.mem_cons] at hq
        rcases hq with rfl | hq
        · exact rec_skip ho hl.1 hw
        · exact a5 q hq
      · simp only [List.map_cons, a6, List.length_cons]
        rfl
      · intro q hq
        simp only [List.mem_cons] at hq
        rcases hq with rfl | hq
        · exact ⟨o, ho, rfl, rfl⟩
        · exact a7 q hq
      · intro q hq n hn
        simp only [List.mem_cons] at hq
        rcases hq with rfl | hq
        · simp at hn
        · exact a8 q hq n hn
      · exact List.pairwise_cons.2 ⟨fun q hq n hn => by simp at hn, a9⟩
    · cases h
end
end Go.Fw
