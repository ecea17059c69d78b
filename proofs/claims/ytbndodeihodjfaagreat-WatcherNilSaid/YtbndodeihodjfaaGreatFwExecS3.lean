/- The kernel's machine: operations in text order stand for the model's. -/
import Derived.Test.YtbndodeihodjfaaGreatFwExecS2
namespace Go.Fw
set_option linter.unusedVariables false
set_option linter.unusedSimpArgs false

theorem sat_congr {G K ρ w} {m n : Mem} (h : ∀ i, m.get i = n.get i) (hS : Sat G K ρ w m) : Sat G K ρ w n :=
  ⟨hS.glob, fun i b hb => hS.ok i b ((h i).trans hb), fun i j b c hb hc => hS.apart i j b c ((h i).trans hb) ((h j).trans hc), fun i b hb => hS.known i b ((h i).trans hb), hS.few⟩
theorem step_congr {K ρ w K' ρ' w'} {m n m' n' : Mem} (h : ∀ i, m.get i = n.get i) (h' : ∀ i, m'.get i = n'.get i) (hS : Step K ρ w m K' ρ' w' m') : Step K ρ w n K' ρ' w' n' :=
  ⟨hS.os, hS.tape, hS.output, hS.size, hS.more, hS.env, fun b hb hn => hS.block b hb fun i c hc => hn i c ((h i).symm.trans hc),
   fun i c hc => (hS.from_ i c ((h' i).trans hc)).imp id fun ⟨j, d, hj, x⟩ => ⟨j, d, (h j).symm.trans hj, x⟩⟩

structure EW (K : Nat → Prop) (ρ : Env) (w : World) (e : EM) (K' : Nat → Prop) (ρ' : Env) (w' : World) (e' : EM) : Prop where
  step : Step K ρ w e.m K' ρ' w' e'.m
  new : ∀ i, K' i → K i ∨ (e.nb ≤ i ∧ i < e'.nb)
  bd : e.nb ≤ e'.nb
theorem EW.refl (K ρ w e) : EW K ρ w e K ρ w e := ⟨Step.refl _ _ _ _, fun _ h => .inl h, Nat.le_refl _⟩
theorem EW.trans {K ρ w e K' ρ' w' e' K'' ρ'' w'' e''} (h : EW K ρ w e K' ρ' w' e') (k : EW K' ρ' w' e' K'' ρ'' w'' e'') : EW K ρ w e K'' ρ'' w'' e'' :=
  ⟨h.step.trans k.step, fun i hi => by
    rcases k.new i hi with h1 | h1
    · rcases h.new i h1 with h2 | h2
      · exact .inl h2
      · exact .inr ⟨h2.1, Nat.lt_of_lt_of_le h2.2 k.bd⟩
    · exact .inr ⟨Nat.le_trans h.bd h1.1, h1.2⟩, Nat.le_trans h.bd k.bd⟩
def Free (K : Nat → Prop) (e : EM) (NB : Nat) : Prop := ∀ i, e.nb ≤ i → i < NB → ¬ K i
theorem EW.free {K ρ w e K' ρ' w' e' NB} (h : EW K ρ w e K' ρ' w' e') (hf : Free K e NB) : Free K' e' NB := fun i h1 h2 hk => by
  rcases h.new i hk with h3 | h3
  · exact hf i (Nat.le_trans h.bd h1) h2 h3
  · omega

/-- How a call or a round of a loop ends. -/
def Came (P : Program) (K : Nat → Prop) (ρ : Env) (w : World) (e : EM) (v : AV) (e' : EM) (x : Ending) (w' : World) : Prop :=
  ∃ K' ρ', x = .returned (v.val ρ') ∧ EW K ρ w e K' ρ' w' e' ∧ Sat P.globals.size K' ρ' w' e'.m ∧ v.sc K'
structure CallOk (P : Program) (call : CallF) : Prop where
  fn : ∀ f args e v e', call (.inl f) args e = some (v, e') → e.tidy → enters P f = true ∧ ∀ (K : Nat → Prop) (ρ : Env) (w : World), Sat P.globals.size K ρ w e.m → AV.scs K args →
    Free K e (e'.nb + 1) → Calls P f ⟨AV.vals ρ args⟩ w (Came P K ρ w e v e')
  round : ∀ nm args e v e', call (.inr nm) args e = some (v, e') → e.tidy → ∀ (K : Nat → Prop) (ρ : Env) (w : World), Sat P.globals.size K ρ w e.m → AV.scs K args →
    Free K e (e'.nb + 1) → ∃ l f tmps asg bd, (Instr.yield (ρ nm).b ⟨AV.vals ρ args⟩).run P w = .ok (.round l f tmps asg bd) w ∧ ∀ rd cn, RoundIn (Fr rd) cn P l f tmps asg bd w (Came P K ρ w e v e')

theorem yld_run {P : Program} {K : Nat → Prop} {ρ : Env} {re : Operand → Value} {evf : Operand → AV} {o : Oper}
    (hev : ∀ x ∈ o.op.operands.toList, Evs K ρ re evf x) {m : Mem} {nf : Nat} {nm : Nat} {args : List AV} (ha : aop P evf m nf o.op = .yld nm args) (w : World) :
    (execOp re o).run P w = (Instr.yield (ρ nm).b ⟨AV.vals ρ args⟩).run P w ∧ AV.scs K args ∧ ∀ c, o.op ≠ .defer c := by
  cases ho : o.op with
  | call c =>
    rw [execOp_call ho]
    rw [ho] at ha hev
    simp only [aop, acallee] at ha
    cases hc : c.callee with
    | builtin b =>
      rw [hc] at ha
      simp only at ha
      have hno : abuiltin P m nf b (c.args.toList.map evf) c.argTypes.toList ≠ .yld nm args := by
        intro h
        unfold abuiltin at h
        simp only [aappend, aclear] at h
        repeat' (split at h)
        all_goals cases h
      exact absurd ha hno
    | value x =>
      rw [hc] at ha
      simp only at ha
      simp only [Op.operands, Call.operands, hc] at hev
      obtain ⟨e1, e2⟩ := evs_list (re := re) (evf := evf) (K := K) (ρ := ρ) c.args.toList (fun y hy => hev y (by simp; exact .inr (by simpa using hy)))
      have hx := hev x (by simp)
      split at ha
      · cases ha
      · rename_i nm' hv
        cases ha
        have hre := hx.val
        rw [hv] at hre
        have hargs : c.args.map re = ⟨AV.vals ρ (c.args.toList.map evf)⟩ := by apply Array.ext'; rw [e1]; simp
        refine ⟨?_, e2, fun c h => by cases h⟩
        simp [resolve, hc, Deferred.ofValue, ← hre, AV.val, Sem.run_bind, run_sem_pure, Result.andThen_ok, invoke, hargs]
      · cases ha
    | invoke r name =>
      rw [hc] at ha
      simp only at ha
      split at ha
      · split at ha <;> cases ha
      · cases ha
  | _ =>
    exfalso
    rw [ho] at ha
    simp only [aop, abin, abinI, anilEq, aaggEq, aun, aconvB, aconv, amake, aidx, aslice, aindexAddr] at ha
    try (repeat' (split at ha))
    all_goals cases ha

section
variable {P : Program} {N z : Nat} {K : Nat → Prop} {ρ : Env} {a : Act} {w : World} {s : St}
theorem Rel0.ev (h : Rel0 P N z K ρ a w s) {x : Operand} (hx : opndOk P N x = true) : Evs K ρ a.eval (ev s.fr) x := by
  cases x with
  | tmp t =>
    simp only [opndOk, decide_eq_true_eq] at hx
    obtain ⟨_, h2, h3⟩ := h.tm t hx
    exact ⟨by simp [Fw.ev, Act.eval, h2], h3⟩
  | const v =>
    simp only [opndOk] at hx
    obtain ⟨y, hy⟩ := Option.isSome_iff_exists.1 hx
    refine ⟨?_, ?_⟩
    · simp only [Fw.ev, Act.eval, hy, Option.getD_some]; exact ofV_val hy ρ
    · simp only [Fw.ev, hy, Option.getD_some]; exact ofV_sc hy K
  | global g =>
    simp only [opndOk, decide_eq_true_eq] at hx
    obtain ⟨h1, h2, h3⟩ := h.sat.glob g hx
    exact ⟨by simp [Fw.ev, Act.eval, AV.val, h2, h3], by simpa [Fw.ev, AV.sc] using h1⟩
  | func f => exact ⟨by simp [Fw.ev, Act.eval, AV.val, AV.vals], by simp [Fw.ev, AV.sc, AV.scs]⟩

theorem Rel0.defs_step (h : Rel0 P N z K ρ a w s) {K' ρ' w' m'} (hs : Step K ρ w s.m K' ρ' w' m') : ∃ L : List Nat, a.defers = L.map markOf ∧ L.Nodup ∧ ∀ D ∈ L, z ≤ D ∧ w'.heap[D]? = some (.deferred (some [])) := by
  obtain ⟨L, h1, h0, h2⟩ := h.defs
  refine ⟨L, h1, h0, fun D hD => ⟨(h2 D hD).1, ?_⟩⟩
  have hd := (h2 D hD).2
  rw [hs.block D (Array.getElem?_eq_some_iff.1 hd).1 ?_]
  · exact hd
  · intro i c hc hw e
    have hok := h.sat.ok i c hc
    rcases c with ⟨cw, cc⟩
    simp only at hw
    subst hw
    cases cc with
    | fin l => obtain ⟨_, e', hh⟩ := hok; rw [e] at hh; rw [hd] at hh; cases hh
    | arr sz L' => obtain ⟨_, _, _, _, cur, e', hh, _⟩ := hok; rw [e] at hh; rw [hd] at hh; cases hh
    | loop fr ps asg bd pend => obtain ⟨_, r, hh, _⟩ := hok; rw [e] at hh; rw [hd] at hh; cases hh

theorem Rel0.next (h : Rel0 P N z K ρ a w s) {K' ρ' w' m'} (hs : Step K ρ w s.m K' ρ' w' m') (hS : Sat P.globals.size K' ρ' w' m') {d : Option Tmp} {v : AV}
    (hd : ∀ t, d = some t → t < N) (hv : v.sc K') : Rel0 P N z K' ρ' (a.put d (v.val ρ')) w' ⟨putD s.fr d v, m'⟩ := by
  have hold : ∀ t, t < N → s.fr.mem t = true ∧ a.tmps.getD t undef = (s.fr.get t).val ρ' ∧ (s.fr.get t).sc K' := fun t ht => by
    obtain ⟨h1, h2, h3⟩ := h.tm t ht
    exact ⟨h1, by rw [h2, AV.val_congr hs.env _ h3], AV.sc_mono hs.more _ h3⟩
  have hdf := h.defs_step hs
  cases d with
  | none => exact ⟨h.size, hold, hS, hdf⟩
  | some d =>
    have hdN := hd d rfl
    refine ⟨by simp [Act.put, h.size], fun t ht => ?_, hS, hdf⟩
    obtain ⟨h1, h2, h3⟩ := hold t ht
    simp only [putD, Act.put]
    by_cases e : d = t
    · subst e
      refine ⟨by rw [Tr.mem_put]; exact h1, ?_, ?_⟩
      · rw [Tr.get_put_same _ _ _ h1]
        simp [h.size, hdN]
      · rw [Tr.get_put_same _ _ _ h1]; exact hv
    · refine ⟨by rw [Tr.mem_put]; exact h1, ?_, ?_⟩
      · rw [Tr.get_put_other _ _ _ _ e, ← h2]
        simp [Array.getD, h.size, ht, Array.getElem_setIfInBounds, e]
      · rw [Tr.get_put_other _ _ _ _ e]; exact h3

theorem Rel0.congr (h : Rel0 P N z K ρ a w s) {s' : St} (hs : Same s s') : Rel0 P N z K ρ a w s' :=
  ⟨h.size, fun t ht => by rw [← (hs.1 t).1, ← (hs.1 t).2]; exact h.tm t ht, sat_congr hs.2 h.sat, h.defs⟩
theorem Rel0.mem (h : Rel0 P N z K ρ a w s) {m : Mem} (hm : ∀ i, s.m.get i = m.get i) : Rel0 P N z K ρ a w ⟨s.fr, m⟩ := h.congr ⟨fun _ => ⟨rfl, rfl⟩, hm⟩

theorem get?_ok : ∀ {r : Res} {v : AV} {u}, r.get? = some (v, u) → r.ok v u
  | @Res.val pre _ v0 u0, v, u, h => by
    simp only [Res.get?] at h
    split at h
    · rename_i hp; cases h; exact ⟨hp, rfl, rfl⟩
    · cases h
  | .ite b x y, v, u, h => by
    cases b with
    | true => simp only [Res.get?] at h; simp only [Res.ok, if_true]; exact get?_ok h
    | false => simp only [Res.get?] at h; simp only [Res.ok, Bool.false_eq_true, if_false]; exact get?_ok h
  | .call _ _, _, _, h => by simp [Res.get?] at h
  | .yld _ _, _, _, h => by simp [Res.get?] at h
  | .bad, _, _, h => by simp [Res.get?] at h

theorem want_ok (h : Rel0 P N z K ρ a w s) {full : Array Oper} {o : Oper} (hop : operOk P N full o = true) {b : Bool} (hw : want full s.fr o = some b) : Region.wanted o (yielded full a.tmps) = b := by
  unfold want at hw
  split at hw
  · rename_i hg; cases hw; simp [Region.wanted, hg]
  · rename_i j wn hg
    split at hw
    · rename_i t ht
      have htN : t < N := by
        simp only [operOk, Bool.and_eq_true, hg, ht] at hop
        simpa using hop.2
      have hlt : t < a.tmps.size := by rw [h.size]; exact htN
      have hv := (h.tm t htN).2.1
      rw [Tr.getF_eq] at hw
      split at hw
      · rename_i b' hb
        cases hw
        have hval : a.tmps[t]? = some (.bool b') := by
          rw [Array.getElem?_eq_getElem hlt]
          rw [hb] at hv
          simpa [Array.getD, hlt, AV.val] using hv
        have hy : yielded full a.tmps j = some b' := by
          unfold gslot at ht
          unfold yielded
          rw [ht]
          simp [hval]
        simp only [Region.wanted, hg, hy]
        cases b' <;> cases wn <;> rfl
      · rename_i hb
        cases hw
        have hval : a.tmps[t]? = some (.tuple #[]) := by
          rw [Array.getElem?_eq_getElem hlt]
          rw [hb] at hv
          simpa [Array.getD, hlt, AV.val, AV.vals] using hv
        have hy : yielded full a.tmps j = none := by
          unfold gslot at ht
          unfold yielded
          rw [ht]
          simp [hval]
        simp only [Region.wanted, hg, hy]
        rfl
      · cases hw
    · cases hw
end

section
variable {P : Program} {N z : Nat} {rd : Option Nat} {cn : Nat} {call : CallF}

/-- One operation. -/
theorem eop_sound (hc : CallOk P call) (hp : CallPure call) {full : Array Oper} {o : Oper} {fr : Tr} {e e' : EM} {v : AV} (hop : operOk P N full o = true) (h : eop P call fr e o.op = some (v, e')) (ht : e.tidy)
    {NB : Nat} (hNB : e'.nb < NB) {K ρ a w} (hR : Rel0 P N z K ρ a w ⟨fr, e.m⟩) (hf : Free K e NB) {Q' : Exit → Act → World → Prop} {next : Act → World → Prop}
    (hn : ∀ K' ρ' a' w', EW K ρ w e K' ρ' w' e' → Rel0 P N z K' ρ' a' w' ⟨putD fr o.dst v, e'.m⟩ → next a' w') : o.wpIn (Fr rd) cn P a w next Q' := by
  have hop0 := hop
  simp only [operOk, Bool.and_eq_true] at hop
  obtain ⟨⟨hd, hopn⟩, _⟩ := hop
  have hev : ∀ x ∈ o.op.operands.toList, Evs K ρ a.eval (ev fr) x := fun x hx => hR.ev (List.all_eq_true.1 hopn x hx)
  have hdst : ∀ t, o.dst = some t → t < N := fun t e => by rw [e] at hd; simpa using hd
  have hext := eop_ext hp h ht
  unfold eop at h
  rw [evF_eq, aopF_eq] at h
  split at h
  · rename_i f args hr
    obtain ⟨c, ho⟩ := res_call_isCall hr
    obtain ⟨hen, hcalls⟩ := hc.fn _ _ _ _ _ h ht
    obtain ⟨h1, h2⟩ := call_run ho hev hr hen w
    refine ⟨fun f _ => Fr_fn rd f, ?_⟩
    rw [Fr_round, semAt_noDefer (aop_call_noDefer hr), h1]
    refine ⟨fun hd => (by rw [Fr_depth] at hd; cases hd), Fr_calls.2 ?_⟩
    refine (hcalls K ρ w hR.sat h2 (fun i h1 h2 => hf i h1 (by omega))).mono ?_
    rintro x w' ⟨K', ρ', rfl, hW, hS, hv⟩
    exact hn _ _ _ _ hW (hR.next hW.step hS hdst hv)
  · rename_i nm args hr
    obtain ⟨h1, h2, h3⟩ := yld_run hev hr w
    obtain ⟨l, f, tmps, asg, bd, hy, hround⟩ := hc.round _ _ _ _ _ h ht K ρ w hR.sat h2 (fun i h1 h2 => hf i h1 (by omega))
    refine ⟨fun f _ => Fr_fn rd f, ?_⟩
    rw [Fr_round, semAt_noDefer h3, h1, hy, Oper.uponIn_round]
    refine ⟨fun hd => (by rw [Fr_depth] at hd; cases hd), (hround rd _).mono ?_⟩
    rintro x w' ⟨K', ρ', rfl, hW, hS, hv⟩
    exact hn _ _ _ _ hW (hR.next hW.step hS hdst hv)
  · split at h
    · rename_i v1 u hg
      split at h
      · rename_i e1 hpt
        cases h
        have hok := get?_ok hg
        obtain ⟨p1, p2, p3⟩ := puts_spec hpt ht
        have hnf : ¬ K e.nb := hf e.nb (Nat.le_refl _) (Nat.lt_of_le_of_lt p1.bd hNB)
        refine wpIn_val (aop_ok_noDefer hok) (aop_ok hR.sat hnf hev (aop_noCall hok) hok) fun w' ρ' h1 h2 h3 => ?_
        have h1' := step_congr (fun _ => rfl) (fun i => (p2 i).symm) h1
        have h2' := sat_congr (fun i => (p2 i).symm) h2
        refine hn _ _ _ _ ⟨h1', fun i hi => ?_, p1.bd⟩ (hR.next h1' h2' hdst h3)
        rcases hi with hi | hi
        · exact .inl hi
        · have hlt := p3 i hi
          by_cases hk : K i
          · exact .inl hk
          · refine .inr ⟨?_, hlt⟩
            rcases aop_names hok i hi with e | e
            · omega
            · obtain ⟨b, hb⟩ := Option.isSome_iff_exists.1 e
              exact absurd (hR.sat.known i b hb).1 hk
      · cases h
    · cases h

theorem eops_sound (hc : CallOk P call) (hp : CallPure call) {full : Array Oper} {Q : Exit → Act → World → Prop} : ∀ {l : List Oper} {s s' : ES}, (l.all (operOk P N full)) = true → eops P call full l s = some s' → s.e.tidy →
    ∀ {NB : Nat}, s'.e.nb < NB → ∀ {K ρ a w}, Rel0 P N z K ρ a w ⟨s.fr, s.e.m⟩ → Free K s.e NB →
    (∀ K' ρ' a' w', EW K ρ w s.e K' ρ' w' s'.e → Rel0 P N z K' ρ' a' w' ⟨s'.fr, s'.e.m⟩ → Q .normal a' w') → wpListIn (Fr rd) cn P full Q l a w
  | [], s, s', _, h, ht, NB, hNB, K, ρ, a, w, hR, hf, hn => by
    simp only [eops] at h; cases h
    exact hn _ _ _ _ (EW.refl _ _ _ _) hR
  | o :: l, s, s', hl, h, ht, NB, hNB, K, ρ, a, w, hR, hf, hn => by
    simp only [List.all_cons, Bool.and_eq_true] at hl
    simp only [eops] at h
    simp only [wpListIn]
    split at h
    · rename_i hw
      rw [want_ok hR hl.1 hw]
      simp only [if_true]
      split at h
      · rename_i v e he
        rw [putF_eq] at h
        have hx := eop_ext hp he ht
        have hx2 := eops_ext hp h (hx.tidy ht)
        refine eop_sound hc hp hl.1 he ht (Nat.lt_of_le_of_lt hx2.bd hNB) hR hf fun K1 ρ1 a1 w1 hW hR1 => ?_
        exact eops_sound hc hp hl.2 h (hx.tidy ht) hNB hR1 (hW.free hf) fun K2 ρ2 a2 w2 hW2 hR2 => hn _ _ _ _ (hW.trans hW2) hR2
      · cases h
    · rename_i hw
      rw [want_ok hR hl.1 hw]
      simp only [Bool.false_eq_true, if_false]
      refine ⟨fun f _ => Fr_fn rd f, ?_⟩
      rw [putF_eq] at h
      have hdst : ∀ t, o.dst = some t → t < N := fun t e => by
        have := hl.1
        simp only [operOk, Bool.and_eq_true, e] at this
        simpa using this.1.1
      have hR1 : Rel0 P N z K ρ (a.put o.dst undef) w ⟨putD s.fr o.dst undefA, s.e.m⟩ := by
        simpa [undefA, AV.val, AV.vals, undef] using hR.next (d := o.dst) (v := undefA) (Step.refl K ρ w s.e.m) hR.sat hdst (by simp [undefA, AV.sc, AV.scs])
      exact eops_sound (s := ⟨putD s.fr o.dst undefA, s.e⟩) hc hp hl.2 h ht hNB hR1 hf hn
    · cases h
end
end Go.Fw
