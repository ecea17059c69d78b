/- The kernel's machine: calls. -/
import Derived.Test.YtbndodeihodjfaaGreatFwExecS6b
namespace Go.Fw
set_option linter.unusedVariables false
set_option linter.unusedSimpArgs false

theorem fnd_spec {P : Program} (hng : noNum P = true) {f : FuncId} {fn : Func} {c : Code} (h : fnd P f = some (fn, c)) : P.funcs[f]? = some fn ∧ fn.body = some c ∧ enters P f = true := by
  unfold fnd at h
  split at h
  · rename_i fn' hf
    split at h
    · rename_i c' hb
      cases h
      refine ⟨hf, hb, ?_⟩
      unfold enters
      rw [hf]
      unfold noNum at hng
      have hmem : fn ∈ P.funcs := Array.mem_of_getElem? hf
      have := Array.all_eq_true_iff_forall_mem.1 hng fn hmem
      simp only [hb, Option.isSome_some, Bool.true_and]
      exact this
    · cases h
  · cases h

theorem putAllF_eq : ∀ (l : List AV) (t : Tr) (i : Nat), putAllF t i l = putAll t i l
  | [], _, _ => rfl
  | v :: l, t, i => by simp only [putAllF, putAll, Tr.putF_eq]; exact putAllF_eq l _ _

theorem resAll_congr {P : Program} {fr : Tr} {m m' : Mem} (h : ∀ i, m.get i = m'.get i) : ∀ l : List ResultVar, resAll P ⟨fr, m⟩ l = resAll P ⟨fr, m'⟩ l
  | [] => rfl
  | r :: l => by
    have h1 : resOne P ⟨fr, m⟩ r = resOne P ⟨fr, m'⟩ r := by
      cases r with
      | tmp t => rfl
      | cell a t => simp only [resOne, loadN_foot (a := fr.get a) (fun i _ => h i)]
    simp only [resAll, h1, resAll_congr h l]

theorem Rel0.toRel {P : Program} {N z K ρ a w} {s : St} (h : Rel0 P N z K ρ a w s) : ∃ B, Rel P N z K ρ a w ⟨s.fr, ⟨s.m.get, B, []⟩⟩ ∧ ∀ i, s.m.get i = (⟨s.m.get, B, []⟩ : Mem).get i := by
  obtain ⟨B, hB⟩ := h.sat.few
  have hg := mem_get_eq (m := s.m) (B := B) (fun i b hb => hB i (h.sat.known i b hb).1)
  exact ⟨B, ⟨h.size, h.tm, sat_congr (fun i => (hg i).symm) h.sat, fun i hi => by simp only [Mem.bound, List.length_nil]; exact hB i hi, h.defs⟩, fun i => (hg i).symm⟩

theorem enter_rel0 {P : Program} {N d : Nat} (hd : memAll (Tr.full d) N = true) {K ρ w} {m : Mem} (hS : Sat P.globals.size K ρ w m) {args : List AV} (ha : AV.scs K args) (hN : args.length ≤ N) (z : Nat) :
    Rel0 P N z K ρ { tmps := (⟨AV.vals ρ args⟩ : Array Value) ++ Array.replicate (N - (⟨AV.vals ρ args⟩ : Array Value).size) undef, defers := [] } w ⟨putAll (Tr.full d) 0 args, m⟩ := by
  obtain ⟨B, hB⟩ := hS.few
  have hg := mem_get_eq (m := m) (B := B) (fun i b hb => hB i (hS.known i b hb).1)
  have := enter_rel hd (sat_congr (fun i => (hg i).symm) hS) (fun i hi => by simp only [Mem.bound, List.length_nil]; exact hB i hi) ha hN z
  exact ⟨this.size, this.tm, hS, this.defs⟩

theorem ecallF_ok {P : Program} (hm : P.follows .mixedOrders = true) {call : CallF} (hc : CallOk P call) (hp : CallPure call) {k : Nat} {f : FuncId} {fn : Func} {c : Code} {args : List AV} {e e' : EM} {v : AV}
    (hf : P.funcs[f]? = some fn) (hb : fn.body = some c) (h : ecallF P call k fn c args e = some (v, e')) (ht : e.tidy) {K : Nat → Prop} {ρ : Env} {w : World} (hS : Sat P.globals.size K ρ w e.m) (ha : AV.scs K args)
    (hfree : Free K e (e'.nb + 1)) : Calls P f ⟨AV.vals ρ args⟩ w (Came P K ρ w e v e') := by
  unfold ecallF at h
  split at h
  · rename_i hok
    simp only [fnOk, Bool.and_eq_true, decide_eq_true_eq] at hok
    obtain ⟨⟨⟨hfit, hd⟩, hl⟩, hres⟩ := hok
    have main : ∀ {x : Exit} {s : ES}, exec P call true fn.ntmps k c ⟨putAllF (Tr.full (depthFor 12 fn.ntmps)) 0 args, e⟩ = some (x, s) → (x = .normal ∨ x = .ret) →
        (match resAll P ⟨s.fr, s.e.m⟩ fn.results.toList with | some vs => some (oneOf vs, s.e) | none => none) = some (v, e') →
        Calls P f ⟨AV.vals ρ args⟩ w (Came P K ρ w e v e') := by
      intro x s hx hxx hr
      split at hr
      · rename_i vs hvs
        cases hr
        rw [← Fr_calls (rd := none) (n := 0)]
        refine callsIn_of_wp_marks hf hb trivial ?_ rfl
        rw [putAllF_eq] at hx
        have hrel := enter_rel0 hd hS ha hl w.heap.size
        refine exec_sound (rd := none) (cn := 0) hm hc hp (fun _ => rfl) hfit hx ht _ K ρ _ w _ (Nat.lt_succ_self _) (Nat.le_refl _) hrel hfree fun K1 ρ1 a w1 hW hR => ?_
        have key : LeavesInM Fence.wide 0 P fn a.tmps (Came P K ρ w e (oneOf vs) s.e) a.defers .returning w1 := by
          obtain ⟨Ds, h1, h2, h3⟩ := hR.defs
          rw [h1]
          refine leave_ok (v := (oneOf vs).val ρ1) Ds w1 hW.step hR.sat h2 h3 (fun w' hS2 hT2 => ?_) 0
          have hR' : Rel0 P fn.ntmps 0 K1 ρ1 { a with defers := [] } w' ⟨s.fr, s.e.m⟩ := ⟨hR.size, hR.tm, hT2, ⟨[], rfl, List.nodup_nil, by simp⟩⟩
          obtain ⟨B, hRel, hg⟩ := hR'.toRel
          rw [resAll_congr hg] at hvs
          obtain ⟨r1, r2⟩ := results_ok hRel hres hvs
          exact ⟨r2, K1, ρ1, rfl, ⟨hS2, hW.new, hW.bd⟩, hT2, r1⟩
        rcases hxx with rfl | rfl <;> exact key
      · cases hr
    split at h
    · rename_i hx; exact main hx (.inl rfl) h
    · rename_i hx; exact main hx (.inr rfl) h
    · cases h
  · cases h

theorem rel_params {P : Program} {N z : Nat} {K : Nat → Prop} {ρ : Env} {w : World} {m : Mem} : ∀ {ps : List Tmp} {args : List AV} {a : Act} {fr : Tr}, Rel0 P N z K ρ a w ⟨fr, m⟩ → (ps.all fun t => Nat.blt t N) = true → AV.scs K args →
    Rel0 P N z K ρ { a with tmps := (ps.zip (AV.vals ρ args)).foldl (fun tmps x => tmps.setIfInBounds x.1 x.2) a.tmps } w ⟨putPsF fr ps args, m⟩
  | [], args, a, fr, h, _, _ => by simpa [putPsF] using h
  | p :: ps, [], a, fr, h, _, _ => by simpa [putPsF, AV.vals] using h
  | p :: ps, v :: args, a, fr, h, hp, hs => by
    simp only [List.all_cons, Bool.and_eq_true, Nat.blt_eq] at hp
    simp only [AV.scs] at hs
    have h1 := h.next (d := some p) (v := v) (Step.refl K ρ w m) h.sat (fun t e => by cases e; exact hp.1) hs.1
    have h2 := rel_params (ps := ps) (args := args) h1 hp.2 hs.2
    simpa [putPsF, AV.vals, Tr.putF_eq, putD, Act.put] using h2

theorem jumpOf_spec {x : Exit} {j : Option Code} (h : jumpOf x = some j) : (x = .normal ∧ j = none) ∨ (∃ id, x = .exit id ∧ j = some (.exit id)) ∨ (x = .ret ∧ j = some .ret) := by
  unfold jumpOf at h
  split at h
  · cases h; exact .inl ⟨rfl, rfl⟩
  · cases h; exact .inr (.inl ⟨_, rfl, rfl⟩)
  · cases h; exact .inr (.inr ⟨rfl, rfl⟩)
  · cases h
theorem Fr_inRound (rd : Option Nat) (l : Nat) : (Fr rd).inRound l = Fr (some l) := by cases rd <;> rfl

theorem ecallR_ok {P : Program} (hm : P.follows .mixedOrders = true) {call : CallF} (hc : CallOk P call) (hp : CallPure call) {k nm : Nat} {args : List AV} {e e' : EM} {v : AV} {fr : List AV} {ps : List Tmp} {asg bd : Code}
    (hg : e.t.get nm = some ⟨true, .loop fr ps asg bd none⟩) (h : ecallR P call k nm args e fr ps asg bd = some (v, e')) (ht : e.tidy) {K : Nat → Prop} {ρ : Env} {w : World} (hS : Sat P.globals.size K ρ w e.m) (ha : AV.scs K args)
    (hfree : Free K e (e'.nb + 1)) :
    ∃ l f tmps asg bd, (Instr.yield (ρ nm).b ⟨AV.vals ρ args⟩).run P w = .ok (.round l f tmps asg bd) w ∧ ∀ rd cn, RoundIn (Fr rd) cn P l f tmps asg bd w (Came P K ρ w e v e') := by
  unfold ecallR at h
  rw [tightN_eq] at h
  split at h
  · rename_i hok
    simp only [roundOk, Bool.and_eq_true] at hok
    obtain ⟨⟨⟨⟨hfa, hfb⟩, hd⟩, hps⟩, hlen⟩ := hok
    have hlen' : args.length = ps.length := Nat.eq_of_beq_eq_true hlen
    split at h
    · rename_i e1 h1
      obtain ⟨p1, p2, p3, p4, p5, p6⟩ := put1_spec h1
      have t1 := p1.tidy ht
      split at h
      · rename_i s1 h2
        have x2 := exec_ext hp h2 t1
        have t2 := x2.tidy t1
        split at h
        · rename_i x s2 h3
          have x3 := exec_ext hp h3 t2
          have t3 := x3.tidy t2
          split at h
          · rename_i j hj
            split at h
            · rename_i e2 h4
              cases h
              obtain ⟨q1, q2, q3, q4, q5, q6⟩ := put1_spec h4
              have hgm : e.m.get nm = some ⟨true, .loop fr ps asg bd none⟩ := by rw [em_get _ ht]; exact hg
              obtain ⟨ho0, r, hl, r1, r2, r3, r4, r5, r6⟩ := hS.ok _ _ hgm
              obtain ⟨hkn, hksc⟩ := hS.known _ _ hgm
              simp only [Cont.sc] at hksc
              obtain ⟨l, hl0⟩ : ∃ l, l = (ρ nm).b := ⟨_, rfl⟩
              rw [← hl0] at hl ⊢
              have hlw : l < w.heap.size := (Array.getElem?_eq_some_iff.1 hl).1
              have hnmlt : nm < e.nb := by
                rcases Nat.lt_or_ge nm e.nb with h | h
                · exact h
                · rw [em_get _ ht, ht.out nm h] at hgm; cases hgm
              have hnb1 : e1.nb = e.nb := by
                rcases p6 with h | ⟨h, _⟩
                · exact h
                · omega
              have hget1 : ∀ i c, e1.m.get i = some c → i ≠ nm ∧ e.m.get i = some c := by
                intro i c hi
                rw [em_get _ t1] at hi
                have hine : i ≠ nm := by rintro rfl; rw [p3] at hi; cases hi
                rw [p4 i hine, ← em_get _ ht] at hi
                exact ⟨hine, hi⟩
              obtain ⟨hS1, hT1⟩ := sat_less hS (fun i c hi => (hget1 i c hi).2)
              have hne0 : ∀ i c, e1.m.get i = some c → (ρ i).b ≠ l := fun i c hi => by
                have := hS.apart i nm c _ (hget1 i c hi).2 hgm (hget1 i c hi).1 (.inr rfl)
                rw [hl0]; exact this
              have hst : r.state = .ready := by rw [r6]; rfl
              have hasz : (⟨AV.vals ρ args⟩ : Array Value).size = r.params.size := by rw [r2]; simp [vals_length, hlen']
              refine ⟨l, r.fn, _, r.assign, r.body, run_yield hl hasz, fun rd cn => ?_⟩
              refine roundIn_of_wpIn (Fr_fn rd _) ?_
              rw [Fr_inRound, r3, r4]
              -- the round's frame
              have hN0 : args.length ≤ args.length := Nat.le_refl _
              have hrel0 := enter_rel0 (P := P) (N := fr.length) hd hT1 hksc (Nat.le_refl _) 0
              have htm0 : ((⟨AV.vals ρ fr⟩ : Array Value) ++ Array.replicate (fr.length - (⟨AV.vals ρ fr⟩ : Array Value).size) undef) = r.tmps := by
                rw [r1]
                simp [vals_length]
              rw [htm0] at hrel0
              have hrel1 := rel_params (ps := ps) (args := args) hrel0 hps ha
              have htm1 : (r.params.zip ⟨AV.vals ρ args⟩).foldl (fun tmps (x : Tmp × Value) => tmps.setIfInBounds x.1 x.2) r.tmps = (ps.zip (AV.vals ρ args)).foldl (fun tmps x => tmps.setIfInBounds x.1 x.2) r.tmps := by
                rw [r2]; simp
              rw [← putAllF_eq] at hrel1
              have hb3 : s2.e.nb ≤ e'.nb := q1.bd
              have hb2 : s1.e.nb ≤ s2.e.nb := x3.bd
              have hb1 : e1.nb ≤ s1.e.nb := x2.bd
              refine exec_sound (rd := some l) (cn := cn) hm hc hp (fun h => by cases h) hfa h2 t1 (e'.nb + 1) K ρ _ w _ (by omega) (Nat.zero_le _) ?_ (fun i h1 h2 => hfree i (by have h1' : e1.nb ≤ i := h1; omega) h2) fun K1 ρ1 a1 w1 hW1 hR1 => ?_
              · rw [← htm1] at hrel1; exact hrel1
              · have hl1 : w1.heap[l]? = some (.loop r) := by rw [hW1.step.block l hlw (fun i c hi _ => hne0 i c hi)]; exact hl
                have hne1 : ∀ i c, s1.e.m.get i = some c → (ρ1 i).b ≠ l := by
                  intro i c hi
                  rcases hW1.step.from_ i c hi with h | ⟨j, d, hj, _, he⟩
                  · omega
                  · rw [← he]; exact hne0 j d hj
                refine ⟨_, run_beginRound hl1 hst, ?_⟩
                have hR1' : Rel0 P fr.length 0 K1 ρ1 a1 (w1.putObj l (.loop { r with state := .busy })) ⟨s1.fr, s1.e.m⟩ := by
                  refine ⟨hR1.size, hR1.tm, sat_hide hR1.sat hne1 _, ?_⟩
                  obtain ⟨L, d1, d2, d3⟩ := hR1.defs
                  refine ⟨L, d1, d2, fun D hD => ⟨(d3 D hD).1, ?_⟩⟩
                  rw [World.putObj_heap_other ?_]
                  · exact (d3 D hD).2
                  · rintro rfl
                    have := (d3 D hD).2
                    rw [hl1] at this; cases this
                have hlt1 : l < w1.heap.size := (Array.getElem?_eq_some_iff.1 hl1).1
                have hf1 : Free K1 s1.e (e'.nb + 1) := hW1.free (fun i h1 h2 => hfree i (by have h1' : e1.nb ≤ i := h1; omega) h2)
                refine exec_sound (rd := some l) (cn := cn) hm hc hp (fun h => by cases h) hfb h3 t2 (e'.nb + 1) K1 ρ1 a1 _ _ (by omega) (Nat.zero_le _) hR1' hf1 fun K2 ρ2 a2 w3 hW2 hR2 => ?_
                have hl2 : (w1.putObj l (.loop { r with state := .busy })).heap[l]? = some (.loop { r with state := .busy }) := World.putObj_heap_same hlt1
                have hl3 : w3.heap[l]? = some (.loop { r with state := .busy }) := by rw [hW2.step.block l (by simpa using hlt1) (fun i c hi _ => hne1 i c hi)]; exact hl2
                have hne2 : ∀ i c, s2.e.m.get i = some c → (ρ2 i).b ≠ l := by
                  intro i c hi
                  rcases hW2.step.from_ i c hi with h | ⟨j, d, hj, _, he⟩
                  · have hs : (w1.putObj l (.loop { r with state := .busy })).heap.size = w1.heap.size := World.putObj_size
                    omega
                  · rw [← he]; exact hne1 j d hj
                have hend := run_endRound (P := P) j hl3
                have henv : ∀ i, K i → ρ2 i = ρ i := fun i hi => (hW2.step.env i (hW1.step.more i hi)).trans (hW1.step.env i hi)
                have hmore : ∀ i, K i → K2 i := fun i hi => hW2.step.more i (hW1.step.more i hi)
                have hlt3 : l < w3.heap.size := (Array.getElem?_eq_some_iff.1 hl3).1
                have hget2 : ∀ i c, e'.m.get i = some c → (i = nm ∧ c = ⟨true, .loop fr ps asg bd j⟩) ∨ (i ≠ nm ∧ s2.e.m.get i = some c) := by
                  intro i c hi
                  rw [em_get _ (q1.tidy t3)] at hi
                  by_cases hine : i = nm
                  · subst hine; rw [q3] at hi; cases hi; exact .inl ⟨rfl, rfl⟩
                  · rw [q4 i hine, ← em_get _ t3] at hi; exact .inr ⟨hine, hi⟩
                generalize hw4 : w3.putObj l (.loop { { r with state := .busy } with state := if j.isNone then .ready else .done, pending := j }) = w4 at hend
                have hT2 := sat_hide hR2.sat hne2 (.loop { { r with state := .busy } with state := if j.isNone then .ready else .done, pending := j })
                rw [hw4] at hT2
                have hsz4 : w4.heap.size = w3.heap.size := by rw [← hw4]; simp
                have hl4 : w4.heap[l]? = some (.loop { { r with state := .busy } with state := if j.isNone then .ready else .done, pending := j }) := by rw [← hw4]; exact World.putObj_heap_same hlt3
                have hnm2 : ρ2 nm = ρ nm := henv nm hkn
                have hCame : Came P K ρ w e (.bool j.isNone) e' (.returned (.bool j.isNone)) w4 := by
                  refine ⟨K2, ρ2, by simp [AV.val], ⟨⟨?_, ?_, ?_, ?_, hmore, henv, fun b hb hnw => ?_, fun i c hi => ?_⟩, fun i hi => ?_, by omega⟩, ⟨hT2.glob, fun i c hi => ?_, fun i i' c c' hi hi' hii hw => ?_, fun i c hi => ?_, hT2.few⟩, by simp [AV.sc]⟩
                  · rw [← hw4]; exact hW2.step.os.trans hW1.step.os
                  · rw [← hw4]; exact hW2.step.tape.trans hW1.step.tape
                  · rw [← hw4]; exact hW2.step.output.trans hW1.step.output
                  · have := hW1.step.size; have := hW2.step.size; simp at this; omega
                  · have hbl : b ≠ l := fun e => by have := hnw nm _ hgm rfl; rw [← hl0] at this; exact this e.symm
                    have hnw1 : ∀ i c, e1.m.get i = some c → c.wr = true → (ρ i).b ≠ b := fun i c hi hw => hnw i c (hget1 i c hi).2 hw
                    have hb1' : b < w1.heap.size := Nat.lt_of_lt_of_le hb hW1.step.size
                    rw [← hw4, World.putObj_heap_other hbl, hW2.step.block b (by simpa using hb1') ?_, World.putObj_heap_other hbl, hW1.step.block b hb hnw1]
                    intro i c hi hw
                    rcases hW1.step.from_ i c hi with h | ⟨j', d, hj', hd', he⟩
                    · omega
                    · rw [← he]; exact hnw1 j' d hj' (hd' hw)
                  · rcases hget2 i c hi with ⟨rfl, rfl⟩ | ⟨hine, hi⟩
                    · exact .inr ⟨i, _, hgm, fun _ => rfl, by rw [hnm2]⟩
                    · rcases hW2.step.from_ i c hi with h | ⟨j', d, hj', hd', he⟩
                      · have := hW1.step.size; simp at h; exact .inl (by omega)
                      · rcases hW1.step.from_ j' d hj' with h | ⟨j2, d2, hj2, hd2, he2⟩
                        · exact .inl (by omega)
                        · exact .inr ⟨j2, d2, (hget1 j2 d2 hj2).2, fun hw => hd2 (hd' hw), he2.trans he⟩
                  · rcases hW2.new i hi with h | h
                    · rcases hW1.new i h with h | h
                      · exact .inl h
                      · have h' : e1.nb ≤ i ∧ i < s1.e.nb := h
                        exact .inr ⟨by omega, by omega⟩
                    · exact .inr ⟨by omega, by omega⟩
                  · rcases hget2 i c hi with ⟨rfl, rfl⟩ | ⟨hine, hi⟩
                    · rw [hnm2]
                      exact ⟨ho0, ({ { r with state := .busy } with state := if j.isNone then .ready else .done, pending := j } : Loop), by rw [← hl0]; exact hl4, by show r.tmps = _; rw [r1, AV.vals_congr henv fr hksc], r2, r3, r4, rfl, rfl⟩
                    · exact hT2.ok i c hi
                  · rcases hget2 i c hi with ⟨rfl, rfl⟩ | ⟨hine, hi⟩ <;> rcases hget2 i' c' hi' with ⟨rfl, rfl⟩ | ⟨hine', hi'⟩
                    · exact absurd rfl hii
                    · rw [hnm2, ← hl0]; exact fun e => hne2 i' c' hi' e.symm
                    · rw [hnm2, ← hl0]; exact hne2 i c hi
                    · exact hT2.apart i i' c c' hi hi' hii hw
                  · rcases hget2 i c hi with ⟨rfl, rfl⟩ | ⟨hine, hi⟩
                    · exact ⟨hmore _ hkn, AV.scs_mono hmore fr hksc⟩
                    · exact hT2.known i c hi
                rcases jumpOf_spec hj with ⟨rfl, rfl⟩ | ⟨id, rfl, rfl⟩ | ⟨rfl, rfl⟩
                · exact ⟨_, _, hend, hCame⟩
                · exact ⟨_, _, hend, hCame⟩
                · exact ⟨_, _, hend, hCame⟩
            · cases h
          · cases h
        · cases h
      · cases h
    · cases h
  · cases h

theorem ecall_ok {P : Program} (hm : P.follows .mixedOrders = true) (hng : noNum P = true) (k : Nat) : ∀ n, CallOk P (ecall P k n)
  | 0 => ⟨fun f args e v e' h => by simp [ecall] at h, fun f args e v e' h => by simp [ecall] at h⟩
  | n + 1 => by
    have ih := ecall_ok hm hng k n
    have hp := ecall_ext P k n
    refine ⟨fun f args e v e' h ht => ?_, fun nm args e v e' h ht K ρ w hS ha hfree => ?_⟩
    · simp only [ecall] at h
      split at h
      · rename_i fn c hfnd
        obtain ⟨hf, hb, hen⟩ := fnd_spec hng hfnd
        exact ⟨hen, fun K ρ w hS ha hfree => ecallF_ok hm ih hp hf hb h ht hS ha hfree⟩
      · cases h
    · simp only [ecall] at h
      split at h
      · rename_i hg
        exact ecallR_ok hm ih hp hg h ht hS ha hfree
      · cases h

/-- What the kernel's machine answers is what the call comes to. -/
theorem calls_of_ecall {P : Program} (hm : P.follows .mixedOrders = true) (hng : noNum P = true) {k n : Nat} {f : FuncId} {args : List AV} {v : AV} {e e' : EM} (h : ecall P k n (.inl f) args e = some (v, e')) (ht : e.tidy)
    {K : Nat → Prop} {ρ : Env} {w : World} (hS : Sat P.globals.size K ρ w e.m) (ha : AV.scs K args) (hf : Free K e (e'.nb + 1)) : Calls P f ⟨AV.vals ρ args⟩ w (Came P K ρ w e v e') :=
  ((ecall_ok hm hng k n).fn f args e v e' h ht).2 K ρ w hS ha hf
end Go.Fw
