/- The kernel's machine stands for the model's: code. -/
import Derived.Test.YtbndodeihodjfaaGreatFwExecS6
namespace Go.Fw
set_option linter.unusedVariables false
set_option linter.unusedSimpArgs false

theorem vals_of_rel {P : Program} {N z K ρ a w} {s : St} (hR : Rel0 P N z K ρ a w s) : a.tmps = ⟨AV.vals ρ ((List.range N).map s.fr.get)⟩ := by
  apply Array.ext
  · simp [hR.size, vals_length]
  · intro i h1 h2
    have hi : i < N := by rw [hR.size] at h1; exact h1
    have h3 := (hR.tm i hi).2.1
    have h4 := vals_get ρ ((List.range N).map s.fr.get) i
    rw [List.getElem?_map, List.getElem?_range hi] at h4
    simp only [Array.getD, h1, dif_pos] at h3
    have h5 : (⟨AV.vals ρ ((List.range N).map s.fr.get)⟩ : Array Value)[i]? = some ((s.fr.get i).val ρ) := by
      rw [List.getElem?_toArray]; simpa using h4
    rw [Array.getElem?_eq_getElem h2] at h5
    injection h5 with h5
    rw [h5]; simpa using h3
theorem scs_of_rel {P : Program} {N z K ρ a w} {s : St} (hR : Rel0 P N z K ρ a w s) : AV.scs K ((List.range N).map s.fr.get) := by
  rw [scs_iff]
  intro v hv
  obtain ⟨t, ht, rfl⟩ := List.mem_map.1 hv
  exact (hR.tm t (List.mem_range.1 ht)).2.2

theorem exitOf_spec {o : Option Code} {x : Exit} (h : exitOf o = some x) : (o = none ∧ x = .normal) ∨ (∃ id, o = some (.exit id) ∧ x = .exit id) ∨ (o = some .ret ∧ x = .ret) := by
  unfold exitOf at h
  split at h
  · cases h; exact .inl ⟨rfl, rfl⟩
  · cases h; exact .inr (.inl ⟨_, rfl, rfl⟩)
  · cases h; exact .inr (.inr ⟨rfl, rfl⟩)
  · cases h

theorem marks_inj : ∀ {L L' : List Nat}, L.map markOf = L'.map markOf → L = L'
  | [], [], _ => rfl
  | [], _ :: _, h => by simp at h
  | _ :: _, [], h => by simp at h
  | a :: L, b :: L', h => by
    simp only [List.map_cons, List.cons.injEq] at h
    have h1 : a = b := by have := h.1; simp [markOf] at this; exact this
    rw [h1, marks_inj h.2]

section
variable {P : Program} {N z : Nat} {rd : Option Nat} {cn : Nat} {call : CallF}

theorem range_sound (hc : CallOk P call) (hp : CallPure call) {g : Operand} {ps : Array Tmp} {asg bd : Code} {s s' : ES} {x : Exit} (hg : opndOk P N g = true)
    (h : rangeF call N s (ev s.fr g) ps.toList asg bd = some (x, s')) (ht : s.e.tidy) {NB : Nat} (hNB : s'.e.nb < NB) {K ρ a w} (hz : z ≤ w.heap.size) (hR : Rel0 P N z K ρ a w ⟨s.fr, s.e.m⟩) (hf : Free K s.e NB)
    {Q : Exit → Act → World → Prop} (hn : ∀ K' ρ' a' w', EW K ρ w s.e K' ρ' w' s'.e → Rel0 P N z K' ρ' a' w' ⟨s'.fr, s'.e.m⟩ → Q x a' w') : (Code.rangeFunc g ps asg bd).wpIn (Fr none) cn P Q a w := by
  have hev := hR.ev hg
  unfold rangeF at h
  have hfr : (List.range N).map s.fr.getF = (List.range N).map s.fr.get := List.map_congr_left fun t _ => Tr.getF_eq _ _
  rw [hfr] at h
  generalize hA : (List.range N).map s.fr.get = frl at h
  split at h
  · rename_i f caps hgv
    split at h
    · rename_i e1 h1
      obtain ⟨p1, p2, p3, p4, p5, p6⟩ := put1_spec h1
      have t1 := p1.tidy ht
      split at h
      · rename_i v e2 h2
        have x2 := hp _ _ _ _ _ h2 t1
        have t2 := x2.tidy t1
        split at h
        · rename_i fr' ps' asg' bd' pend h3
          split at h
          · rename_i e3 ex h4 h5
            cases h
            obtain ⟨q1, q2, q3, q4, q5, q6⟩ := put1_spec h4
            have hNB' : e3.nb < NB := hNB
            have hre := hev.val
            rw [hgv] at hre
            have hsc := hev.sc
            rw [hgv] at hsc
            simp only [AV.sc] at hsc
            obtain ⟨hen, hcalls⟩ := hc.fn _ _ _ _ _ h2 t1
            refine wpIn_rangeFunc fun fn hfn => ?_
            have hnb : ¬ K s.e.nb := hf _ (Nat.le_refl _) (by have := x2.bd; have := q1.bd; omega)
            obtain ⟨pS, pT⟩ := sat_push hR.sat (.deferred (some []))
            have htm : a.tmps = ⟨AV.vals ρ frl⟩ := by rw [← hA]; exact vals_of_rel hR
            have hscl : AV.scs K frl := by rw [← hA]; exact scs_of_rel hR
            obtain ⟨ρ1, hρ1, S1, T1⟩ := sat_new pT (nf := s.e.nb) hnb (b := ⟨true, .loop frl ps.toList asg bd none⟩) hscl (p := ⟨w.heap.size + 1, 0, 0⟩)
              (o := .loop { state := .ready, pending := none, fn, tmps := a.tmps, params := ps, assign := asg, body := bd, defers := w.heap.size }) (by simp [alloc_heap])
              (w' := (w.alloc (.deferred (some []))).alloc (.loop { state := .ready, pending := none, fn, tmps := a.tmps, params := ps, assign := asg, body := bd, defers := w.heap.size })) rfl
              (fun ρ' he hp' => ⟨rfl, { state := .ready, pending := none, fn, tmps := a.tmps, params := ps, assign := asg, body := bd, defers := w.heap.size }, (by
                have h := World.alloc_heap_new (w.alloc (.deferred (some []))) (.loop { state := .ready, pending := none, fn, tmps := a.tmps, params := ps, assign := asg, body := bd, defers := w.heap.size })
                rwa [show (w.alloc (.deferred (some []))).heap.size = w.heap.size + 1 from by rw [alloc_heap, Array.size_push]] at h), by rw [htm, AV.vals_congr he frl hscl], rfl, rfl, rfl, rfl, rfl⟩)
            generalize hw1 : (w.alloc (.deferred (some []))).alloc (.loop { state := .ready, pending := none, fn, tmps := a.tmps, params := ps, assign := asg, body := bd, defers := w.heap.size }) = w1 at *
            have hD : w1.heap[w.heap.size]? = some (.deferred (some [])) := by rw [← hw1]; simp [alloc_heap, Array.getElem?_push]
            have hsz1 : w1.heap.size = w.heap.size + 2 := by rw [← hw1]; simp [alloc_heap]
            have hS01 := pS.trans S1
            have hget1 : ∀ i, (s.e.m.upds [(s.e.nb, some ⟨true, .loop frl ps.toList asg bd none⟩)]).get i = e1.m.get i := fun i => by
              rw [em_get _ t1]
              simp only [Mem.upds]
              by_cases e : i = s.e.nb
              · subst e; rw [Mem.get_set_same, p3]
              · rw [Mem.get_set_other _ _ _ _ (Ne.symm e), p4 i e, em_get _ ht]
            have hS01' := step_congr (fun _ => rfl) hget1 hS01
            have T1' := sat_congr hget1 T1
            generalize hK1 : addK K [(s.e.nb, some (⟨true, .loop frl ps.toList asg bd none⟩ : Blk))] = K1 at *
            have hK1i : ∀ i, K1 i ↔ K i ∨ i = s.e.nb := by intro i; rw [← hK1]; simp [addK]
            have hgete1 : e1.m.get s.e.nb = some ⟨true, .loop frl ps.toList asg bd none⟩ := by rw [← hget1]; simp only [Mem.upds]; rw [Mem.get_set_same]
            have hnbe : e1.nb = s.e.nb + 1 := by
              rcases p6 with e | ⟨_, e⟩
              · have := p2; omega
              · exact e
            have hold1 : ∀ i c, e1.m.get i = some c → i = s.e.nb ∨ (s.e.m.get i = some c) := fun i c hc' => by
              by_cases e : i = s.e.nb
              · exact .inl e
              · right; rw [← hget1] at hc'; simp only [Mem.upds] at hc'; rwa [Mem.get_set_other _ _ _ _ (Ne.symm e)] at hc'
            have hblt : ∀ i c, s.e.m.get i = some c → (ρ1 i).b < w.heap.size := fun i c hi => by rw [hS01.env i (hR.sat.known i c hi).1]; exact Blk.ok_lt (hR.sat.ok i c hi)
            refine ⟨w.heap.size + 1, [{ target := .collected w.heap.size, args := #[] }], w1, { target := .fn (.func f) ⟨AV.vals ρ caps⟩, args := #[.func (.yield (w.heap.size + 1)) #[] #[]] }, w1, f,
              #[.func (.yield (w.heap.size + 1)) #[] #[]] ++ ⟨AV.vals ρ caps⟩, w1, ?_, ?_, fun f' _ => Fr_fn none f', ?_, fun hd => (by rw [Fr_depth] at hd; cases hd), ?_⟩
            · rw [← hw1]; exact run_enterLoop_outer _ _ _ _ _
            · simp only [resolve, ← hre, AV.val]
              simp [go_sem, Act.eval]
            · simp only [invoke]
              exact run_enter hen _ _
            · have hargs : (#[.func (.yield (w.heap.size + 1)) #[] #[]] ++ ⟨AV.vals ρ caps⟩ : Array Value) = ⟨AV.vals ρ1 (.yield s.e.nb :: caps)⟩ := by
                apply Array.ext'
                simp only [AV.vals, AV.val, hρ1, AV.vals_congr hS01.env caps hsc]
                simp
              rw [hargs]
              refine Fr_calls.2 ((hcalls K1 ρ1 w1 T1' ⟨(hK1i _).2 (.inr rfl), AV.scs_mono hS01.more caps hsc⟩ (fun i h1 h2 hk => ?_)).mono ?_)
              · rcases (hK1i i).1 hk with h | h
                · have := q1.bd; exact hf i (by omega) (by omega) h
                · omega
              · rintro y w3 ⟨K2, ρ2, rfl, hW, hS2, hv⟩
                have hg2 : e2.m.get s.e.nb = some ⟨true, .loop fr' ps' asg' bd' pend⟩ := by rw [em_get _ t2]; exact h3
                obtain ⟨_, r, hl3, r1, r2, r3, r4, r5, r6⟩ := hS2.ok _ _ hg2
                have hpl : ρ2 s.e.nb = ⟨w.heap.size + 1, 0, 0⟩ := by rw [hW.step.env _ ((hK1i _).2 (.inr rfl)), hρ1]
                rw [hpl] at hl3
                have hst : r.state ≠ .busy := by rw [r6]; split <;> simp
                have hne : ∀ i c, e3.m.get i = some c → (ρ2 i).b ≠ w.heap.size + 1 := by
                  intro i c hi
                  rw [em_get _ (q1.tidy t2)] at hi
                  have hine : i ≠ s.e.nb := by rintro rfl; rw [q3] at hi; cases hi
                  rw [q4 i hine, ← em_get _ t2] at hi
                  have := hS2.apart i s.e.nb c _ hi hg2 hine (.inr rfl)
                  rw [hpl] at this
                  exact this
                have hsub3 : ∀ i c, e3.m.get i = some c → e2.m.get i = some c := by
                  intro i c hi
                  rw [em_get _ (q1.tidy t2)] at hi
                  have hine : i ≠ s.e.nb := by rintro rfl; rw [q3] at hi; cases hi
                  rw [q4 i hine, ← em_get _ t2] at hi
                  exact hi
                obtain ⟨_, T3⟩ := sat_less hS2 hsub3
                have T4 := sat_hide T3 hne (.loop { r with state := .exhausted })
                have hbl : ∀ b, b < w.heap.size → (∀ i c, s.e.m.get i = some c → c.wr = true → (ρ i).b ≠ b) → (w3.putObj (w.heap.size + 1) (.loop { r with state := .exhausted })).heap[b]? = w.heap[b]? := by
                  intro b hb hnb
                  rw [World.putObj_heap_other (by omega), hW.step.block b (by omega) ?_, hS01.block b hb hnb]
                  intro i c hi hw
                  rcases hold1 i c hi with rfl | hi
                  · rw [hρ1]; simp only; omega
                  · rw [hS01.env i (hR.sat.known i c hi).1]; exact hnb i c hi hw
                have hEW : EW K ρ w s.e K2 ρ2 (w3.putObj (w.heap.size + 1) (.loop { r with state := .exhausted })) e3 := by
                  refine ⟨⟨hW.step.os.trans hS01.os, hW.step.tape.trans hS01.tape, hW.step.output.trans hS01.output, ?_, fun i hi => hW.step.more i (hS01.more i hi), fun i hi => (hW.step.env i (hS01.more i hi)).trans (hS01.env i hi), hbl, fun i c hi => ?_⟩, fun i hi => ?_, ?_⟩
                  · have := hW.step.size; simp; omega
                  · rcases hW.step.from_ i c (hsub3 i c hi) with h | ⟨j, d, hj, hd, he⟩
                    · exact .inl (by omega)
                    · rcases hold1 j d hj with rfl | hj'
                      · rw [hρ1] at he; exact .inl (by rw [← he]; simp)
                      · exact .inr ⟨j, d, hj', hd, by rw [← he, hS01.env j (hR.sat.known j d hj').1]⟩
                  · rcases hW.new i hi with h | h
                    · rcases (hK1i i).1 h with h | h
                      · exact .inl h
                      · have := x2.bd; have := q1.bd; exact .inr ⟨by omega, by omega⟩
                    · have := q1.bd; exact .inr ⟨by omega, by omega⟩
                  · have := x2.bd; have := q1.bd; omega
                have hDd : (w3.putObj (w.heap.size + 1) (.loop { r with state := .exhausted })).heap[w.heap.size]? = some (.deferred (some [])) := by
                  rw [World.putObj_heap_other (by omega), hW.step.block _ (by omega) ?_]
                  · exact hD
                  · intro i c hi hw
                    rcases hold1 i c hi with rfl | hi
                    · rw [hρ1]; simp
                    · have := hblt i c hi; omega
                have hRel : Rel0 P N z K2 ρ2 { a with defers := [{ target := .collected w.heap.size, args := #[] }] ++ a.defers } (w3.putObj (w.heap.size + 1) (.loop { r with state := .exhausted })) ⟨s.fr, e3.m⟩ := by
                  refine ⟨hR.size, fun t ht => ?_, T4, ?_⟩
                  · obtain ⟨g1, g2, g3⟩ := hR.tm t ht
                    exact ⟨g1, by rw [AV.val_congr hEW.step.env _ g3]; exact g2, AV.sc_mono hEW.step.more _ g3⟩
                  · obtain ⟨L, d1, d2, d3⟩ := hR.defs
                    have hLt : ∀ D ∈ L, D < w.heap.size := fun D hD => (Array.getElem?_eq_some_iff.1 (d3 D hD).2).1
                    refine ⟨w.heap.size :: L, by rw [d1]; rfl, List.nodup_cons.2 ⟨fun h => Nat.lt_irrefl _ (hLt _ h), d2⟩, fun D hD' => ?_⟩
                    simp only [List.mem_cons] at hD'
                    rcases hD' with rfl | hD'
                    · exact ⟨hz, hDd⟩
                    · obtain ⟨L', d1', _, d3'⟩ := hR.defs_step hEW.step
                      have hLL : L' = L := marks_inj (d1'.symm.trans d1)
                      subst hLL
                      exact d3' D hD'
                have fin : ∀ (j : Option Code) (W : World) (A : Act), exitOf j = some x → EW K ρ w s.e K2 ρ2 W e3 → Rel0 P N z K2 ρ2 A W ⟨s.fr, e3.m⟩ → (match j with
                    | none => Q .normal A W
                    | some c => c.wpIn (Fr none) cn P Q A W) := by
                  intro j W A hj h1 h2
                  rcases exitOf_spec hj with ⟨rfl, rfl⟩ | ⟨id, rfl, rfl⟩ | ⟨rfl, rfl⟩
                  · exact hn _ _ _ _ h1 h2
                  · exact wpIn_exit (hn _ _ _ _ h1 h2)
                  · exact wpIn_ret (hn _ _ _ _ h1 h2)
                exact ⟨r.pending, _, run_endLoop hl3 hst, fin r.pending _ _ (by rw [r5]; exact h5) hEW hRel⟩
          · cases h
        · cases h
      · cases h
    · cases h
  · cases h

/-- How a code's exits go on. -/
theorem exec_sound (hm : P.follows .mixedOrders = true) (hc : CallOk P call) (hp : CallPure call) {top : Bool} (htop : top = true → rd = none) : ∀ {n : Nat} {c : Code} {s : ES} {x : Exit} {s' : ES}, fits P N c = true → exec P call top N n c s = some (x, s') → s.e.tidy →
    ∀ (NB : Nat) (K : Nat → Prop) (ρ : Env) (a : Act) (w : World) (Q : Exit → Act → World → Prop), s'.e.nb < NB → z ≤ w.heap.size → Rel0 P N z K ρ a w ⟨s.fr, s.e.m⟩ → Free K s.e NB →
    (∀ K' ρ' a' w', EW K ρ w s.e K' ρ' w' s'.e → Rel0 P N z K' ρ' a' w' ⟨s'.fr, s'.e.m⟩ → Q x a' w') → c.wpIn (Fr rd) cn P Q a w
  | 0, _, _, _, _, _, h, _ => by simp [exec] at h
  | n + 1, c, s, x, s', hfit, h, ht => fun NB K ρ a w Q hNB hz hR hf hn => by
    cases c with
    | skip => simp only [exec] at h; cases h; exact wpIn_skip (hn _ _ _ _ (EW.refl _ _ _ _) hR)
    | region id ops any =>
      simp only [exec] at h
      split at h
      · rename_i s1 hr
        cases h
        simp only [fits] at hfit
        exact region_sound hm hc hp hfit hr ht hNB hR hf hn
      · cases h
    | seq b d =>
      simp only [fits, Bool.and_eq_true] at hfit
      simp only [exec] at h
      split at h
      · rename_i s1 h1
        have e1 := exec_ext hp h1 ht
        have e2 := exec_ext hp h (e1.tidy ht)
        refine wpIn_seq (exec_sound hm hc hp htop hfit.1 h1 ht _ _ _ _ _ _ (Nat.lt_of_le_of_lt e2.bd hNB) hz hR hf fun K1 ρ1 a1 w1 hW1 hR1 => ?_)
        exact exec_sound hm hc hp htop hfit.2 h (e1.tidy ht) _ _ _ _ _ _ hNB (Nat.le_trans hz hW1.step.size) hR1 (hW1.free hf) fun K2 ρ2 a2 w2 hW2 hR2 => hn _ _ _ _ (hW1.trans hW2) hR2
      · rename_i hno
        refine wpIn_seq (exec_sound hm hc hp htop hfit.1 h ht _ _ _ _ _ _ hNB hz hR hf fun K1 ρ1 a1 w1 hW1 hR1 => ?_)
        have := hn _ _ _ _ hW1 hR1
        cases x with
        | normal => exact absurd h (hno s')
        | _ => exact this
    | cond c b d =>
      simp only [fits, Bool.and_eq_true] at hfit
      have he := hR.ev hfit.1.1
      simp only [exec, evF_eq] at h
      split at h
      · rename_i hb
        refine wpIn_cond_split (t := true) (by rw [← he.val]; simp only; rw [hb]; simp [AV.val]) (fun _ => exec_sound hm hc hp htop hfit.1.2 h ht _ _ _ _ _ _ hNB hz hR hf hn) (fun h => by cases h)
      · rename_i hb
        refine wpIn_cond_split (t := false) (by rw [← he.val]; simp only; rw [hb]; simp [AV.val]) (fun h => by cases h) (fun _ => exec_sound hm hc hp htop hfit.2 h ht _ _ _ _ _ _ hNB hz hR hf hn)
      · cases h
    | block id c =>
      simp only [fits] at hfit
      simp only [exec] at h
      split at h
      · rename_i id' s1 h1
        split at h
        · rename_i hb
          cases h
          have : id' = id := Nat.eq_of_beq_eq_true hb
          subst this
          refine wpIn_block (exec_sound hm hc hp htop hfit h1 ht _ _ _ _ _ _ hNB hz hR hf fun K1 ρ1 a1 w1 hW1 hR1 => ?_)
          simpa only [Exit.inBlock, if_true] using hn _ _ _ _ hW1 hR1
        · rename_i hb
          cases h
          have hne : id' ≠ id := fun e => by rw [e] at hb; simp at hb
          refine wpIn_block (exec_sound hm hc hp htop hfit h1 ht _ _ _ _ _ _ hNB hz hR hf fun K1 ρ1 a1 w1 hW1 hR1 => ?_)
          simpa only [Exit.inBlock, hne, if_false] using hn _ _ _ _ hW1 hR1
      · rename_i hno
        refine wpIn_block (exec_sound hm hc hp htop hfit h ht _ _ _ _ _ _ hNB hz hR hf fun K1 ρ1 a1 w1 hW1 hR1 => ?_)
        have := hn _ _ _ _ hW1 hR1
        cases x with
        | exit id' => exact absurd h (hno id' s')
        | _ => simpa only [Exit.inBlock] using this
    | exit id => simp only [exec] at h; cases h; exact wpIn_exit (hn _ _ _ _ (EW.refl _ _ _ _) hR)
    | ret => simp only [exec] at h; cases h; exact wpIn_ret (hn _ _ _ _ (EW.refl _ _ _ _) hR)
    | loop c =>
      have key : ∀ (n : Nat) (s : ES), exec P call top N n (.loop c) s = some (x, s') → s.e.tidy → ∀ (K : Nat → Prop) (ρ : Env) (a : Act) (w : World), z ≤ w.heap.size → Rel0 P N z K ρ a w ⟨s.fr, s.e.m⟩ → Free K s.e NB →
          (∀ K' ρ' a' w', EW K ρ w s.e K' ρ' w' s'.e → Rel0 P N z K' ρ' a' w' ⟨s'.fr, s'.e.m⟩ → Q x a' w') → (∀ m, m < n → ∀ {s s1 : ES} {y : Exit}, exec P call top N m c s = some (y, s1) → s.e.tidy → ∀ (K : Nat → Prop) (ρ : Env) (a : Act) (w : World) (Q : Exit → Act → World → Prop), s1.e.nb < NB → z ≤ w.heap.size → Rel0 P N z K ρ a w ⟨s.fr, s.e.m⟩ → Free K s.e NB →
            (∀ K' ρ' a' w', EW K ρ w s.e K' ρ' w' s1.e → Rel0 P N z K' ρ' a' w' ⟨s1.fr, s1.e.m⟩ → Q y a' w') → c.wpIn (Fr rd) cn P Q a w) → Code.roundsIn (Fr rd) cn P c Q n a w := by
        intro n
        induction n with
        | zero => intro s h; simp [exec] at h
        | succ n ih =>
          intro s h ht K ρ a w hz hR hf hn hone
          simp only [exec] at h
          rw [roundsIn_succ]
          split at h
          · rename_i s1 h1
            have e1 := exec_ext hp h1 ht
            have e2 := exec_ext hp h (e1.tidy ht)
            refine hone n (Nat.lt_succ_self _) h1 ht _ _ _ _ _ (Nat.lt_of_le_of_lt e2.bd hNB) hz hR hf fun K1 ρ1 a1 w1 hW1 hR1 => ?_
            exact ih s1 h (e1.tidy ht) _ _ _ _ (Nat.le_trans hz hW1.step.size) hR1 (hW1.free hf) (fun K2 ρ2 a2 w2 hW2 hR2 => hn _ _ _ _ (hW1.trans hW2) hR2) (fun m hm => hone m (by omega))
          · rename_i hno
            refine hone n (Nat.lt_succ_self _) h ht _ _ _ _ _ hNB hz hR hf fun K1 ρ1 a1 w1 hW1 hR1 => ?_
            have := hn _ _ _ _ hW1 hR1
            cases x with
            | normal => exact absurd h (hno s')
            | _ => exact this
      simp only [fits] at hfit
      exact wpIn_loop_rounds (n + 1) (key (n + 1) s h ht _ _ _ _ hz hR hf hn (fun m hmn _ _ _ h ht K ρ a w Q hnb hz hR hf => exec_sound hm hc hp htop hfit h ht _ _ _ _ _ _ hnb hz hR hf))
    | rangeFunc g ps asg bd =>
      simp only [exec] at h
      simp only [fits, Bool.and_eq_true] at hfit
      split at h
      · have := htop rfl
        subst this
        rw [evF_eq] at h
        exact range_sound hc hp hfit.1.1 h ht hNB hz hR hf hn
      · cases h
    | _ => simp only [exec] at h; cases h
termination_by n => n

end
end Go.Fw
