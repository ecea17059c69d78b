/- The kernel's machine: memory grows. -/
import Derived.Test.YtbndodeihodjfaaGreatFwExecS1
namespace Go.Fw
set_option linter.unusedVariables false
set_option linter.unusedSimpArgs false

def CallPure (call : CallF) : Prop := ∀ f args e v e', call f args e = some (v, e') → e.tidy → Ext e e'
theorem EM.tidy.at_ {e : EM} (h : e.tidy) : EM.tidy ⟨e.t, e.nb, e.nb, []⟩ := ⟨h.out, Nat.le_refl _⟩

section
variable {P : Program} {call : CallF}

theorem eop_ext (hc : CallPure call) {fr : Tr} {e e' : EM} {o : Op} {v : AV} (h : eop P call fr e o = some (v, e')) (ht : e.tidy) : Ext e e' := by
  unfold eop at h
  split at h
  · exact hc _ _ _ _ _ h ht
  · exact hc _ _ _ _ _ h ht
  · split at h
    · split at h
      · rename_i hp
        cases h
        exact (puts_spec hp ht).1
      · cases h
    · cases h

theorem eops_ext (hc : CallPure call) {full : Array Oper} : ∀ {l : List Oper} {s s' : ES}, eops P call full l s = some s' → s.e.tidy → Ext s.e s'.e
  | [], s, s', h, ht => by simp only [eops] at h; cases h; exact Ext.refl _
  | o :: l, s, s', h, ht => by
    simp only [eops] at h
    split at h
    · split at h
      · rename_i v e he
        have h1 := eop_ext hc he ht
        exact h1.trans (eops_ext hc h (h1.tidy ht))
      · cases h
    · exact eops_ext (s := ⟨putF s.fr o.dst undefA, s.e⟩) hc h ht
    · cases h

theorem alone_ext {e e1 : EM} (hfl : e.fl ≤ e.nb) (h : Ext ⟨e.t, e.nb, e.nb, []⟩ e1) : Ext e ⟨e1.t, e1.nb, e.fl, (e1.ws.filter (fun i => Nat.blt i e.fl)).foldl wrote e.ws⟩ :=
  ⟨rfl, h.bd, fun i hi => foldl_wrote.2 (.inl hi), fun i hi hn => h.old i (Nat.lt_of_lt_of_le hi hfl) fun x => hn (foldl_wrote.2 (.inr (List.mem_filter.2 ⟨x, by simpa [Nat.blt_eq] using hi⟩))), h.out⟩
theorem bump_ext {e e' : EM} (h : Ext e e') {n : Nat} (hn : e'.nb ≤ n) : Ext e ⟨e'.t, n, e'.fl, e'.ws⟩ :=
  ⟨h.fl, Nat.le_trans h.bd hn, h.ws, h.old, fun i hi => h.out i (Nat.le_trans hn hi)⟩

theorem edraw1_ext (hc : CallPure call) {b : Bool} {s : ES} {o : Op} {v : AV} {e' : EM} {F ws} (h : edraw1 P call b s o = some (v, e', F, ws)) (ht : s.e.tidy) : Ext s.e e' := by
  unfold edraw1 at h
  split at h
  · split at h
    · split at h
      · rename_i v1 e1 h1
        cases h
        exact bump_ext (alone_ext ht.fl (hc _ _ _ _ _ h1 ht.at_)) (Nat.le_succ _)
      · cases h
    · split at h
      · split at h
        · rename_i hp
          split at h
          · cases h; exact bump_ext (puts_spec hp ht).1 (Nat.le_succ _)
          · cases h
        · cases h
      · cases h
  · split at h
    · split at h
      · rename_i e1 hp
        cases h
        refine bump_ext (puts_spec hp ht).1 ?_
        split
        · rename_i hb
          have := Nat.eq_of_beq_eq_true hb
          omega
        · exact Nat.le_refl _
      · cases h
    · cases h

theorem edraw_ext (hc : CallPure call) {full : Array Oper} {ms : List Nat} : ∀ {l : List Oper} {i : Nat} {s s' : ES} {rs rs'}, edraw P call full ms l i s rs = some (s', rs') → s.e.tidy → Ext s.e s'.e
  | [], i, s, s', rs, rs', h, ht => by simp only [edraw] at h; cases h; exact Ext.refl _
  | o :: l, i, s, s', rs, rs', h, ht => by
    simp only [edraw] at h
    split at h
    · split at h
      · rename_i v e F ws he
        have h1 := edraw1_ext hc he ht
        exact h1.trans (edraw_ext hc h (h1.tidy ht))
      · cases h
    · exact edraw_ext (s := ⟨putF s.fr o.dst undefA, s.e⟩) hc h ht
    · cases h

theorem region_ext (hc : CallPure call) {ops : Array Oper} {any : Bool} {s s' : ES} (h : region P call ops any s = some s') (ht : s.e.tidy) : Ext s.e s'.e := by
  unfold region at h
  split at h
  · exact eops_ext hc h ht
  · split at h
    · split at h
      · exact eops_ext hc h ht
      · split at h
        · rename_i he
          split at h
          · cases h; exact edraw_ext hc he ht
          · cases h
        · cases h
    · cases h

theorem rangeF_ext (hc : CallPure call) {N : Nat} {s s' : ES} {g : AV} {ps : List Tmp} {asg bd : Code} {x : Exit} (h : rangeF call N s g ps asg bd = some (x, s')) (ht : s.e.tidy) : Ext s.e s'.e := by
  unfold rangeF at h
  split at h
  · split at h
    · rename_i e1 h1
      have x1 := (put1_spec h1).1
      split at h
      · rename_i e2 h2
        have x2 := hc _ _ _ _ _ h2 (x1.tidy ht)
        split at h
        · split at h
          · rename_i e3 ex h3 _
            cases h
            exact (x1.trans x2).trans (put1_spec h3).1
          · cases h
        · cases h
      · cases h
    · cases h
  · cases h

theorem exec_ext (hc : CallPure call) {top : Bool} {N : Nat} : ∀ {n : Nat} {c : Code} {s : ES} {x : Exit} {s' : ES}, exec P call top N n c s = some (x, s') → s.e.tidy → Ext s.e s'.e
  | 0, _, _, _, _, h, _ => by simp [exec] at h
  | n + 1, c, s, x, s', h, ht => by
    cases c with
    | skip => simp only [exec] at h; cases h; exact Ext.refl _
    | region id ops any =>
      simp only [exec] at h
      split at h
      · rename_i hr; cases h; exact region_ext hc hr ht
      · cases h
    | seq a b =>
      simp only [exec] at h
      split at h
      · rename_i s1 h1
        have e1 := exec_ext hc h1 ht
        exact e1.trans (exec_ext hc h (e1.tidy ht))
      · exact exec_ext hc h ht
    | cond c a b =>
      simp only [exec] at h
      split at h
      · exact exec_ext hc h ht
      · exact exec_ext hc h ht
      · cases h
    | block id c =>
      simp only [exec] at h
      split at h
      · rename_i h1
        split at h <;> (cases h; exact exec_ext hc h1 ht)
      · exact exec_ext hc h ht
    | exit id => simp only [exec] at h; cases h; exact Ext.refl _
    | ret => simp only [exec] at h; cases h; exact Ext.refl _
    | loop c =>
      simp only [exec] at h
      split at h
      · rename_i s1 h1
        have e1 := exec_ext hc h1 ht
        exact e1.trans (exec_ext hc h (e1.tidy ht))
      · exact exec_ext hc h ht
    | rangeFunc g ps asg bd =>
      simp only [exec] at h
      split at h
      · exact rangeF_ext hc h ht
      · cases h
    | _ => simp only [exec] at h; cases h

theorem ecallF_ext (hc : CallPure call) {k : Nat} {fn : Func} {c : Code} {args : List AV} {e e' : EM} {v : AV} (h : ecallF P call k fn c args e = some (v, e')) (ht : e.tidy) : Ext e e' := by
  unfold ecallF at h
  split at h
  · split at h
    all_goals first
      | (rename_i h1
         split at h
         · cases h; exact exec_ext hc h1 ht
         · cases h)
      | cases h
  · cases h
theorem ecallR_ext (hc : CallPure call) {k nm : Nat} {args : List AV} {e e' : EM} {fr : List AV} {ps : List Tmp} {asg bd : Code} {v : AV} (h : ecallR P call k nm args e fr ps asg bd = some (v, e')) (ht : e.tidy) : Ext e e' := by
  unfold ecallR at h
  rw [tightN_eq] at h
  split at h
  · split at h
    · rename_i e1 h1
      have x1 := (put1_spec h1).1
      split at h
      · rename_i s1 h2
        have x2 := exec_ext hc h2 (x1.tidy ht)
        split at h
        · rename_i x s2 h3
          have x3 := exec_ext hc h3 (x2.tidy (x1.tidy ht))
          split at h
          · split at h
            · rename_i e2 h4
              cases h
              exact ((x1.trans x2).trans x3).trans (put1_spec h4).1
            · cases h
          · cases h
        · cases h
      · cases h
    · cases h
  · cases h
theorem ecall_ext (P : Program) (k : Nat) : ∀ n, CallPure (ecall P k n)
  | 0 => fun f args e v e' h => by simp [ecall] at h
  | n + 1 => fun f args e v e' h ht => by
    cases f with
    | inl f =>
      simp only [ecall] at h
      split at h
      · exact ecallF_ext (ecall_ext P k n) h ht
      · cases h
    | inr nm =>
      simp only [ecall] at h
      split at h
      · exact ecallR_ext (ecall_ext P k n) h ht
      · cases h
end
end Go.Fw
