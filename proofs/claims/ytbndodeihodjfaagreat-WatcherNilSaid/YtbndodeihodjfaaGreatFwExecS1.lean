/- The kernel's machine: what it keeps. -/
import Derived.Test.YtbndodeihodjfaaGreatFwExecDef
import Derived.Test.YtbndodeihodjfaaGreatFwDrawn
namespace Go.Fw
set_option linter.unusedVariables false
set_option linter.unusedSimpArgs false

/-- The tree ends where its bound says. -/
structure EM.tidy (e : EM) : Prop where
  out : ∀ i, e.nb ≤ i → e.t.get i = none
  fl : e.fl ≤ e.nb
theorem em_get (e : EM) (h : e.tidy) (i : Nat) : e.m.get i = e.t.get i := by
  show (if i < e.nb then e.t.get i else (([] : List (Option Blk))[i - e.nb]?).join) = _
  by_cases hi : i < e.nb
  · rw [if_pos hi]
  · rw [if_neg hi, h.out i (by omega)]; rfl

structure Ext (e e' : EM) : Prop where
  fl : e'.fl = e.fl
  bd : e.nb ≤ e'.nb
  ws : ∀ i ∈ e.ws, i ∈ e'.ws
  old : ∀ i, i < e.fl → i ∉ e'.ws → e'.t.get i = e.t.get i
  out : ∀ i, e'.nb ≤ i → e'.t.get i = e.t.get i
theorem Ext.refl (e : EM) : Ext e e := ⟨rfl, Nat.le_refl _, fun _ h => h, fun _ _ _ => rfl, fun _ _ => rfl⟩
theorem Ext.trans {a b c : EM} (h : Ext a b) (k : Ext b c) : Ext a c :=
  ⟨k.fl.trans h.fl, Nat.le_trans h.bd k.bd, fun i hi => k.ws i (h.ws i hi), fun i hi hn => (k.old i (h.fl ▸ hi) hn).trans (h.old i hi fun x => hn (k.ws i x)),
   fun i hi => (k.out i hi).trans (h.out i (Nat.le_trans k.bd hi))⟩
theorem Ext.tidy {e e' : EM} (h : Ext e e') (ht : e.tidy) : e'.tidy := ⟨fun i hi => (h.out i hi).trans (ht.out i (Nat.le_trans h.bd hi)), h.fl ▸ Nat.le_trans ht.fl h.bd⟩

theorem wrote_mem {ws : List Nat} {i j : Nat} : j ∈ wrote ws i ↔ j ∈ ws ∨ j = i := by
  unfold wrote
  split
  · rename_i h
    rw [hasN_eq] at h
    have : i ∈ ws := by simpa using h
    constructor
    · exact .inl
    · rintro (h | rfl) <;> assumption
  · simp [or_comm]
theorem foldl_wrote {l ws : List Nat} {j : Nat} : j ∈ l.foldl wrote ws ↔ j ∈ ws ∨ j ∈ l := by
  induction l generalizing ws with
  | nil => simp
  | cons a l ih => rw [List.foldl_cons, ih, wrote_mem]; simp [or_assoc]

theorem mark_mem {fl : Nat} {ws : List Nat} {i j : Nat} : j ∈ (match Nat.blt i fl with | true => wrote ws i | false => ws) ↔ j ∈ ws ∨ (j = i ∧ i < fl) := by
  split
  · rename_i h
    have : i < fl := by simpa [Nat.blt_eq] using h
    rw [wrote_mem]; simp [this]
  · rename_i h
    have : ¬ i < fl := fun hh => by
      have : Nat.blt i fl = true := by simpa [Nat.blt_eq] using hh
      rw [this] at h; cases h
    simp [this]
theorem put1_spec {s s' : EM} {i : Nat} {b : Option Blk} (h : s.put1 i b = some s') : Ext s s' ∧ i < s'.nb ∧ s'.t.get i = b ∧ (∀ j, j ≠ i → s'.t.get j = s.t.get j) ∧ (i < s.nb ∨ i = s.nb) ∧
    (s'.nb = s.nb ∨ (i = s.nb ∧ s'.nb = s.nb + 1)) := by
  unfold EM.put1 at h
  split at h
  · rename_i hm
    rw [tightN_eq, tightB_eq] at h
    split at h
    · rename_i hlt
      have hlt' : i < s.nb := by simpa [Nat.blt_eq] using hlt
      cases h
      refine ⟨⟨rfl, Nat.le_refl _, fun j hj => mark_mem.2 (.inl hj), fun j hj hn => ?_, fun j hj => ?_⟩, hlt', ?_, fun j hj => ?_, .inl hlt', .inl rfl⟩
      · show (s.t.put i b).get j = s.t.get j
        exact MT.get_put_other _ _ _ _ fun e => hn (mark_mem.2 (.inr ⟨e.symm, e ▸ hj⟩))
      · have hj' : s.nb ≤ j := hj
        show (s.t.put i b).get j = s.t.get j
        exact MT.get_put_other _ _ _ _ (by omega)
      · show (s.t.put i b).get i = b
        exact MT.get_put_same _ _ _ hm
      · show (s.t.put i b).get j = s.t.get j
        exact MT.get_put_other _ _ _ _ (Ne.symm hj)
    · split at h
      · rename_i hnlt heq
        rw [tightN_eq] at h
        have heq' : i = s.nb := Nat.eq_of_beq_eq_true heq
        cases h
        refine ⟨⟨rfl, by show s.nb ≤ i + 1; omega, fun j hj => mark_mem.2 (.inl hj), fun j hj hn => ?_, fun j hj => ?_⟩, by show i < i + 1; omega, ?_, fun j hj => ?_, .inr heq', .inr ⟨heq', by show i + 1 = s.nb + 1; omega⟩⟩
        · show (s.t.put i b).get j = s.t.get j
          exact MT.get_put_other _ _ _ _ fun e => hn (mark_mem.2 (.inr ⟨e.symm, e ▸ hj⟩))
        · have hj' : i + 1 ≤ j := hj
          show (s.t.put i b).get j = s.t.get j
          exact MT.get_put_other _ _ _ _ (by omega)
        · show (s.t.put i b).get i = b
          exact MT.get_put_same _ _ _ hm
        · show (s.t.put i b).get j = s.t.get j
          exact MT.get_put_other _ _ _ _ (Ne.symm hj)
      · cases h
  · cases h

theorem get_upds_congr : ∀ (u : List (Nat × Option Blk)) (m m' : Mem) (i : Nat), m.get i = m'.get i → (m.upds u).get i = (m'.upds u).get i
  | [], _, _, _, h => h
  | p :: u, m, m', i, h => by
    simp only [Mem.upds]
    refine get_upds_congr u _ _ i ?_
    by_cases e : p.1 = i
    · subst e; rw [Mem.get_set_same, Mem.get_set_same]
    · rw [Mem.get_set_other _ _ _ _ e, Mem.get_set_other _ _ _ _ e, h]

theorem puts_spec : ∀ {u : List (Nat × Option Blk)} {s s' : EM}, s.puts u = some s' → s.tidy →
    Ext s s' ∧ (∀ i, s'.m.get i = (s.m.upds u).get i) ∧ (∀ i ∈ u.map (·.1), i < s'.nb)
  | [], s, s', h, ht => by
    simp only [EM.puts] at h; cases h
    exact ⟨Ext.refl _, fun _ => rfl, by simp⟩
  | (i, b) :: u, s, s', h, ht => by
    simp only [EM.puts] at h
    split at h
    · rename_i s1 h1
      obtain ⟨a1, a2, a3, a4, a5, a6⟩ := put1_spec h1
      have ht1 := a1.tidy ht
      obtain ⟨b1, b2, b3⟩ := puts_spec h ht1
      refine ⟨a1.trans b1, fun j => ?_, fun j hj => ?_⟩
      · rw [b2 j]
        simp only [Mem.upds]
        refine get_upds_congr u _ _ j ?_
        rw [em_get _ ht1]
        by_cases e : j = i
        · subst e; rw [a3, Mem.get_set_same]
        · rw [a4 j e, Mem.get_set_other _ _ _ _ (Ne.symm e), em_get _ ht]
      · simp only [List.map_cons, List.mem_cons] at hj
        rcases hj with rfl | hj
        · exact Nat.lt_of_lt_of_le a2 b1.bd
        · exact b3 j hj
    · cases h
end Go.Fw
