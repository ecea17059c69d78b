/- The operations' soundness, put together. -/
import Derived.Test.YtbndodeihodjfaaGreatFwOps4
namespace Go.Fw
set_option linter.unusedVariables false
set_option linter.unusedSimpArgs false

theorem fbox {P : Program} {G K ρ w m} (h : Sat G K ρ w m) {nf : Nat} (hn : ¬ K nf) (e : TypeId) {l : List AV} (hs : AV.scs K l) :
    ∃ ρ' : Env, ρ' nf = ⟨w.heap.size, 0, 0⟩ ∧ (∀ i, K i → ρ' i = ρ i) ∧ Step K ρ w m (addK K [(nf, some ⟨true, .fin l⟩)]) ρ' (w.alloc (.cells ⟨AV.vals ρ l⟩ e)) (m.upds [(nf, some ⟨true, .fin l⟩)]) ∧
      Sat G (addK K [(nf, some ⟨true, .fin l⟩)]) ρ' (w.alloc (.cells ⟨AV.vals ρ l⟩ e)) (m.upds [(nf, some ⟨true, .fin l⟩)]) := by
  obtain ⟨ρ', h1, h2, h3⟩ := sat_new h hn (b := ⟨true, .fin l⟩) hs (p := ⟨w.heap.size, 0, 0⟩) (o := .cells ⟨AV.vals ρ l⟩ e) rfl (w' := w.alloc (.cells ⟨AV.vals ρ l⟩ e)) rfl
    (fun ρ' he _ => ⟨rfl, e, by rw [AV.vals_congr he l hs]; exact heap_alloc_new w _⟩)
  exact ⟨ρ', h1, fun i hi => h2.env i hi, h2, h3⟩

theorem ev_ptr {nf : Nat} {ρ' : Env} {w : World} (h : ρ' nf = ⟨w.heap.size, 0, 0⟩) : (AV.ptr nf 0).val ρ' = .pointer (some ⟨w.heap.size, 0, none⟩) := by
  simp [AV.val, h]

theorem run_sem_pure {P : Program} {w : World} {α : Type} (x : α) : (pure x : Sem α).run P w = .ok x w := rfl
theorem abinI_ok {P : Program} {w : World} {op : BinOp} {t : TypeId} {k : IntKind} {a b : Int} {v : AV} {u} (h : (abinI op k a b).ok v u) (ρ : Env) :
    (binOp op t (.int k a) (.int k b)).run P w = .ok (v.val ρ) w ∧ (∀ K, v.sc K) ∧ u = [] := by
  cases op <;> simp only [abinI] at h <;> (try exact h.elim) <;> obtain ⟨hp, rfl, rfl⟩ := h <;>
    simp_all [binOp, Op.intArith, Op.intDiv, Op.intBits, Op.intCmp, bitsA, AV.val, AV.sc]

theorem run_eq_ptr_nil {P : Program} {w : World} {t e : TypeId} (hu : P.underlying t = some (.pointer e)) {d : Nat} {p : Option Addr} : (Op.equalIn (d + 1) t (.pointer p) (.pointer none)).run P w = .ok p.isNone w := by
  cases p <;> simp [Op.equalIn, run_underlying hu]
theorem run_eq_slice_nil {P : Program} {w : World} {t e : TypeId} (hu : P.underlying t = some (.slice e)) {d : Nat} {p : Option Addr} {n c : Nat} : (Op.equalIn (d + 1) t (.slice p n c) (.slice none 0 0)).run P w = .ok p.isNone w := by
  cases p <;> simp [Op.equalIn, run_underlying hu]

theorem anil_ok {P : Program} {w : World} {op : BinOp} {t : TypeId} {ptr same : Bool} {v : AV} {u} (h : (anilEq P op t ptr same).ok v u) (ρ : Env) {x y : Value}
    (hx : (ptr = true ∧ ∃ p, x = .pointer p) ∨ (ptr = false ∧ ∃ p n c, x = .slice p n c)) (hy : (ptr = true ∧ y = .pointer none ∧ ∀ p, x = .pointer p → p.isNone = same) ∨ (ptr = false ∧ y = .slice none 0 0 ∧ ∀ p n c, x = .slice p n c → p.isNone = same))
    (a b : Operand) :
    (do eqGuard op t a b x y; binOp op t x y : Sem Value).run P w = .ok (v.val ρ) w ∧ (∀ K, v.sc K) ∧ u = [] := by
  unfold anilEq at h
  split at h
  · rename_i T hT
    split at h
    · rename_i hk
      obtain ⟨e, hu⟩ := tk_ptr hT hk
      rcases hx with ⟨_, p, rfl⟩ | ⟨hf, _⟩
      · rcases hy with ⟨_, rfl, hs⟩ | ⟨hf, _⟩
        · have hs := hs p rfl
          have hg := eqGuard_at_pointer op t a b (.pointer none) p
          have he : (Op.equalIn (9999 + 1) t (.pointer p) (.pointer none)).run P w = .ok same w := by rw [run_eq_ptr_nil hu, hs]
          split at h
          · obtain ⟨hp, rfl, rfl⟩ := h
            exact ⟨by simp [hg, binOp, Op.equal, Op.maxDepth, he, AV.val], by simp [AV.sc], rfl⟩
          · obtain ⟨hp, rfl, rfl⟩ := h
            exact ⟨by simp [hg, binOp, Op.equal, Op.maxDepth, he, AV.val], by simp [AV.sc], rfl⟩
          · exact h.elim
        · cases hf
      · cases hf
    · rename_i e hk
      have hu := tk_slice hT hk
      rcases hx with ⟨hf, _⟩ | ⟨_, p, n, c, rfl⟩
      · cases hf
      · rcases hy with ⟨hf, _⟩ | ⟨_, rfl, hs⟩
        · cases hf
        · have hs := hs p n c rfl
          have hg := eqGuard_at_slice op t a b (.slice none 0 0) p n c
          have he : (Op.equalIn (9999 + 1) t (.slice p n c) (.slice none 0 0)).run P w = .ok same w := by rw [run_eq_slice_nil hu, hs]
          split at h
          · obtain ⟨hp, rfl, rfl⟩ := h
            exact ⟨by simp [hg, binOp, Op.equal, Op.maxDepth, he, AV.val], by simp [AV.sc], rfl⟩
          · obtain ⟨hp, rfl, rfl⟩ := h
            exact ⟨by simp [hg, binOp, Op.equal, Op.maxDepth, he, AV.val], by simp [AV.sc], rfl⟩
          · exact h.elim
    · exact h.elim
  · exact h.elim

theorem abin_ok {P : Program} {w : World} {op : BinOp} {t : TypeId} {x y : AV} {v : AV} {u} (h : (abin P op t x y).ok v u) (ρ : Env) (a b : Operand) :
    (do eqGuard op t a b (x.val ρ) (y.val ρ); binOp op t (x.val ρ) (y.val ρ) : Sem Value).run P w = .ok (v.val ρ) w ∧ (∀ K, v.sc K) ∧ u = [] := by
  unfold abin at h
  split at h
  · rename_i k a' k' b'
    have hg : ∀ z, eqGuard op t a b (.int k a') z = pure () := fun z => eqGuard_at_int _ _ _ _ _ _ _
    simp only [AV.val, hg]
    split at h
    · obtain ⟨hp, rfl, rfl⟩ := h
      refine ⟨?_, by simp [AV.sc], rfl⟩
      have : ¬ b' < 0 := by omega
      simp [binOp, Op.shift, this, AV.val]
    · obtain ⟨hp, rfl, rfl⟩ := h
      refine ⟨?_, by simp [AV.sc], rfl⟩
      have : ¬ b' < 0 := by omega
      simp [binOp, Op.shift, this, AV.val]
    · split at h
      · rename_i hk
        subst hk
        obtain ⟨h1, h2, h3⟩ := abinI_ok (P := P) (w := w) (t := t) h ρ
        exact ⟨by simpa using h1, h2, h3⟩
      · exact h.elim
  · rename_i a' b'
    have hg : ∀ z, eqGuard op t a b (.bool a') z = pure () := fun z => eqGuard_at_bool _ _ _ _ _ _
    simp only [AV.val, hg]
    split at h
    · rename_i T hT
      have hu := tk_bool hT rfl
      have he := run_equalIn_bool' (P := P) w 9999 t a' b' hu
      split at h
      · obtain ⟨hp, rfl, rfl⟩ := h
        refine ⟨?_, by simp [AV.sc], rfl⟩
        simp [binOp, Op.equal, Op.maxDepth, he, AV.val]
      · obtain ⟨hp, rfl, rfl⟩ := h
        refine ⟨?_, by simp [AV.sc], rfl⟩
        simp [binOp, Op.equal, Op.maxDepth, he, AV.val, bne]
      · exact h.elim
    · exact h.elim
  · rename_i a' b'
    have hg : ∀ z, eqGuard op t a b (.string a') z = pure () := fun z => eqGuard_at_string _ _ _ _ _ _
    simp only [AV.val, hg]
    split at h
    · obtain ⟨hp, rfl, rfl⟩ := h
      refine ⟨?_, by simp [AV.sc], rfl⟩
      have : ¬ (IntKind.i64.max < ((a'.size + b'.size : Nat) : Int)) := by
        have e1 : maxLen = 9223372036854775807 := rfl
        have e2 : IntKind.i64.max = 9223372036854775807 := by decide
        rw [e2]; omega
      simp only [binOp, Op.stringOp]
      rw [if_neg this]
      rfl
    · obtain ⟨hp, rfl, rfl⟩ := h
      exact ⟨by simp [binOp, Op.stringOp, AV.val, str_eq], by simp [AV.sc], rfl⟩
    · obtain ⟨hp, rfl, rfl⟩ := h
      exact ⟨by simp [binOp, Op.stringOp, AV.val, str_eq], by simp [AV.sc], rfl⟩
    · exact h.elim
  · rename_i a' b'
    split at h
    · rename_i T hT
      split at h
      · rename_i hge
        have hg := run_eqGuard_agg (P := P) w op t a b ⟨AV.vals ρ a'⟩ ⟨AV.vals ρ b'⟩ hge
        obtain ⟨i, d, z, hi, hd, hz, hl, hs, hb, ha, hk⟩ := TY_spec hT
        have hasv : ∀ xs, asV P ρ t xs = .agg ⟨AV.vals ρ xs⟩ := by
          intro xs
          simp only at ha
          cases d <;> simp [isA] at ha <;> simp [asV, hd]
        unfold aaggEq at h
        split at h
        · rename_i ks hpl
          split at h
          · rename_i r hr
            obtain ⟨hp, rfl, rfl⟩ := h
            have := plainEq_ok (P := P) (w := w) (ρ := ρ) 12 t ks a' b' r hpl hr 9988
            rw [hasv, hasv] at this
            refine ⟨?_, by simp [AV.sc], rfl⟩
            simp [AV.val, hg, run_eql_struct, this]
          · exact h.elim
        · rename_i ks hpl
          split at h
          · rename_i r hr
            obtain ⟨hp, rfl, rfl⟩ := h
            have := plainEq_ok (P := P) (w := w) (ρ := ρ) 12 t ks a' b' r hpl hr 9988
            rw [hasv, hasv] at this
            refine ⟨?_, by simp [AV.sc], rfl⟩
            simp [AV.val, hg, run_neq_struct, this]
          · exact h.elim
        · exact h.elim
      · exact h.elim
    · exact h.elim
  · exact anil_ok h ρ (.inl ⟨rfl, _, by simp only [AV.val]; rfl⟩) (.inl ⟨rfl, by simp only [AV.val], by simp [AV.val]⟩) a b
  · exact anil_ok h ρ (.inl ⟨rfl, _, by simp only [AV.val]; rfl⟩) (.inl ⟨rfl, by simp only [AV.val], by simp [AV.val]⟩) a b
  · exact anil_ok h ρ (.inl ⟨rfl, _, by simp only [AV.val]; rfl⟩) (.inl ⟨rfl, by simp only [AV.val], by simp [AV.val]⟩) a b
  · exact anil_ok h ρ (.inr ⟨rfl, _, _, _, by simp only [AV.val]; rfl⟩) (.inr ⟨rfl, by simp only [AV.val], by simp [AV.val]⟩) a b
  · exact anil_ok h ρ (.inr ⟨rfl, _, _, _, by simp only [AV.val]; rfl⟩) (.inr ⟨rfl, by simp only [AV.val], by simp [AV.val]⟩) a b
  · exact h.elim
end Go.Fw
