/- The operations' soundness: one theorem. -/
import Derived.Test.YtbndodeihodjfaaGreatFwOps7
namespace Go.Fw
set_option linter.unusedVariables false
set_option linter.unusedSimpArgs false

theorem bytesGet (s : ByteArray) (i : Nat) (h : i < s.size) : s[i]? = some (s.data.toList[i]'(by simpa using h)) := by
  have : s[i]? = some s[i] := by simp [h]
  rw [this]; rfl

/-- A name for a place, no block told. -/
theorem sat_name {G K ρ w m} (h : Sat G K ρ w m) {nf : Nat} (hn : ¬ K nf) (p : Place) :
    ∃ ρ' : Env, ρ' nf = p ∧ Step K ρ w m (addK K [(nf, none)]) ρ' w (m.upds [(nf, none)]) ∧ Sat G (addK K [(nf, none)]) ρ' w (m.upds [(nf, none)]) := by
  have henv : ∀ i, K i → (if i = nf then p else ρ i) = ρ i := fun i hi => if_neg (fun e => by subst e; exact hn hi)
  have hget : ∀ i b, (m.upds [(nf, none)]).get i = some b → i ≠ nf ∧ m.get i = some b := fun i b hb => by
    simp only [Mem.upds] at hb
    by_cases e : i = nf
    · rw [e, Mem.get_set_same] at hb; cases hb
    · rw [Mem.get_set_other _ _ _ _ (fun x => e x.symm)] at hb; exact ⟨e, hb⟩
  refine ⟨fun i => if i = nf then p else ρ i, by simp, ?_⟩
  refine sat_next h rfl rfl rfl (Nat.le_refl _) (fun i hi => .inl hi) ?_ henv (fun _ _ _ => rfl) (fun i b hb => .inl ⟨(hget i b hb).2, rfl⟩) ?_
  · obtain ⟨N, hN⟩ := h.few
    refine ⟨max N (nf + 1), fun i hi => ?_⟩
    rcases hi with hi | hi
    · have := hN i hi; omega
    · simp at hi; omega
  · intro i j b c hb hc hij hw
    obtain ⟨e1, h1⟩ := hget i b hb
    obtain ⟨e2, h2⟩ := hget j c hc
    simp only [e1, e2, if_false]
    exact h.apart i j b c h1 h2 hij hw

theorem slice_run {P : Program} {w : World} {t e : TypeId} {sz : Nat} (hu : P.underlying t = some (.slice e)) (hrs : (sizeOf e).run P w = .ok sz w) (b o len cap l hh : Nat) (lo hi : Option Value)
    (hlo : (lo = none ∧ l = 0) ∨ ∃ k n, lo = some (.int k n) ∧ 0 ≤ n ∧ n.toNat = l) (hhi : (hi = none ∧ hh = len) ∨ ∃ k n, hi = some (.int k n) ∧ 0 ≤ n ∧ n.toNat = hh) (h1 : l ≤ hh) (h2 : hh ≤ cap) :
    (Instr.sliceAt t (.slice (some ⟨b, o, none⟩) len cap) lo hi none).run P w = .ok (.slice (some ⟨b, if cap = l then o else o + l * sz, none⟩) (hh - l) (cap - l)) w := by
  have e : ∀ (a : Option Addr), a = some ⟨b, o, none⟩ → (if cap = l then a else a.map (·.add (l * sz))) = some ⟨b, if cap = l then o else o + l * sz, none⟩ := by
    rintro a rfl
    split
    · rfl
    · simp [Addr.add_lit]
  rcases hlo with ⟨rfl, rfl⟩ | ⟨k, n, rfl, hn, rfl⟩ <;> rcases hhi with ⟨rfl, rfl⟩ | ⟨k', n', rfl, hn', rfl⟩
  · simp only [Instr.sliceAt, Sem.run_bind, run_underlying hu, Result.andThen_ok, Instr.slice, Instr.sliceBounds, Option.isSome_none, Bool.false_eq_true, if_false, Sem.run_pure, hrs, e _ rfl]
  · have h3 : n' ≤ (cap : Int) := by omega
    simp only [Instr.sliceAt, Sem.run_bind, run_underlying hu, Result.andThen_ok, Instr.slice, Instr.sliceBounds, Instr.sliceBound, asIntOf, Option.isSome_none, Bool.false_eq_true, if_false, if_true, Sem.run_pure, hn', h3, and_self, hrs, e _ rfl]
  · have h3 : n ≤ ((hh : Nat) : Int) := by omega
    simp only [Instr.sliceAt, Sem.run_bind, run_underlying hu, Result.andThen_ok, Instr.slice, Instr.sliceBounds, Instr.sliceBound, asIntOf, Option.isSome_none, Bool.false_eq_true, if_false, if_true, Sem.run_pure, hn, h3, and_self, hrs, e _ rfl]
  · have h3 : n' ≤ (cap : Int) := by omega
    have h4 : n ≤ ((n'.toNat : Nat) : Int) := by omega
    simp only [Instr.sliceAt, Sem.run_bind, run_underlying hu, Result.andThen_ok, Instr.slice, Instr.sliceBounds, Instr.sliceBound, asIntOf, Option.isSome_none, Bool.false_eq_true, if_false, if_true, Sem.run_pure, hn, hn', h3, h4, and_self, hrs, e _ rfl]

theorem aslice_ok {P : Program} {K ρ w m} (h : Sat P.globals.size K ρ w m) {nf : Nat} (hn : ¬ K nf) {t : TypeId} {T : TyI} (hT : TY P t = some T) {x : AV} {lo hi : Option AV} {v : AV} {u} (hs : x.sc K)
    (ha : (aslice P m nf T.tk x lo hi).ok v u) :
    ∃ w' ρ', Step K ρ w m (addK K u) ρ' w' (m.upds u) ∧ Sat P.globals.size (addK K u) ρ' w' (m.upds u) ∧ v.sc (addK K u) ∧
      (Instr.sliceAt t (x.val ρ) (lo.map (AV.val ρ)) (hi.map (AV.val ρ)) none).run P w = .ok (v.val ρ') w' := by
  have pureC : ∀ {v : AV}, u = [] → v.sc K → (Instr.sliceAt t (x.val ρ) (lo.map (AV.val ρ)) (hi.map (AV.val ρ)) none).run P w = .ok (v.val ρ) w →
      ∃ w' ρ', Step K ρ w m (addK K u) ρ' w' (m.upds u) ∧ Sat P.globals.size (addK K u) ρ' w' (m.upds u) ∧ v.sc (addK K u) ∧
        (Instr.sliceAt t (x.val ρ) (lo.map (AV.val ρ)) (hi.map (AV.val ρ)) none).run P w = .ok (v.val ρ') w' := by
    rintro v rfl hv hr
    exact ⟨w, ρ, by rw [addK_nil]; exact Step.refl _ _ _ _, by rw [addK_nil]; exact h, by rw [addK_nil]; exact hv, hr⟩
  unfold aslice at ha
  split at ha
  · rename_i s htk
    have hu := tk_str hT htk
    split at ha
    · obtain ⟨_, rfl, rfl⟩ := ha
      exact pureC rfl (by simp [AV.sc]) (by simp [Instr.sliceAt, run_underlying hu, Instr.slice, AV.val, Instr.sliceBounds])
    · obtain ⟨⟨h1, h2⟩, rfl, rfl⟩ := ha
      exact pureC rfl (by simp [AV.sc]) (by simp [Instr.sliceAt, run_underlying hu, Instr.slice, AV.val, Instr.sliceBounds, Instr.sliceBound, asIntOf, h1, h2])
    · obtain ⟨⟨h1, h2⟩, rfl, rfl⟩ := ha
      exact pureC rfl (by simp [AV.sc]) (by simp [Instr.sliceAt, run_underlying hu, Instr.slice, AV.val, Instr.sliceBounds, Instr.sliceBound, asIntOf, h1, h2])
    · rename_i l _ hh
      obtain ⟨⟨h1, h2, h3⟩, rfl, rfl⟩ := ha
      have h4 : 0 ≤ hh := by omega
      have h5 : l ≤ (hh.toNat : Int) := by omega
      have h6 : ((hh.toNat : Nat) : Int) = hh := by omega
      refine pureC rfl (by simp [AV.sc]) ?_
      simp only [Instr.sliceAt, Sem.run_bind, run_underlying hu, Result.andThen_ok, Instr.slice, AV.val, Option.map_some, Instr.sliceBounds, Instr.sliceBound, asIntOf, Option.isSome_none, Bool.false_eq_true, if_false]
      simp [h1, h2, h3, h4, h6]
    · exact ha.elim
  · rename_i e nm len htk
    have hu := tk_slice hT htk
    have hnK : K nm := by simpa [AV.sc] using hs
    split at ha
    · rename_i E wr sz L hE hg
      split at ha
      · rename_i hsz
        have hrs := run_sizeOf hE w
        have hok := h.ok _ _ hg
        have hM : L.length ≤ (ρ nm).cap := by
          cases wr
          · exact hok.2.1
          · exact hok.2.1
        split at ha
        · rename_i hh
          obtain ⟨⟨h1, h2⟩, rfl, rfl⟩ := ha
          have h3 : hh ≤ ((ρ nm).cap : Int) := by omega
          refine pureC rfl (by simpa [AV.sc] using hnK) ?_
          simp only [Instr.sliceAt, Sem.run_bind, run_underlying hu, Result.andThen_ok, Instr.slice, AV.val, Option.map_some, Option.map_none, Instr.sliceBounds, Instr.sliceBound, asIntOf, Option.isSome_none, Bool.false_eq_true, if_false]
          simp [h1, h3, hrs, Addr.add_lit]
        · rename_i kk l
          simp only [Res.ok, decide_eq_true_eq] at ha
          split at ha
          · rename_i hl
            obtain ⟨⟨h1, h2, h3⟩, rfl, rfl⟩ := ha
            obtain ⟨ρ', g1, g2, g3⟩ := sat_name h hn ⟨(ρ nm).b, if (ρ nm).cap = l.toNat then (ρ nm).off else (ρ nm).off + l.toNat * sz, (ρ nm).cap - l.toNat⟩
            refine ⟨w, ρ', g2, g3, .inr (by simp), ?_⟩
            have := slice_run (P := P) (w := w) hu (hsz ▸ hrs) (ρ nm).b (ρ nm).off len (ρ nm).cap l.toNat len (some (.int kk l)) none (.inr ⟨_, l, rfl, h1, rfl⟩) (.inl ⟨rfl, rfl⟩) (by omega) (by omega)
            simp only [AV.val, Option.map_some, Option.map_none, g1, this]
            have e : len - l.toNat = 0 := by omega
            rw [e]
          · rename_i hl
            obtain ⟨⟨h1, h2, h3⟩, rfl, rfl⟩ := ha
            refine pureC rfl (by simpa [AV.sc] using hnK) ?_
            have := slice_run (P := P) (w := w) hu (hsz ▸ hrs) (ρ nm).b (ρ nm).off len (ρ nm).cap l.toNat len (some (.int kk l)) none (.inr ⟨_, l, rfl, h1, rfl⟩) (.inl ⟨rfl, rfl⟩) (by omega) (by omega)
            simp only [AV.val, Option.map_some, Option.map_none, this]
            rw [if_neg (by omega)]
        · rename_i kk l kk2 hh
          simp only [Res.ok, decide_eq_true_eq] at ha
          split at ha
          · rename_i hl
            obtain ⟨⟨h1, h2, h3⟩, rfl, rfl⟩ := ha
            obtain ⟨ρ', g1, g2, g3⟩ := sat_name h hn ⟨(ρ nm).b, if (ρ nm).cap = l.toNat then (ρ nm).off else (ρ nm).off + l.toNat * sz, (ρ nm).cap - l.toNat⟩
            refine ⟨w, ρ', g2, g3, .inr (by simp), ?_⟩
            have := slice_run (P := P) (w := w) hu (hsz ▸ hrs) (ρ nm).b (ρ nm).off len (ρ nm).cap l.toNat hh.toNat (some (.int kk l)) (some (.int kk2 hh)) (.inr ⟨_, l, rfl, h1, rfl⟩) (.inr ⟨_, hh, rfl, by omega, rfl⟩) (by omega) (by omega)
            simp only [AV.val, Option.map_some, g1, this]
            have e : hh.toNat - l.toNat = 0 := by omega
            rw [e]
          · rename_i hl
            obtain ⟨⟨h1, h2, h3⟩, rfl, rfl⟩ := ha
            refine pureC rfl (by simpa [AV.sc] using hnK) ?_
            have := slice_run (P := P) (w := w) hu (hsz ▸ hrs) (ρ nm).b (ρ nm).off len (ρ nm).cap l.toNat hh.toNat (some (.int kk l)) (some (.int kk2 hh)) (.inr ⟨_, l, rfl, h1, rfl⟩) (.inr ⟨_, hh, rfl, by omega, rfl⟩) (by omega) (by omega)
            simp only [AV.val, Option.map_some, this]
            rw [if_neg (by omega)]
        · exact ha.elim
      · exact ha.elim
    · exact ha.elim
  · rename_i e nm sz0 a len htk
    have hu := tk_slice hT htk
    have hnK : K nm := by simpa [AV.sc] using hs
    split at ha
    · rename_i E wr sz L hE hg
      split at ha
      · rename_i hsz
        obtain ⟨hsz, rfl⟩ := hsz
        have hrs := run_sizeOf hE w
        have hok := h.ok _ _ hg
        have hM : L.length ≤ (ρ nm).cap := by
          cases wr
          · exact hok.2.1
          · exact hok.2.1
        split at ha
        · rename_i kk2 hh
          obtain ⟨⟨h1, h2⟩, rfl, rfl⟩ := ha
          refine pureC rfl (by simpa [AV.sc] using hnK) ?_
          have := slice_run (P := P) (w := w) hu (hsz ▸ hrs) (ρ nm).b ((ρ nm).off + a * sz0) len ((ρ nm).cap - a) 0 hh.toNat none (some (.int kk2 hh)) (.inl ⟨rfl, rfl⟩) (.inr ⟨_, hh, rfl, h1, rfl⟩) (by omega) (by omega)
          simp only [AV.val, Option.map_some, Option.map_none, this]
          simp
        · rename_i kk l
          simp only [Res.ok, decide_eq_true_eq] at ha
          split at ha
          · rename_i hl
            obtain ⟨⟨h1, h2, h3⟩, rfl, rfl⟩ := ha
            obtain ⟨ρ', g1, g2, g3⟩ := sat_name h hn ⟨(ρ nm).b, if (ρ nm).cap - a = l.toNat then (ρ nm).off + a * sz0 else (ρ nm).off + a * sz0 + l.toNat * sz0, (ρ nm).cap - a - l.toNat⟩
            refine ⟨w, ρ', g2, g3, .inr (by simp), ?_⟩
            have := slice_run (P := P) (w := w) hu (hsz ▸ hrs) (ρ nm).b ((ρ nm).off + a * sz0) len ((ρ nm).cap - a) l.toNat len (some (.int kk l)) none (.inr ⟨_, l, rfl, h1, rfl⟩) (.inl ⟨rfl, rfl⟩) (by omega) (by omega)
            simp only [AV.val, Option.map_some, Option.map_none, g1, this]
            have e : len - l.toNat = 0 := by omega
            rw [e]
          · rename_i hl
            obtain ⟨⟨h1, h2, h3⟩, rfl, rfl⟩ := ha
            refine pureC rfl (by simpa [AV.sc] using hnK) ?_
            have := slice_run (P := P) (w := w) hu (hsz ▸ hrs) (ρ nm).b ((ρ nm).off + a * sz0) len ((ρ nm).cap - a) l.toNat len (some (.int kk l)) none (.inr ⟨_, l, rfl, h1, rfl⟩) (.inl ⟨rfl, rfl⟩) (by omega) (by omega)
            simp only [AV.val, Option.map_some, Option.map_none, this]
            rw [if_neg (by omega), Nat.add_assoc, ← Nat.add_mul, Nat.sub_sub]
        · rename_i kk l kk2 hh
          simp only [Res.ok, decide_eq_true_eq] at ha
          split at ha
          · rename_i hl
            obtain ⟨⟨h1, h2, h3⟩, rfl, rfl⟩ := ha
            obtain ⟨ρ', g1, g2, g3⟩ := sat_name h hn ⟨(ρ nm).b, if (ρ nm).cap - a = l.toNat then (ρ nm).off + a * sz0 else (ρ nm).off + a * sz0 + l.toNat * sz0, (ρ nm).cap - a - l.toNat⟩
            refine ⟨w, ρ', g2, g3, .inr (by simp), ?_⟩
            have := slice_run (P := P) (w := w) hu (hsz ▸ hrs) (ρ nm).b ((ρ nm).off + a * sz0) len ((ρ nm).cap - a) l.toNat hh.toNat (some (.int kk l)) (some (.int kk2 hh)) (.inr ⟨_, l, rfl, h1, rfl⟩) (.inr ⟨_, hh, rfl, by omega, rfl⟩) (by omega) (by omega)
            simp only [AV.val, Option.map_some, g1, this]
            have e : hh.toNat - l.toNat = 0 := by omega
            rw [e]
          · rename_i hl
            obtain ⟨⟨h1, h2, h3⟩, rfl, rfl⟩ := ha
            refine pureC rfl (by simpa [AV.sc] using hnK) ?_
            have := slice_run (P := P) (w := w) hu (hsz ▸ hrs) (ρ nm).b ((ρ nm).off + a * sz0) len ((ρ nm).cap - a) l.toNat hh.toNat (some (.int kk l)) (some (.int kk2 hh)) (.inr ⟨_, l, rfl, h1, rfl⟩) (.inr ⟨_, hh, rfl, by omega, rfl⟩) (by omega) (by omega)
            simp only [AV.val, Option.map_some, this]
            rw [if_neg (by omega), Nat.add_assoc, ← Nat.add_mul, Nat.sub_sub]
        · exact ha.elim
      · exact ha.elim
    · exact ha.elim
  · rename_i e htk
    have hu := tk_slice hT htk
    split at ha
    · rename_i E hE
      have hrs := run_sizeOf hE w
      split at ha
      · obtain ⟨rfl, rfl, rfl⟩ := ha
        refine pureC rfl (by simp [AV.sc]) ?_
        simp only [Instr.sliceAt, Sem.run_bind, run_underlying hu, Result.andThen_ok, Instr.slice, AV.val, Option.map_some, Option.map_none, Instr.sliceBounds, Instr.sliceBound, asIntOf, Option.isSome_none, Bool.false_eq_true, if_false]
        simp [hrs]
      · obtain ⟨rfl, rfl, rfl⟩ := ha
        refine pureC rfl (by simp [AV.sc]) ?_
        simp only [Instr.sliceAt, Sem.run_bind, run_underlying hu, Result.andThen_ok, Instr.slice, AV.val, Option.map_some, Option.map_none, Instr.sliceBounds, Instr.sliceBound, asIntOf, Option.isSome_none, Bool.false_eq_true, if_false]
        simp [hrs]
      · obtain ⟨⟨rfl, rfl⟩, rfl, rfl⟩ := ha
        refine pureC rfl (by simp [AV.sc]) ?_
        simp only [Instr.sliceAt, Sem.run_bind, run_underlying hu, Result.andThen_ok, Instr.slice, AV.val, Option.map_some, Option.map_none, Instr.sliceBounds, Instr.sliceBound, asIntOf, Option.isSome_none, Bool.false_eq_true, if_false]
        simp [hrs]
      · exact ha.elim
    · exact ha.elim
  · exact ha.elim

end Go.Fw
