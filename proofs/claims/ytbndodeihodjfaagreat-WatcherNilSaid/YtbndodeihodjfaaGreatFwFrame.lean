/- The frame rule: what is proved of a part of memory holds of the whole. -/
import Derived.Test.YtbndodeihodjfaaGreatFwRun
namespace Go.Fw
set_option linter.unusedVariables false
set_option linter.unusedSimpArgs false

theorem frame_rule {G K ρ w K' ρ' w'} {m1 mF mF' m1' : Mem} (h1 : Sat G K ρ w m1) (hsub : ∀ i b, mF.get i = some b → m1.get i = some b)
    (hS : Step K ρ w mF K' ρ' w' mF') (hT : Sat G K' ρ' w' mF') (W : Nat → Prop) (hW : ∀ i, W i → m1'.get i = mF'.get i)
    (hO : ∀ i, ¬ W i → m1'.get i = m1.get i ∧ mF'.get i = mF.get i) : Step K ρ w m1 K' ρ' w' m1' ∧ Sat G K' ρ' w' m1' := by
  -- a framed block
  have hfr : ∀ i b, m1.get i = some b → mF.get i = none → w'.heap[(ρ i).b]? = w.heap[(ρ i).b]? := by
    intro i b hb hn
    refine hS.block _ (Blk.ok_lt (h1.ok i b hb)) fun j c hc hw e => ?_
    have hij : i ≠ j := by rintro rfl; rw [hn] at hc; cases hc
    exact h1.apart i j b c hb (hsub j c hc) hij (.inr hw) e.symm
  have hcase : ∀ i b, m1'.get i = some b → mF'.get i = some b ∨ (m1.get i = some b ∧ mF.get i = none) := by
    intro i b hb
    by_cases hw : W i
    · exact .inl ((hW i hw).symm.trans hb)
    · obtain ⟨e1, e2⟩ := hO i hw
      rw [e1] at hb
      cases hq : mF.get i with
      | none => exact .inr ⟨hb, rfl⟩
      | some c =>
        have := hsub i c hq
        rw [hb] at this; cases this
        exact .inl (e2.trans hq)
  have hapart : ∀ i b, (m1.get i = some b ∧ mF.get i = none) → ∀ j c, mF'.get j = some c → (b.wr = true ∨ c.wr = true) → (ρ i).b ≠ (ρ' j).b := by
    rintro i b ⟨hb, hn⟩ j c hc hw
    rcases hS.from_ j c hc with h | ⟨k, d, hd, hdw, he⟩
    · have := Blk.ok_lt (h1.ok i b hb); omega
    · rw [← he]
      have hik : i ≠ k := by rintro rfl; rw [hn] at hd; cases hd
      exact h1.apart i k b d hb (hsub k d hd) hik (hw.imp id hdw)
  refine ⟨⟨hS.os, hS.tape, hS.output, hS.size, hS.more, hS.env, fun b hb hn => hS.block b hb fun i c hc hw => hn i c (hsub i c hc) hw, fun i c hc => ?_⟩, ⟨hT.glob, fun i b hb => ?_, fun i j b c hb hc hij hw => ?_, fun i b hb => ?_, hT.few⟩⟩
  · rcases hcase i c hc with h | ⟨h, _⟩
    · rcases hS.from_ i c h with h | ⟨k, d, hd, hdw, he⟩
      · exact .inl h
      · exact .inr ⟨k, d, hsub k d hd, hdw, he⟩
    · exact .inr ⟨i, c, h, id, by rw [hS.env i (h1.known i c h).1]⟩
  · rcases hcase i b hb with h | ⟨h, hn⟩
    · exact hT.ok i b h
    · have hk := h1.known i b h
      rw [hS.env i hk.1]
      exact Blk.ok_congr (h1.ok i b h) (hfr i b h hn) hS.size hk.2 hS.env
  · rcases hcase i b hb with h | ⟨h, hn⟩ <;> rcases hcase j c hc with g | ⟨g, gn⟩
    · exact hT.apart i j b c h g hij hw
    · have := hapart j c ⟨g, gn⟩ i b h hw.symm
      rw [hS.env j (h1.known j c g).1]
      exact fun e => this e.symm
    · rw [hS.env i (h1.known i b h).1]
      exact hapart i b ⟨h, hn⟩ j c g hw
    · rw [hS.env i (h1.known i b h).1, hS.env j (h1.known j c g).1]
      exact h1.apart i j b c h g hij hw
  · rcases hcase i b hb with h | ⟨h, hn⟩
    · exact hT.known i b h
    · have hk := h1.known i b h
      exact ⟨hS.more i hk.1, b.c.sc_mono hS.more hk.2⟩

theorem sat_part {G K ρ w} {m1 mF : Mem} (h1 : Sat G K ρ w m1) (hsub : ∀ i b, mF.get i = some b → m1.get i = some b) : Sat G K ρ w mF :=
  ⟨h1.glob, fun i b h => h1.ok i b (hsub i b h), fun i j b c h g => h1.apart i j b c (hsub i b h) (hsub j c g), fun i b h => h1.known i b (hsub i b h), h1.few⟩

theorem upds_get_out : ∀ (u : List (Nat × Option Blk)) (m : Mem) (i : Nat), i ∉ u.map (·.1) → (m.upds u).get i = m.get i
  | [], _, _, _ => rfl
  | p :: u, m, i, h => by
    simp only [List.map_cons, List.mem_cons, not_or] at h
    simp only [Mem.upds]
    rw [upds_get_out u _ i h.2, Mem.get_set_other _ _ _ _ (fun e => h.1 e.symm)]
theorem upds_get_in : ∀ (u : List (Nat × Option Blk)) (m m' : Mem) (i : Nat), i ∈ u.map (·.1) → (m.upds u).get i = (m'.upds u).get i
  | [], _, _, _, h => by simp at h
  | p :: u, m, m', i, h => by
    simp only [Mem.upds]
    by_cases e : i ∈ u.map (·.1)
    · exact upds_get_in u _ _ i e
    · rw [upds_get_out u _ i e, upds_get_out u _ i e]
      simp only [List.map_cons, List.mem_cons] at h
      rcases h with rfl | h
      · rw [Mem.get_set_same, Mem.get_set_same]
      · exact absurd h e

/-- A step of a part, for the whole. -/
theorem frame_upds {G K ρ w K' ρ' w'} {m1 mF : Mem} {u : List (Nat × Option Blk)} (h1 : Sat G K ρ w m1) (hsub : ∀ i b, mF.get i = some b → m1.get i = some b)
    (hS : Step K ρ w mF K' ρ' w' (mF.upds u)) (hT : Sat G K' ρ' w' (mF.upds u)) : Step K ρ w m1 K' ρ' w' (m1.upds u) ∧ Sat G K' ρ' w' (m1.upds u) :=
  frame_rule h1 hsub hS hT (fun i => i ∈ u.map (·.1)) (fun i hi => upds_get_in u m1 mF i hi) (fun i hi => ⟨upds_get_out u m1 i hi, upds_get_out u mF i hi⟩)

/-- Only the names of a list. -/
def Mem.only (m : Mem) (F : List Nat) : Mem := ⟨fun i => if F.contains i then m.get i else none, m.bound, []⟩
theorem bound_get {m : Mem} {i : Nat} {b : Blk} (h : m.get i = some b) : i < m.bound := by
  unfold Mem.get at h
  unfold Mem.bound
  split at h
  · omega
  · cases hq : m.own[i - m.B]? with
    | none => rw [hq] at h; simp at h
    | some x =>
      have := (List.getElem?_eq_some_iff.1 hq).1
      omega
theorem only_get {m : Mem} {F : List Nat} (i : Nat) : (m.only F).get i = if F.contains i then m.get i else none := by
  show (if i < m.bound then (if F.contains i then m.get i else none) else (([] : List (Option Blk))[i - m.bound]?).join) = _
  by_cases h : i < m.bound
  · rw [if_pos h]
  · rw [if_neg h]
    cases hq : m.get i with
    | none => simp
    | some b => exact absurd (bound_get hq) h
theorem only_sub {m : Mem} {F : List Nat} : ∀ i b, (m.only F).get i = some b → m.get i = some b := by
  intro i b h
  rw [only_get] at h
  split at h
  · exact h
  · cases h

end Go.Fw
