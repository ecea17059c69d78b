/- A law whose arguments are whole numbers, run by the kernel. -/
import Derived.Test.YtbndodeihodjfaaGreatFwKm4
import Derived.Below
import Derived.ChangeSame
namespace Go.Fw
open Go.RowKit
set_option linter.unusedVariables false

noncomputable def startE (G : Nat) : EM := ⟨MT.empty, G, 0, []⟩
noncomputable def isT (r : Option (AV × EM)) : Bool := match r with
  | some (.bool true, _) => true
  | _ => false
theorem isT_ok {r : Option (AV × EM)} (h : isT r = true) : ∃ e', r = some (.bool true, e') := by
  unfold isT at h
  split at h
  · exact ⟨_, rfl⟩
  · cases h

theorem start_tidy (G : Nat) : (startE G).tidy := ⟨fun i _ => MT.get_empty i, Nat.zero_le _⟩
theorem start_get (G i : Nat) : (startE G).m.get i = none := by
  rw [em_get _ (start_tidy G)]; exact MT.get_empty i
theorem start_sat {G : Nat} (w : World) : Sat G (fun i => i < G) (fun i => ⟨i, 0, 0⟩) w (startE G).m :=
  ⟨fun g hg => ⟨hg, rfl, rfl⟩, (fun i b h => by rw [start_get] at h; cases h), (fun i j b c h => by rw [start_get] at h; cases h), (fun i b h => by rw [start_get] at h; cases h), ⟨G, fun i h => h⟩⟩

/-- A call with numbers alone that the kernel's machine answers with true. -/
theorem calls_true {P : Program} (hm : P.follows .mixedOrders = true) (hng : noNum P = true) {k n : Nat} {f : FuncId} {args : List AV} {vs : Array Value} {G : Nat} (hG : P.globals.size = G) (h : isT (kcall P k n (.inl f) args (startE G)) = true)
    (ha : AV.scs (fun _ => False) args) (hv : vs = ⟨AV.vals (fun i => ⟨i, 0, 0⟩) args⟩) (w : World) : Calls P f vs w fun e w' => e = .returned (.bool true) ∧ Below w.heap.size w w' := by
  obtain ⟨e', he⟩ := isT_ok h
  subst hv
  subst hG
  refine (calls_of_kcall hm hng he (start_tidy _) (start_sat w) (AV.scs_mono (fun _ h => h.elim) args ha) (fun i h1 h2 hk => ?_)).mono ?_
  · have h1' : P.globals.size ≤ i := h1
    omega
  · rintro e w' ⟨K', ρ', rfl, hW, _, _⟩
    refine ⟨by simp [AV.val], ⟨hW.step.os, hW.step.tape, hW.step.output, hW.step.size, fun b hb => hW.step.block b hb fun i c hi => ?_⟩⟩
    rw [start_get] at hi; cases hi
end Go.Fw
