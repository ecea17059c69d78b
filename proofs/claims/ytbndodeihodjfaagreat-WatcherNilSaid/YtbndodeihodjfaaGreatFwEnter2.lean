/- A part of the framework that proves Go calls: see its own remarks. -/
import Derived.Test.YtbndodeihodjfaaGreatFwEntry
namespace Go.Fw
set_option linter.unusedVariables false
set_option linter.unusedSimpArgs false

/-- What the machine is asked at the function's end. -/
def Ends (P : Program) (rs : List ResultVar) (m : Mem) (B : Nat) (ns : List Nat) (R : AV → Mem → Prop) (s : St) : Prop :=
  ∃ vs, resAll P s rs = some vs ∧ ∃ L m', Back m B ns R s.m (oneOf vs) L m'
def fin (P : Program) (rs : List ResultVar) (m : Mem) (B : Nat) (ns : List Nat) (R : AV → Mem → Prop) : Exit → St → Prop
  | .normal, s | .ret, s => Ends P rs m B ns R s
  | _, _ => False

structure Init (P : Program) (m : Mem) (args : List AV) (B : Nat) : Prop where
  lt : ∀ i b, m.get i = some b → i < B
  args : AV.scs (· < B) args
  glob : P.globals.size ≤ B
  sc : ∀ i b, m.get i = some b → b.c.sc (· < B)

def fnOk (P : Program) (N d nargs : Nat) (c : Code) (rs : List ResultVar) : Bool :=
  fits P N c && memAll (Tr.full d) N && decide (nargs ≤ N) && rs.all (rvOk N)

theorem mem_get_eq {m : Mem} {B : Nat} (hB : ∀ i b, m.get i = some b → i < B) (i : Nat) : (⟨m.get, B, []⟩ : Mem).get i = m.get i := by
  simp only [Mem.get]
  by_cases h : i < B
  · simp only [h, if_true]
  · simp only [h, if_false]
    cases hq : m.get i with
    | none => simp only [Mem.get] at hq; rw [hq]; simp
    | some b => exact absurd (hB i b hq) h

theorem acall_of_run {P : Program} {f : FuncId} {fn : Func} {c : Code} {N d : Nat} {args : List AV} {m : Mem} {ns : List Nat} {R : AV → Mem → Prop}
    (hf : P.funcs[f]? = some fn) (hb : fn.body = some c) (hN : fn.ntmps = N) (hen : enters P f = true) (hok : fnOk P N d args.length c fn.results.toList = true)
    (h : ∀ B, Init P m args B → ∃ n, run P (fin P fn.results.toList m B ns R) n [.code c] ⟨putAll (Tr.full d) 0 args, ⟨m.get, B, []⟩⟩) : ACall P f args m ns R := by
  simp only [fnOk, Bool.and_eq_true, decide_eq_true_eq] at hok
  obtain ⟨⟨⟨hfit, hd⟩, hl⟩, hres⟩ := hok
  refine ⟨hen, fun K ρ w hS ha hns => ?_⟩
  obtain ⟨B, hB⟩ := hS.few
  have hinit : Init P m args B := by
    refine ⟨fun i b h => hB i (hS.known i b h).1, AV.scs_mono hB args ha, ?_, fun i b h => b.c.sc_mono hB (hS.known i b h).2⟩
    by_cases e : P.globals.size = 0
    · omega
    · have := hB _ (hS.glob (P.globals.size - 1) (by omega)).1
      omega
  obtain ⟨n, hrun⟩ := h B hinit
  have hget : ∀ i, (⟨m.get, B, []⟩ : Mem).get i = m.get i := mem_get_eq hinit.lt
  have hS' : Sat P.globals.size K ρ w ⟨m.get, B, []⟩ :=
    ⟨hS.glob, fun i b h => hS.ok i b ((hget i).symm.trans h), fun i j b c h1 h2 => hS.apart i j b c ((hget i).symm.trans h1) ((hget j).symm.trans h2), fun i b h => hS.known i b ((hget i).symm.trans h), hS.few⟩
  rw [← Fr_calls (rd := none) (n := 0)]
  refine callsIn_of_wp_marks hf hb trivial ?_ rfl
  rw [hN]
  have hrel := enter_rel hd hS' (fun i hi => by simp only [Mem.bound, List.length_nil]; exact hB i hi) ha hl w.heap.size
  have := run_sound (rd := none) (cn := 0) K ρ w ⟨m.get, B, []⟩ n _ [.code c] _ hrun (by simp only [List.all_cons, itOk, List.all_nil, Bool.and_true]; exact hfit) K ρ _ w (Went.refl _ _ _ _) hrel
  simp only [wpK] at this
  refine wpIn_mono this ?_
  rintro e a w1 ⟨K1, ρ1, s, hW, hR, hQ⟩
  have key : Ends P fn.results.toList m B ns R s → LeavesInM Fence.wide 0 P fn a.tmps (fun e w' => ∃ v ρ' m' K', e = .returned (v.val ρ') ∧ Step K ρ w m K' ρ' w' m' ∧ Sat P.globals.size K' ρ' w' m' ∧ v.sc K' ∧
      (∀ i, K' i → K i ∨ i ∈ ns) ∧ (∀ i, i ∉ ns → ρ' i = ρ i) ∧ R v m') a.defers .returning w1 := by
    rintro ⟨vs, hvs, L, m', hback⟩
    obtain ⟨Ds, h1, h2, h3⟩ := hR.defs
    rw [h1]
    refine leave_ok (v := (oneOf vs).val ρ1) Ds w1 hW.step hR.sat h2 h3 (fun w' hS2 hT2 => ?_) 0
    have hR' : Rel P N 0 K1 ρ1 { a with defers := [] } w' s := ⟨hR.size, hR.tm, hT2, hR.bd, ⟨[], rfl, List.nodup_nil, by simp⟩⟩
    obtain ⟨r1, r2⟩ := results_ok hR' hres hvs
    refine ⟨r2, ?_⟩
    obtain ⟨ρ', K', b1, b2, b3, b4, b5, b6⟩ := back_ok hS hB hns ⟨hS2, hW.new, hW.bd⟩ hT2 r1 hback
    exact ⟨_, ρ', m', K', by rw [b1], b2, b3, b4, b5, b6, hback.post⟩
  cases e with
  | normal => exact key hQ
  | ret => exact key hQ
  | _ => exact hQ.elim

end Go.Fw
