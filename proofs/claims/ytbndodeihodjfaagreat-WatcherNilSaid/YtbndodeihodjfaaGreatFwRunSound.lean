/- The abstract machine's soundness. -/
import Derived.Test.YtbndodeihodjfaaGreatFwRun
namespace Go.Fw
set_option linter.unusedVariables false
set_option linter.unusedSimpArgs false

def Fr : Option Nat → Fence
  | none => Fence.wide
  | some l => Fence.wide.inRound l
theorem Fr_fn (rd : Option Nat) (f : FuncId) : (Fr rd).fn f := by cases rd <;> trivial
theorem Fr_depth (rd : Option Nat) : (Fr rd).depth = none := by cases rd <;> rfl
theorem Fr_round (rd : Option Nat) : (Fr rd).round = rd := by cases rd <;> rfl
theorem Fr_calls {rd : Option Nat} {n : Nat} {P : Program} {f : FuncId} {args : Array Value} {w : World} {R : Ending → World → Prop} : CallsIn (Fr rd) n P f args w R ↔ Calls P f args w R := by
  cases rd with
  | none => exact callsIn_wide
  | some l => exact callsIn_wide (n := n)
theorem Fr_room (rd : Option Nat) (n : Nat) : (Fr rd).room n := fun d hd => by rw [Fr_depth] at hd; cases hd

theorem semAt_noDefer {rd : Option Nat} {re : Operand → Value} {o : Oper} (h : ∀ c, o.op ≠ .defer c) : Oper.semAt rd re o = execOp re o := by
  cases rd with
  | none => rfl
  | some l => exact Oper.semAt_some l re o h

theorem run_enter {P : Program} {f : FuncId} (h : enters P f = true) (args : Array Value) (w : World) : (callFunc f args).run P w = .ok (.enter f args) w := by
  unfold enters at h
  cases hf : P.funcs[f]? with
  | none => rw [hf] at h; cases h
  | some fn =>
    rw [hf] at h
    simp only [Bool.and_eq_true, Bool.not_eq_true'] at h
    have h1 : fn.body ≠ none := by intro e; rw [e] at h; simp at h
    have h2 : fn.name ≠ "runtime.NumGoroutine" := by intro e; rw [e] at h; simp at h
    simp [callFunc, hf, h2, h1]

theorem aop_noCall {P : Program} {evf : Operand → AV} {m : Mem} {nf : Nat} {o : Op} {v : AV} {u} (h : (aop P evf m nf o).ok v u) : Op.noCall o := by
  cases o with
  | call c =>
    simp only [aop, acallee] at h
    cases hc : c.callee with
    | builtin b => exact ⟨b, hc⟩
    | value f =>
      rw [hc] at h
      simp only at h
      split at h <;> exact h.elim
    | invoke r nm =>
      rw [hc] at h
      simp only at h
      split at h
      · split at h <;> exact h.elim
      · exact h.elim
  | _ => trivial
theorem aop_noDefer {P : Program} {evf : Operand → AV} {m : Mem} {nf : Nat} {o : Op} {c : Call} (h : o = .defer c) : aop P evf m nf o = .bad := by subst h; rfl

/-- An operation with a value, in a world. -/
theorem wpIn_val {P : Program} {rd : Option Nat} {cn : Nat} {o : Oper} {a : Act} {w : World} {next : Act → World → Prop} {Q' : Exit → Act → World → Prop} {G K ρ m v u}
    (hnd : ∀ c, o.op ≠ .defer c) (h : Good G K ρ w m ((execOp a.eval o).run P w) v u)
    (hn : ∀ w' ρ', Step K ρ w m (addK K u) ρ' w' (m.upds u) → Sat G (addK K u) ρ' w' (m.upds u) → v.sc (addK K u) → next (a.put o.dst (v.val ρ')) w') :
    o.wpIn (Fr rd) cn P a w next Q' := by
  obtain ⟨w', ρ', h1, h2, h3, h4⟩ := h
  refine ⟨fun f _ => Fr_fn rd f, ?_⟩
  rw [Fr_round, semAt_noDefer hnd]
  rcases h4 with h4 | ⟨h4, rfl⟩
  · rw [h4]; exact hn w' ρ' h1 h2 h3
  · rw [h4]
    have := hn w' ρ' h1 h2 h3
    simpa [undefA, AV.val, AV.vals, undef, Oper.uponIn] using this

theorem call_run {P : Program} {K : Nat → Prop} {ρ : Env} {re : Operand → Value} {evf : Operand → AV} {o : Oper} {c : Call} (ho : o.op = .call c)
    (hev : ∀ x ∈ o.op.operands.toList, Evs K ρ re evf x) {m : Mem} {nf : Nat} {f : FuncId} {args : List AV} (ha : aop P evf m nf o.op = .call f args) (he : enters P f = true) (w : World) :
    (execOp re o).run P w = .ok (.enter f ⟨AV.vals ρ args⟩) w ∧ AV.scs K args := by
  rw [execOp_call ho]
  rw [ho] at ha hev
  simp only [aop, acallee] at ha
  cases hc : c.callee with
  | builtin b =>
    rw [hc] at ha
    simp only at ha
    have hno : ∀ f args, abuiltin P m nf b (c.args.toList.map evf) c.argTypes.toList ≠ .call f args := by
      intro f args h
      unfold abuiltin at h
      simp only [aappend, aclear] at h
      repeat' (split at h)
      all_goals cases h
    exact absurd ha (hno f args)
  | value x =>
    rw [hc] at ha
    simp only at ha
    simp only [Op.operands, Call.operands, hc] at hev
    obtain ⟨e1, e2⟩ := evs_list (re := re) (evf := evf) (K := K) (ρ := ρ) c.args.toList (fun y hy => hev y (by simp; exact .inr (by simpa using hy)))
    have hx := hev x (by simp)
    split at ha
    · rename_i g caps hv
      cases ha
      have hre := hx.val
      rw [hv] at hre
      have hsc := hx.sc
      rw [hv] at hsc
      simp only [AV.sc] at hsc
      have hargs : c.args.map re = ⟨AV.vals ρ (c.args.toList.map evf)⟩ := by apply Array.ext'; rw [e1]; simp
      refine ⟨?_, by rw [scs_iff] at e2 hsc ⊢; intro v hv; exact (List.mem_append.1 hv).elim (e2 v) (hsc v)⟩
      simp only [resolve, hc, Deferred.ofValue, ← hre, AV.val, Sem.run_bind, run_sem_pure, Result.andThen_ok, invoke, hargs]
      rw [run_enter he]
      simp [vals_append]
    · cases ha
    · cases ha
  | invoke r name =>
    rw [hc] at ha
    simp only at ha
    simp only [Op.operands, Call.operands, hc] at hev
    obtain ⟨e1, e2⟩ := evs_list (re := re) (evf := evf) (K := K) (ρ := ρ) c.args.toList (fun y hy => hev y (by simp; exact .inr (by simpa using hy)))
    have hx := hev r (by simp)
    split at ha
    · rename_i t v hv
      split at ha
      · rename_i g hm
        cases ha
        have hre := hx.val
        rw [hv] at hre
        have hsc := hx.sc
        rw [hv] at hsc
        simp only [AV.sc] at hsc
        have hargs : c.args.map re = ⟨AV.vals ρ (c.args.toList.map evf)⟩ := by apply Array.ext'; rw [e1]; simp
        refine ⟨?_, ⟨hsc, e2⟩⟩
        have hd : ∃ n, P.types.size + Made.depth = n + 1 := ⟨P.types.size + 99, rfl⟩
        obtain ⟨n, hd⟩ := hd
        have hmeth := run_method (P := P) (w := w) hm n (v.val ρ)
        simp only [resolve, hc, ← hre, AV.val, Sem.run_bind, run_sem_pure, Result.andThen_ok, invoke, hargs]
        have e0 : (#[Value.iface t (AV.val ρ v)] ++ (⟨AV.vals ρ (c.args.toList.map evf)⟩ : Array Value))[0]? = some (Value.iface t (AV.val ρ v)) := by simp
        have e3 : (#[Value.iface t (AV.val ρ v)] ++ (⟨AV.vals ρ (c.args.toList.map evf)⟩ : Array Value)).extract 1 (#[Value.iface t (AV.val ρ v)] ++ (⟨AV.vals ρ (c.args.toList.map evf)⟩ : Array Value)).size = ⟨AV.vals ρ (c.args.toList.map evf)⟩ := by
          apply Array.ext'
          simp
        simp only [e0, e3, callMethod, Sem.run_bind, run_program, Result.andThen_ok, hd, hmeth]
        rw [run_enter he]
        simp [AV.vals]
      · cases ha
    · cases ha

end Go.Fw
