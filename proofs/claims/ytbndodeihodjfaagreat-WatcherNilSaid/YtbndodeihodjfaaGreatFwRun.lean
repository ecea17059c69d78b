/- The abstract machine, and its soundness. -/
import Derived.Test.YtbndodeihodjfaaGreatFwOps9
import Derived.LoopNIn
namespace Go.Fw
set_option linter.unusedVariables false
set_option linter.unusedSimpArgs false

structure St where
  fr : Tr
  m : Mem

inductive It where
  | code (c : Code)
  | ops (full : Array Oper) (l : List Oper)
  | blk (id : Nat)

def popTo (id : Nat) : List It → Option (List It)
  | [] => none
  | .blk id' :: k => if id' = id then some k else popTo id k
  | _ :: k => popTo id k

def putD (fr : Tr) (d : Option Tmp) (v : AV) : Tr :=
  match d with
  | some t => fr.put t v
  | none => fr

/-! ### Contracts -/
def enters (P : Program) (f : FuncId) : Bool := match P.funcs[f]? with
  | some fn => fn.body.isSome && !(fn.name == "runtime.NumGoroutine")
  | none => false

/-- What a call comes to, in abstract terms. 'ns': names for what it makes. -/
def ACall (P : Program) (f : FuncId) (args : List AV) (m : Mem) (ns : List Nat) (R : AV → Mem → Prop) : Prop :=
  enters P f = true ∧ ∀ (K : Nat → Prop) (ρ : Env) (w : World), Sat P.globals.size K ρ w m → AV.scs K args → (∀ n ∈ ns, ¬ K n) →
    Calls P f ⟨AV.vals ρ args⟩ w fun e w' => ∃ v ρ' m' K', e = .returned (v.val ρ') ∧ Step K ρ w m K' ρ' w' m' ∧ Sat P.globals.size K' ρ' w' m' ∧ v.sc K' ∧
      (∀ i, K' i → K i ∨ i ∈ ns) ∧ (∀ i, i ∉ ns → ρ' i = ρ i) ∧ R v m'

theorem ACall.mono {P f args m ns} {R R' : AV → Mem → Prop} (h : ACall P f args m ns R) (hr : ∀ v m', R v m' → R' v m') : ACall P f args m ns R' :=
  ⟨h.1, fun K ρ w hS ha hn => (h.2 K ρ w hS ha hn).mono fun e w' ⟨v, ρ', m', K', a, b, c, d, e, f, g⟩ => ⟨v, ρ', m', K', a, b, c, d, e, f, hr _ _ g⟩⟩

/-! ### The machine -/
section
variable (P : Program) (go : List It → St → Prop)
/-- A value's result. -/
def exV : Res → Option Tmp → Array Oper → List Oper → List It → Tr → Mem → Prop
  | @Res.val pre _ v u, d, full, l, k, fr, m => pre ∧ go (.ops full l :: k) ⟨putD fr d v, m.upds u⟩
  | _, _, _, _, _, _, _ => False
/-- An operation's result. -/
def exR : Res → Option Tmp → Array Oper → List Oper → List It → Tr → Mem → Prop
  | @Res.val pre _ v u, d, full, l, k, fr, m => pre ∧ go (.ops full l :: k) ⟨putD fr d v, m.upds u⟩
  | .ite b x y, d, full, l, k, fr, m => (b = true → exV go x d full l k fr m) ∧ (b = false → exV go y d full l k fr m)
  | .call f args, d, full, l, k, fr, m => ∃ ns, (∀ n ∈ ns, m.bound ≤ n) ∧ ACall P f args m ns fun v m' => m.bound ≤ m'.bound ∧ (∀ n ∈ ns, n < m'.bound) ∧ go (.ops full l :: k) ⟨putD fr d v, m'⟩
  | _, _, _, _, _, _, _ => False
/-- A guarded operation: 't' is the slot that is looked at. -/
def exG (v : AV) (t : Tmp) (want : Bool) (o : Oper) (full : Array Oper) (l : List Oper) (k : List It) (fr : Tr) (m : Mem) : Prop :=
  match v with
  | .bool b => (b = want → exR P go (aop P (ev (fr.put t (.bool want))) m m.bound o.op) o.dst full l k (fr.put t (.bool want)) m) ∧
      (b = !want → go (.ops full l :: k) ⟨putD (fr.put t (.bool (!want))) o.dst undefA, m⟩)
  | .tuple [] => go (.ops full l :: k) ⟨putD fr o.dst undefA, m⟩
  | _ => False
def exC (v : AV) (x y : Code) (k : List It) (fr : Tr) (m : Mem) : Prop :=
  match v with
  | .bool b => (b = true → go (.code x :: k) ⟨fr, m⟩) ∧ (b = false → go (.code y :: k) ⟨fr, m⟩)
  | _ => False
end

def gslot (full : Array Oper) (j : Nat) : Option Tmp := (full[j]?).bind (·.dst)

/-- How a loop's round may be left. -/
def loopQ (go : List It → St → Prop) (Q : Exit → St → Prop) (k : List It) (I : St → Prop) (μ : St → Nat) (s0 : St) : Exit → St → Prop
  | .normal, s => I s ∧ μ s < μ s0
  | .exit id, s => match popTo id k with
    | some k' => go k' s
    | none => Q (.exit id) s
  | .ret, s => Q .ret s
  | _, _ => False

def run (P : Program) : (Exit → St → Prop) → Nat → List It → St → Prop
  | _, 0, _, _ => False
  | Q, _ + 1, [], s => Q .normal s
  | Q, n + 1, .blk _ :: k, s => run P Q n k s
  | Q, n + 1, .ops _ [] :: k, s => run P Q n k s
  | Q, n + 1, .ops full (o :: l) :: k, s =>
    match o.guard with
    | none => exR P (run P Q n) (aop P (ev s.fr) s.m s.m.bound o.op) o.dst full l k s.fr s.m
    | some (j, want) => match gslot full j with
      | some t => exG P (run P Q n) (s.fr.get t) t want o full l k s.fr s.m
      | none => False
  | Q, n + 1, .code c :: k, s =>
    match c with
    | .skip => run P Q n k s
    | .region _ ops false => run P Q n (.ops ops ops.toList :: k) s
    | .seq a b => run P Q n (.code a :: .code b :: k) s
    | .cond c x y => exC (run P Q n) (ev s.fr c) x y k s.fr s.m
    | .block id c => run P Q n (.code c :: .blk id :: k) s
    | .exit id => match popTo id k with
      | some k' => run P Q n k' s
      | none => Q (.exit id) s
    | .ret => Q .ret s
    | .loop c => ∃ I μ, I s ∧ ∀ s', I s' → run P (loopQ (run P Q n) Q k I μ s') n [.code c] s'
    | _ => False

/-! ### What it stands for -/
def markOf (D : Nat) : Deferred := { target := .collected D, args := #[] }
structure Rel (P : Program) (N z : Nat) (K : Nat → Prop) (ρ : Env) (a : Act) (w : World) (s : St) : Prop where
  size : a.tmps.size = N
  tm : ∀ t, t < N → s.fr.mem t = true ∧ a.tmps.getD t undef = (s.fr.get t).val ρ ∧ (s.fr.get t).sc K
  sat : Sat P.globals.size K ρ w s.m
  bd : ∀ i, K i → i < s.m.bound
  defs : ∃ L : List Nat, a.defers = L.map markOf ∧ L.Nodup ∧ ∀ D ∈ L, z ≤ D ∧ w.heap[D]? = some (.deferred (some []))

def wpK (F : Fence) (n : Nat) (P : Program) (Qc : Exit → Act → World → Prop) : List It → Exit → Act → World → Prop
  | [], e, a, w => Qc e a w
  | .code c :: k, .normal, a, w => c.wpIn F n P (wpK F n P Qc k) a w
  | .ops full l :: k, .normal, a, w => wpListIn F n P full (wpK F n P Qc k) l a w
  | .blk _ :: k, .normal, a, w => wpK F n P Qc k .normal a w
  | .blk id :: k, .exit id', a, w => if id' = id then wpK F n P Qc k .normal a w else wpK F n P Qc k (.exit id') a w
  | _ :: k, e, a, w => wpK F n P Qc k e a w

theorem wpK_ret {F n P Qc} : ∀ (k : List It) (a : Act) (w : World), wpK F n P Qc k .ret a w = Qc .ret a w
  | [], _, _ => rfl
  | .code _ :: k, a, w => wpK_ret k a w
  | .ops _ _ :: k, a, w => wpK_ret k a w
  | .blk _ :: k, a, w => wpK_ret k a w
theorem wpK_exit {F n P Qc} {id : Nat} : ∀ (k : List It) (a : Act) (w : World), wpK F n P Qc k (.exit id) a w = match popTo id k with
    | some k' => wpK F n P Qc k' .normal a w
    | none => Qc (.exit id) a w
  | [], _, _ => rfl
  | .code _ :: k, a, w => wpK_exit k a w
  | .ops _ _ :: k, a, w => wpK_exit k a w
  | .blk id' :: k, a, w => by
    simp only [wpK, popTo]
    by_cases h : id = id'
    · subst h; simp
    · simp only [h, fun e => h (Eq.symm e), if_false]
      rw [if_neg (fun e => h e.symm)]
      exact wpK_exit k a w

theorem bound_set (m : Mem) (i : Nat) (b : Option Blk) : (m.set i b).bound = max m.bound (i + 1) := by
  unfold Mem.set Mem.bound
  split
  · simp only; omega
  · split
    · simp only [List.length_set]; omega
    · simp only [List.length_append, List.length_replicate, List.length_singleton]; omega
theorem bound_upds : ∀ (u : List (Nat × Option Blk)) (m : Mem), m.bound ≤ (m.upds u).bound ∧ ∀ i ∈ u.map (·.1), i < (m.upds u).bound
  | [], m => by simp [Mem.upds]
  | p :: u, m => by
    obtain ⟨h1, h2⟩ := bound_upds u (m.set p.1 p.2)
    rw [bound_set] at h1
    simp only [Mem.upds]
    refine ⟨by omega, fun i hi => ?_⟩
    simp only [List.map_cons, List.mem_cons] at hi
    rcases hi with rfl | hi
    · omega
    · exact h2 i hi

/-! ### Codes that fit their frame -/
def opndOk (P : Program) (N : Nat) : Operand → Bool
  | .tmp t => decide (t < N)
  | .const v => (ofV v).isSome
  | .global g => decide (g < P.globals.size)
  | .func _ => true
def operOk (P : Program) (N : Nat) (full : Array Oper) (o : Oper) : Bool :=
  (match o.dst with | some d => decide (d < N) | none => true) && o.op.operands.toList.all (opndOk P N) &&
  (match o.guard with
   | some (j, _) => match gslot full j with | some t => decide (t < N) | none => true
   | none => true)
def fits (P : Program) (N : Nat) : Code → Bool
  | .region _ ops _ => ops.toList.all (operOk P N ops)
  | .seq a b => fits P N a && fits P N b
  | .cond c a b => opndOk P N c && fits P N a && fits P N b
  | .block _ c => fits P N c
  | .loop c => fits P N c
  | .rangeFunc f ps a b => opndOk P N f && fits P N a && fits P N b
  | .scope c => fits P N c
  | _ => true
def itOk (P : Program) (N : Nat) : It → Bool
  | .code c => fits P N c
  | .ops full l => l.all (operOk P N full)
  | .blk _ => true
theorem popTo_ok {P : Program} {N : Nat} {id : Nat} : ∀ {k k' : List It}, popTo id k = some k' → k.all (itOk P N) = true → k'.all (itOk P N) = true
  | [], _, h, _ => by simp [popTo] at h
  | .code c :: k, k', h, ha => by simp only [popTo] at h; simp only [List.all_cons, Bool.and_eq_true] at ha; exact popTo_ok h ha.2
  | .ops f l :: k, k', h, ha => by simp only [popTo] at h; simp only [List.all_cons, Bool.and_eq_true] at ha; exact popTo_ok h ha.2
  | .blk id' :: k, k', h, ha => by
    simp only [popTo] at h
    simp only [List.all_cons, Bool.and_eq_true] at ha
    split at h
    · cases h; exact ha.2
    · exact popTo_ok h ha.2

section
variable {P : Program} {N z : Nat} {K : Nat → Prop} {ρ : Env} {a : Act} {w : World} {s : St}
theorem Rel.ev (h : Rel P N z K ρ a w s) {x : Operand} (hx : opndOk P N x = true) : Evs K ρ a.eval (ev s.fr) x := by
  cases x with
  | tmp t =>
    simp only [opndOk, decide_eq_true_eq] at hx
    obtain ⟨_, h2, h3⟩ := h.tm t hx
    exact ⟨by simp [Fw.ev, Act.eval, h2], h3⟩
  | const v =>
    simp only [opndOk] at hx
    obtain ⟨y, hy⟩ := Option.isSome_iff_exists.1 hx
    refine ⟨?_, ?_⟩
    · simp only [Fw.ev, Act.eval, hy, Option.getD_some]; exact ofV_val hy ρ
    · simp only [Fw.ev, hy, Option.getD_some]; exact ofV_sc hy K
  | global g =>
    simp only [opndOk, decide_eq_true_eq] at hx
    obtain ⟨h1, h2, h3⟩ := h.sat.glob g hx
    exact ⟨by simp [Fw.ev, Act.eval, AV.val, h2, h3], by simpa [Fw.ev, AV.sc] using h1⟩
  | func f => exact ⟨by simp [Fw.ev, Act.eval, AV.val, AV.vals], by simp [Fw.ev, AV.sc, AV.scs]⟩

theorem Rel.defs_step (h : Rel P N z K ρ a w s) {K' ρ' w' m'} (hs : Step K ρ w s.m K' ρ' w' m') : ∃ L : List Nat, a.defers = L.map markOf ∧ L.Nodup ∧ ∀ D ∈ L, z ≤ D ∧ w'.heap[D]? = some (.deferred (some [])) := by
  obtain ⟨L, h1, h0, h2⟩ := h.defs
  refine ⟨L, h1, h0, fun D hD => ⟨(h2 D hD).1, ?_⟩⟩
  have hd := (h2 D hD).2
  rw [hs.block D (Array.getElem?_eq_some_iff.1 hd).1 ?_]
  · exact hd
  · intro i c hc hw e
    have hok := h.sat.ok i c hc
    rcases c with ⟨cw, cc⟩
    simp only at hw
    subst hw
    cases cc with
    | fin l => obtain ⟨_, e', hh⟩ := hok; rw [e] at hh; rw [hd] at hh; cases hh
    | arr sz L' => obtain ⟨_, _, _, _, cur, e', hh, _⟩ := hok; rw [e] at hh; rw [hd] at hh; cases hh
    | loop fr ps asg bd pend => obtain ⟨_, r, hh, _⟩ := hok; rw [e] at hh; rw [hd] at hh; cases hh

theorem Rel.next (h : Rel P N z K ρ a w s) {K' ρ' w' m'} (hs : Step K ρ w s.m K' ρ' w' m') (hS : Sat P.globals.size K' ρ' w' m') (hb : ∀ i, K' i → i < m'.bound) {d : Option Tmp} {v : AV}
    (hd : ∀ t, d = some t → t < N) (hv : v.sc K') : Rel P N z K' ρ' (a.put d (v.val ρ')) w' ⟨putD s.fr d v, m'⟩ := by
  have hold : ∀ t, t < N → s.fr.mem t = true ∧ a.tmps.getD t undef = (s.fr.get t).val ρ' ∧ (s.fr.get t).sc K' := fun t ht => by
    obtain ⟨h1, h2, h3⟩ := h.tm t ht
    exact ⟨h1, by rw [h2, AV.val_congr hs.env _ h3], AV.sc_mono hs.more _ h3⟩
  have hdf := h.defs_step hs
  cases d with
  | none => exact ⟨h.size, hold, hS, hb, hdf⟩
  | some d =>
    have hdN := hd d rfl
    refine ⟨by simp [Act.put, h.size], fun t ht => ?_, hS, hb, hdf⟩
    obtain ⟨h1, h2, h3⟩ := hold t ht
    simp only [putD, Act.put]
    by_cases e : d = t
    · subst e
      refine ⟨by rw [Tr.mem_put]; exact h1, ?_, ?_⟩
      · rw [Tr.get_put_same _ _ _ h1]
        simp [h.size, hdN]
      · rw [Tr.get_put_same _ _ _ h1]; exact hv
    · refine ⟨by rw [Tr.mem_put]; exact h1, ?_, ?_⟩
      · rw [Tr.get_put_other _ _ _ _ e, ← h2]
        simp [Array.getD, h.size, ht, Array.getElem_setIfInBounds, e]
      · rw [Tr.get_put_other _ _ _ _ e]; exact h3
end

/-- One moment after another, new names above the elder ones. -/
structure Went (K : Nat → Prop) (ρ : Env) (w : World) (m : Mem) (K' : Nat → Prop) (ρ' : Env) (w' : World) (m' : Mem) : Prop where
  step : Step K ρ w m K' ρ' w' m'
  new : ∀ i, K' i → K i ∨ m.bound ≤ i
  bd : m.bound ≤ m'.bound
theorem Went.refl (K : Nat → Prop) (ρ : Env) (w : World) (m : Mem) : Went K ρ w m K ρ w m := ⟨Step.refl _ _ _ _, fun _ h => .inl h, Nat.le_refl _⟩
theorem Went.trans {K ρ w m K' ρ' w' m' K'' ρ'' w'' m''} (h : Went K ρ w m K' ρ' w' m') (k : Went K' ρ' w' m' K'' ρ'' w'' m'') : Went K ρ w m K'' ρ'' w'' m'' :=
  ⟨h.step.trans k.step, fun i hi => (k.new i hi).elim (h.new i) (fun x => .inr (Nat.le_trans h.bd x)), Nat.le_trans h.bd k.bd⟩

/-- What the machine's post stands for. -/
def Lift (P : Program) (N : Nat) (Q : Exit → St → Prop) (K0 : Nat → Prop) (ρ0 : Env) (w0 : World) (m0 : Mem) : Exit → Act → World → Prop :=
  fun e a w => ∃ K ρ s, Went K0 ρ0 w0 m0 K ρ w s.m ∧ Rel P N w0.heap.size K ρ a w s ∧ Q e s

end Go.Fw
