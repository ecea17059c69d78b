/- A machine that the kernel runs: closed calls. -/
import Derived.Test.YtbndodeihodjfaaGreatFwEnter2
import Derived.Test.YtbndodeihodjfaaGreatFwFastOps
import Derived.Test.YtbndodeihodjfaaGreatFwEights
namespace Go.Fw
set_option linter.unusedVariables false

/-! ### Frames and memories, for the kernel -/
noncomputable def Tr.getF (t : Tr) : Nat → AV :=
  Tr.rec (motive := fun _ => Nat → AV) (fun _ => undefA) (fun v _ _ gl gr i => Nat.rec (motive := fun _ => AV) v (fun j _ => Bool.rec (motive := fun _ => AV) (gr (Nat.div j 2)) (gl (Nat.div j 2)) (Nat.beq (Nat.mod j 2) 0)) i) t
noncomputable def Tr.tight (t : Tr) (k : Tr → Tr) : Tr := Tr.rec (motive := fun _ => Tr) (k .e) (fun v l r _ _ => k (.n v l r)) t
noncomputable def Tr.putF (t : Tr) : Nat → AV → Tr :=
  Tr.rec (motive := fun _ => Nat → AV → Tr) (fun _ _ => .e)
    (fun w l r pl pr i v => Nat.rec (motive := fun _ => Tr) (.n v l r) (fun j _ => Bool.rec (motive := fun _ => Tr) ((pr (Nat.div j 2) v).tight fun r' => .n w l r') ((pl (Nat.div j 2) v).tight fun l' => .n w l' r) (Nat.beq (Nat.mod j 2) 0)) i) t

theorem mod2 (j : Nat) : Nat.beq (Nat.mod j 2) 0 = decide (j % 2 = 0) := by
  show Nat.beq (j % 2) 0 = _
  rcases Nat.mod_two_eq_zero_or_one j with h | h <;> rw [h] <;> rfl
theorem Tr.getF_eq : ∀ (t : Tr) (i : Nat), t.getF i = t.get i
  | .e, i => rfl
  | .n v l r, 0 => rfl
  | .n v l r, j + 1 => by
    show Bool.rec (motive := fun _ => AV) (r.getF (j / 2)) (l.getF (j / 2)) (Nat.beq (Nat.mod j 2) 0) = _
    rw [mod2, Tr.getF_eq l, Tr.getF_eq r]
    simp only [Tr.get]
    by_cases h : j % 2 = 0 <;> simp [h]
theorem Tr.tight_eq (t : Tr) (k : Tr → Tr) : t.tight k = k t := by cases t <;> rfl
theorem Tr.putF_eq : ∀ (t : Tr) (i : Nat) (v : AV), t.putF i v = t.put i v
  | .e, i, _ => rfl
  | .n v l r, 0, _ => rfl
  | .n w l r, j + 1, v => by
    show Bool.rec (motive := fun _ => Tr) ((r.putF (j / 2) v).tight fun r' => .n w l r') ((l.putF (j / 2) v).tight fun l' => .n w l' r) (Nat.beq (Nat.mod j 2) 0) = _
    rw [mod2, Tr.putF_eq l, Tr.putF_eq r, Tr.tight_eq, Tr.tight_eq]
    simp only [Tr.put]
    by_cases h : j % 2 = 0 <;> simp [h]

/-! ### Values laid bare -/
section
variable {α β : Type}
noncomputable def tightN (n : Nat) (k : Nat → α) : α := Nat.rec (motive := fun _ => α) (k 0) (fun m _ => k (Nat.succ m)) n
noncomputable def tightI (n : Int) (k : Int → α) : α := Int.rec (motive := fun _ => α) (fun m => tightN m fun m => k (.ofNat m)) (fun m => tightN m fun m => k (.negSucc m)) n
theorem tightN_eq (n : Nat) (k : Nat → α) : tightN n k = k n := by cases n <;> rfl
theorem tightI_eq (n : Int) (k : Int → α) : tightI n k = k n := by cases n <;> simp only [tightI, tightN_eq]
noncomputable def tightL (l : List β) (k : List β → α) : α := List.rec (motive := fun _ => (List β → α) → α) (fun k => k []) (fun a _ ih k => ih fun t => k (a :: t)) l k
theorem tightL_eq (l : List β) (k : List β → α) : tightL l k = k l := by
  induction l generalizing k with
  | nil => rfl
  | cons a l ih => exact ih fun t => k (a :: t)
noncomputable def tightA (v : AV) (k : AV → α) : α := match v with
  | .int i n => tightI n fun n => k (.int i n)
  | v => k v
theorem tightA_eq (v : AV) (k : AV → α) : tightA v k = k v := by cases v <;> simp only [tightA, tightI_eq]
noncomputable def tightB (b : Option Blk) (k : Option Blk → α) : α := match b with
  | some ⟨wr, .fin l⟩ => tightL l fun l => k (some ⟨wr, .fin l⟩)
  | some ⟨wr, .arr sz L⟩ => tightL L fun L => k (some ⟨wr, .arr sz L⟩)
  | b => k b
theorem tightB_eq (b : Option Blk) (k : Option Blk → α) : tightB b k = k b := by
  unfold tightB; split <;> simp only [tightL_eq]

end

/-- Memory, its bound, and the names below a floor that have been written. -/
structure EM where
  t : MT
  nb : Nat
  fl : Nat
  ws : List Nat
noncomputable def EM.m (s : EM) : Mem := ⟨s.t.get, s.nb, []⟩
structure ES where
  fr : Tr
  e : EM

noncomputable def hasN (l : List Nat) (i : Nat) : Bool := List.rec (motive := fun _ => Bool) false (fun a _ ih => Bool.rec (motive := fun _ => Bool) ih true (Nat.beq a i)) l
theorem hasN_eq (l : List Nat) (i : Nat) : hasN l i = decide (i ∈ l) := by
  induction l with
  | nil => simp [hasN]
  | cons a l ih =>
    show Bool.rec (motive := fun _ => Bool) (hasN l i) true (Nat.beq a i) = _
    rw [ih]
    by_cases h : a = i
    · subst h; simp
    · have : Nat.beq a i = false := by
        cases e : Nat.beq a i
        · rfl
        · exact absurd (Nat.eq_of_beq_eq_true e) h
      rw [this]
      have h' : ¬ i = a := fun e => h e.symm
      simp [h']
noncomputable def wrote (ws : List Nat) (i : Nat) : List Nat := match hasN ws i with
  | true => ws
  | false => i :: ws
noncomputable def EM.put1 (s : EM) (i : Nat) (b : Option Blk) : Option EM :=
  match s.t.mem i with
  | true => tightN s.fl fun fl => tightB b fun b => match Nat.blt i s.nb with
    | true => some ⟨s.t.put i b, s.nb, fl, (match Nat.blt i fl with
      | true => wrote s.ws i
      | false => s.ws)⟩
    | false => match Nat.beq i s.nb with
      | true => tightN i fun i => some ⟨s.t.put i b, Nat.succ i, fl, (match Nat.blt i fl with
        | true => wrote s.ws i
        | false => s.ws)⟩
      | false => none
  | false => none
noncomputable def EM.puts : EM → List (Nat × Option Blk) → Option EM
  | s, [] => some s
  | s, (i, b) :: u => match s.put1 i b with
    | some s' => EM.puts s' u
    | none => none

def Res.get? : Res → Option (AV × List (Nat × Option Blk))
  | @Res.val pre _ v u => if pre then some (v, u) else none
  | .ite b x y => match b with
    | true => x.get?
    | false => y.get?
  | _ => none

/-- A depth for a frame. -/
def depthFor : Nat → Nat → Nat
  | 0, _ => 0
  | k + 1, n => match Nat.beq n 0 with
    | true => 0
    | false => depthFor k (n / 2) + 1

noncomputable def evF (fr : Tr) : Operand → AV
  | .tmp t => fr.getF t
  | .const v => (ofV v).getD undefA
  | .global g => .ptr g 0
  | .func f => .func f []
theorem evF_eq (fr : Tr) : evF fr = ev fr := by funext x; cases x <;> simp only [evF, ev, Tr.getF_eq]

/-- A function, or a round of a loop. -/
abbrev CallF := Sum FuncId Nat → List AV → EM → Option (AV × EM)

/-- One operation. -/
noncomputable def eop (P : Program) (call : CallF) (fr : Tr) (e : EM) (o : Op) : Option (AV × EM) :=
  match aopF P (evF fr) e.m e.nb o with
  | .call f args => call (.inl f) args e
  | .yld nm args => call (.inr nm) args e
  | r => match r.get? with
    | some (v, u) => match e.puts u with
      | some e' => some (v, e')
      | none => none
    | none => none

noncomputable def want (full : Array Oper) (fr : Tr) (o : Oper) : Option Bool :=
  match o.guard with
  | none => some true
  | some (j, w) => match gslot full j with
    | some t => match fr.getF t with
      | .bool b => some (b == w)
      | .tuple [] => some false
      | _ => none
    | none => none

noncomputable def putF (fr : Tr) (d : Option Tmp) (v : AV) : Tr :=
  match d with
  | some t => tightA v fun v => fr.putF t v
  | none => fr
theorem putF_eq (fr : Tr) (d : Option Tmp) (v : AV) : putF fr d v = putD fr d v := by cases d <;> simp only [putF, putD, tightA_eq, Tr.putF_eq]

noncomputable def eops (P : Program) (call : CallF) (full : Array Oper) : List Oper → ES → Option ES
  | [], s => some s
  | o :: l, s => match want full s.fr o with
    | some true => match eop P call s.fr s.e o.op with
      | some (v, e) => eops P call full l ⟨putF s.fr o.dst v, e⟩
      | none => none
    | some false => eops P call full l ⟨putF s.fr o.dst undefA, s.e⟩
    | none => none

/-! ### Regions that draw their order -/
mutual
def AV.names : AV → List Nat
  | .ptr nm _ => [nm]
  | .eptr nm _ _ _ => [nm]
  | .slice nm _ => [nm]
  | .sub nm _ _ _ => [nm]
  | .func _ caps => AV.namesL caps
  | .mfunc _ v => AV.names v
  | .yield nm => [nm]
  | .iface _ v => AV.names v
  | .agg l => AV.namesL l
  | .tuple l => AV.namesL l
  | .map nm => [nm]
  | _ => []
def AV.namesL : List AV → List Nat
  | [] => []
  | v :: l => AV.names v ++ AV.namesL l
end
def Cont.names : Cont → List Nat
  | .fin l => AV.namesL l
  | .arr _ L => L.flatMap AV.namesL
  | .loop fr _ _ _ _ => AV.namesL fr
/-- What can be reached. -/
noncomputable def reach (t : MT) : Nat → List Nat → List Nat → List Nat
  | 0, _, seen => seen
  | _ + 1, [], seen => seen
  | k + 1, i :: todo, seen => match hasN seen i with
    | true => reach t k todo seen
    | false => match t.get i with
      | some b => reach t k (b.c.names ++ todo) (i :: seen)
      | none => reach t k todo (i :: seen)
noncomputable def restrict (t : MT) : List Nat → MT → MT
  | [], r => r
  | i :: l, r => restrict t l (r.put i (t.get i))

/-- One operation, as the regions that draw their order are checked. 'reads': none: all of memory. -/
structure DR where
  i : Nat
  reads : Option (List Nat)
  ws : List Nat

def tmpOf : Operand → List Tmp
  | .tmp t => [t]
  | _ => []
def slotsOf (full : Array Oper) (o : Oper) : List Tmp :=
  o.op.operands.toList.flatMap tmpOf ++ (match o.guard with
    | some (j, _) => match gslot full j with
      | some t => [t]
      | none => []
    | none => [])

/-- The edges' closure, as bits. -/
def maskOf (ms : List Nat) (o : Oper) : Nat := o.after.toList.foldl (fun acc e => if Region.binds .any e then acc ||| (1 <<< e.on) ||| ms.getD e.on 0 else acc) 0
def masks : List Oper → List Nat → List Nat
  | [], ms => ms
  | o :: l, ms => masks l (ms ++ [maskOf ms o])

def allocOp : Op → Bool
  | .alloc _ | .box .. | .buildSlice .. | .makeSlice .. => true
  | _ => false
/-- Bound to every operation that looks at memory. -/
def solo (ms : List Nat) (full : List Oper) (i : Nat) : Bool :=
  (full.zipIdx.all fun p => p.2 == i || (silentOp p.1.op && !allocOp p.1.op) || (ms.getD i 0).testBit p.2 || (ms.getD p.2 0).testBit i)

/-- What a call has laid and changed. -/
noncomputable def diffOf (nb : Nat) (e1 : EM) : List (Nat × Option Blk) := (e1.ws.filter (fun i => Nat.blt i nb) ++ List.range' nb (Nat.sub e1.nb nb)).map fun i => (i, e1.t.get i)
noncomputable def edraw1 (P : Program) (call : CallF) (alone : Bool) (s : ES) (o : Op) : Option (AV × EM × Option (List Nat) × List Nat) :=
  match aopF P (evF s.fr) s.e.m s.e.nb o with
  | .call f args =>
    match alone with
    | true => (match call (.inl f) args ⟨s.e.t, s.e.nb, s.e.nb, []⟩ with
      | some (v, e1) => some (v, ⟨e1.t, Nat.succ e1.nb, s.e.fl, (e1.ws.filter (fun i => Nat.blt i s.e.fl)).foldl wrote s.e.ws⟩, none, (diffOf s.e.nb e1).map (·.1))
      | none => none)
    | false =>
      match call (.inl f) args ⟨restrict s.e.t (reach s.e.t 4000 (AV.namesL args) []) MT.empty, s.e.nb, s.e.nb, []⟩ with
      | some (v, e1) =>
        match s.e.puts (diffOf s.e.nb e1) with
        | some e' => match Nat.beq e'.nb e1.nb with
          | true => some (v, ⟨e'.t, Nat.succ e'.nb, e'.fl, e'.ws⟩, some (reach s.e.t 4000 (AV.namesL args) []), (diffOf s.e.nb e1).map (·.1))
          | false => none
        | none => none
      | none => none
  | r =>
    match r.get? with
    | some (v, u) => match s.e.puts u with
      | some e' => some (v, ⟨e'.t, (match Nat.beq e'.nb s.e.nb with
        | true => Nat.succ s.e.nb
        | false => e'.nb), e'.fl, e'.ws⟩, some (match silentOp o with
        | true => []
        | false => foot (evF s.fr) o), u.map (·.1))
      | none => none
    | none => none

noncomputable def edraw (P : Program) (call : CallF) (full : Array Oper) (ms : List Nat) : List Oper → Nat → ES → List DR → Option (ES × List DR)
  | [], _, s, rs => some (s, rs)
  | o :: l, i, s, rs => match want full s.fr o with
    | some true => match edraw1 P call (solo ms full.toList i) s o.op with
      | some (v, e, F, ws) => edraw P call full ms l (i + 1) ⟨putF s.fr o.dst v, e⟩ (⟨i, F, ws⟩ :: rs)
      | none => none
    | some false => edraw P call full ms l (i + 1) ⟨putF s.fr o.dst undefA, s.e⟩ (⟨i, some [], []⟩ :: rs)
    | none => none

noncomputable def noneOf (F : Option (List Nat)) (ws : List Nat) : Bool := match F with
  | some F => ws.all fun n => !hasN F n
  | none => ws.isEmpty
def befM (ms : List Nat) (j i : Nat) : Bool := (ms.getD i 0).testBit j
/-- What hangs on the code alone: edges go back; operations that are not bound share no slot. -/
def slotsApart (full : Array Oper) (o q : Oper) : Bool :=
  (match o.dst with | some d => !(slotsOf full q).contains d && q.dst != some d | none => true) && (match q.dst with | some d => !(slotsOf full o).contains d | none => true)
def bitsOf (l : List Nat) : Nat := l.foldl (fun acc t => acc ||| (1 <<< t)) 0
def slotMask (full : Array Oper) (o : Oper) : Nat := bitsOf (slotsOf full o)
def dstMask (o : Oper) : Nat := match o.dst with
  | some d => 1 <<< d
  | none => 0
def rowOk (m S D : Nat) : List (Nat × Nat) → Nat → Bool
  | [], _ => true
  | p :: l, j => (m.testBit j || (Nat.beq (Nat.land p.2 (Nat.lor S D)) 0 && Nat.beq (Nat.land D p.1) 0)) && rowOk m S D l (Nat.succ j)
def statGo (full : Array Oper) : List Oper → List Nat → List (Nat × Nat) → Nat → Bool
  | [], _, _, _ => true
  | o :: l, m :: ms, prior, i => Nat.blt m (Nat.shiftLeft 1 i) && rowOk m (slotMask full o) (dstMask o) prior 0 && statGo full l ms (prior ++ [(slotMask full o, dstMask o)]) (Nat.succ i)
  | _ :: _, [], _, _ => false
def static (ops : Array Oper) (ms : List Nat) : Bool := statGo ops ops.toList ms [] 0
def quietR (r : DR) : Bool := match r.reads with
  | some [] => r.ws.isEmpty
  | _ => false
/-- What hangs on memory: who writes against all others. -/
noncomputable def memApart (ms : List Nat) (rs : List DR) : Bool :=
  rs.all fun w => w.ws.isEmpty || rs.all fun r => quietR r || Nat.beq r.i w.i || befM ms r.i w.i || befM ms w.i r.i || (noneOf r.reads w.ws && r.ws.all fun n => !hasN w.ws n)

/-- Operations that write nothing and call nothing. -/
def calmOp : Op → Bool
  | .move _ | .assign _ | .pick .. | .build .. | .binOp .. | .unOp .. | .extract .. | .field .. | .fieldAddr .. | .indexAddr .. | .index .. | .nilCheck _ | .load .. => true
  | .call c => match c.callee with
    | .builtin .len | .builtin .min | .builtin .max => true
    | _ => false
  | _ => false
def calm (ops : Array Oper) : Bool := ops.toList.all fun o => calmOp o.op
noncomputable def region (P : Program) (call : CallF) (ops : Array Oper) (any : Bool) (s : ES) : Option ES :=
  match any with
  | false => eops P call ops ops.toList s
  | true => match static ops (masks ops.toList []) with
    | true => match calm ops with
     | true => eops P call ops ops.toList s
     | false => match edraw P call ops (masks ops.toList []) ops.toList 0 s [] with
      | some (s', rs) => match memApart (masks ops.toList []) rs with
        | true => some s'
        | false => none
      | none => none
    | false => none

def jumpOf : Exit → Option (Option Code)
  | .normal => some none
  | .exit id => some (some (.exit id))
  | .ret => some (some .ret)
  | _ => none
def exitOf : Option Code → Option Exit
  | none => some .normal
  | some (.exit id) => some (.exit id)
  | some .ret => some .ret
  | _ => none

noncomputable def rangeF (call : CallF) (N : Nat) (s : ES) (g : AV) (ps : List Tmp) (asg bd : Code) : Option (Exit × ES) := match g with
  | .func f caps => match s.e.put1 s.e.nb (some ⟨true, .loop ((List.range N).map s.fr.getF) ps asg bd none⟩) with
    | some e1 => match call (.inl f) (.yield s.e.nb :: caps) e1 with
      | some (_, e2) => match e2.t.get s.e.nb with
        | some ⟨true, .loop _ _ _ _ pend⟩ => match e2.put1 s.e.nb none, exitOf pend with
          | some e3, some ex => some (ex, ⟨s.fr, e3⟩)
          | _, _ => none
        | _ => none
      | none => none
    | none => none
  | _ => none

noncomputable def exec (P : Program) (call : CallF) (top : Bool) (N : Nat) : Nat → Code → ES → Option (Exit × ES)
  | 0, _, _ => none
  | n + 1, c, s => match c with
    | .skip => some (.normal, s)
    | .region _ ops any => match region P call ops any s with
      | some s' => some (.normal, s')
      | none => none
    | .seq a b => match exec P call top N n a s with
      | some (.normal, s') => exec P call top N n b s'
      | r => r
    | .cond c x y => match evF s.fr c with
      | .bool true => exec P call top N n x s
      | .bool false => exec P call top N n y s
      | _ => none
    | .block id c => match exec P call top N n c s with
      | some (.exit id', s') => match Nat.beq id' id with
        | true => some (.normal, s')
        | false => some (.exit id', s')
      | r => r
    | .exit id => some (.exit id, s)
    | .ret => some (.ret, s)
    | .loop c => match exec P call top N n c s with
      | some (.normal, s') => exec P call top N n (.loop c) s'
      | r => r
    | .rangeFunc g ps asg bd => match top with
      | true => rangeF call N s (evF s.fr g) ps.toList asg bd
      | false => none
    | _ => none

/-- No function is the one that the machine answers by itself. -/
def noNum (P : Program) : Bool := P.funcs.all fun fn => !(fn.name == "runtime.NumGoroutine")
def fnd (P : Program) (f : FuncId) : Option (Func × Code) :=
  match P.funcs[f]? with
  | some fn => match fn.body with
    | some c => some (fn, c)
    | none => none
  | none => none

noncomputable def putAllF : Tr → Nat → List AV → Tr
  | t, _, [] => t
  | t, i, v :: vs => putAllF (t.putF i v) (Nat.succ i) vs
noncomputable def putPsF : Tr → List Tmp → List AV → Tr
  | t, p :: ps, v :: vs => putPsF (t.putF p v) ps vs
  | t, _, _ => t

noncomputable def ecallF (P : Program) (call : CallF) (k : Nat) (fn : Func) (c : Code) (args : List AV) (e : EM) : Option (AV × EM) :=
  match fnOk P fn.ntmps (depthFor 12 fn.ntmps) args.length c fn.results.toList with
  | true => match exec P call true fn.ntmps k c ⟨putAllF (Tr.full (depthFor 12 fn.ntmps)) 0 args, e⟩ with
    | some (.normal, s) | some (.ret, s) => match resAll P ⟨s.fr, s.e.m⟩ fn.results.toList with
      | some vs => some (oneOf vs, s.e)
      | none => none
    | _ => none
  | false => none
def roundOk (P : Program) (N d : Nat) (ps : List Tmp) (asg bd : Code) : Bool := fits P N asg && fits P N bd && memAll (Tr.full d) N && ps.all fun t => Nat.blt t N
noncomputable def ecallR (P : Program) (call : CallF) (k : Nat) (nm : Nat) (args : List AV) (e : EM) (fr : List AV) (ps : List Tmp) (asg bd : Code) : Option (AV × EM) :=
  tightN fr.length fun N => match roundOk P N (depthFor 12 N) ps asg bd && Nat.beq args.length ps.length with
  | true => match e.put1 nm none with
    | some e1 => match exec P call false N k asg ⟨putPsF (putAllF (Tr.full (depthFor 12 N)) 0 fr) ps args, e1⟩ with
      | some (.normal, s1) => match exec P call false N k bd s1 with
        | some (x, s2) => match jumpOf x with
          | some j => match s2.e.put1 nm (some ⟨true, .loop fr ps asg bd j⟩) with
            | some e2 => some (.bool j.isNone, e2)
            | none => none
          | none => none
        | none => none
      | _ => none
    | none => none
  | false => none
noncomputable def ecall (P : Program) (k : Nat) : Nat → CallF
  | 0, _, _, _ => none
  | n + 1, .inl f, args, e => match fnd P f with
    | some (fn, c) => ecallF P (ecall P k n) k fn c args e
    | none => none
  | n + 1, .inr nm, args, e => match e.t.get nm with
    | some ⟨true, .loop fr ps asg bd none⟩ => ecallR P (ecall P k n) k nm args e fr ps asg bd
    | _ => none
end Go.Fw
