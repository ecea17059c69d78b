/- The kernel's machine, quick: code turned into closures once, frames of eights. -/
import Derived.Test.YtbndodeihodjfaaGreatFwExecDef
namespace Go.Fw
set_option linter.unusedVariables false

abbrev Fr8 := N8 (N8 (N8 AV))
noncomputable def cG (t : Nat) : Bx (Fr8 → AV) := sh3.get t
noncomputable def cP (t : Nat) : Bx (Fr8 → AV → Fr8) := (sh3.upd t).bind fun u => .mk fun fr v => u fr fun _ => v
noncomputable def Fr8.get (fr : Fr8) (t : Nat) : AV := (cG t).un fr
noncomputable def Fr8.put (fr : Fr8) (t : Nat) (v : AV) : Fr8 := (cP t).un fr v
noncomputable def Fr8.putD (fr : Fr8) (d : Option Tmp) (v : AV) : Fr8 := match d with
  | some t => fr.put t v
  | none => fr
noncomputable def Fr8.empty : Fr8 := N8.all (N8.all (N8.all undefA))
noncomputable def evK (fr : Fr8) : Operand → AV
  | .tmp t => fr.get t
  | .const v => (ofV v).getD undefA
  | .global g => .ptr g 0
  | .func f => .func f []
noncomputable def cEv : Operand → Bx (Fr8 → AV)
  | .tmp t => cG t
  | .const v => Bx.to (match ofV v with
    | some x => tightA x fun x => Bx.mk x
    | none => .mk undefA) (fun x => .mk fun _ => x)
  | .global g => .mk fun _ => .ptr g 0
  | .func f => .mk fun _ => .func f []

/-! ### Values, seen -/
noncomputable def AV.toI (v : AV) : Option (IntKind × Int) := match v with
  | .int k n => some (k, n)
  | _ => none
noncomputable def AV.toB (v : AV) : Option Bool := match v with
  | .bool b => some b
  | _ => none
inductive PK where
  | no
  | ptr (nm o : Nat)
  | eptr (nm sz i k : Nat)
noncomputable def AV.toP (v : AV) : PK := match v with
  | .ptr nm o => .ptr nm o
  | .eptr nm sz i k => .eptr nm sz i k
  | _ => .no
inductive SK where
  | no
  | slice (nm len : Nat)
  | sub (nm sz lo len : Nat)
  | nil
  | str (s : ByteArray)
noncomputable def AV.toS (v : AV) : SK := match v with
  | .slice nm len => .slice nm len
  | .sub nm sz lo len => .sub nm sz lo len
  | .nilSlice => .nil
  | .str s => .str s
  | _ => .no
noncomputable def AV.toL (v : AV) : Option (List AV) := match v with
  | .agg l => some l
  | _ => none
noncomputable def AV.toT (v : AV) : Option (List AV) := match v with
  | .tuple l => some l
  | _ => none
noncomputable def ikN (k : IntKind) : Nat := match k with
  | .i8 => 0 | .i16 => 1 | .i32 => 2 | .i64 => 3 | .u8 => 4 | .u16 => 5 | .u32 => 6 | .u64 => 7
noncomputable def ikEq (k k' : IntKind) : Bool := match Nat.beq (ikN k) (ikN k') with
  | true => Nat.blt (ikN k) 8
  | false => false

/-! ### Numbers -/
noncomputable def limP (k : IntKind) : Nat := match k with
  | .i8 => 128 | .i16 => 32768 | .i32 => 2147483648 | .i64 => 9223372036854775808 | .u8 => 256 | .u16 => 65536 | .u32 => 4294967296 | .u64 => 18446744073709551616
noncomputable def limN (k : IntKind) : Nat := match k with
  | .i8 => 128 | .i16 => 32768 | .i32 => 2147483648 | .i64 => 9223372036854775808
  | _ => 0
noncomputable def wrapF (k : IntKind) (n : Int) : Int := match n with
  | .ofNat m => match Nat.blt m (limP k) with
    | true => .ofNat m
    | false => k.wrap (.ofNat m)
  | .negSucc m => match Nat.blt m (limN k) with
    | true => .negSucc m
    | false => k.wrap (.negSucc m)
noncomputable def iLt (a b : Int) : Bool := match a with
  | .ofNat m => (match b with
    | .ofNat n => Nat.blt m n
    | .negSucc _ => false)
  | .negSucc m => (match b with
    | .ofNat _ => true
    | .negSucc n => Nat.blt n m)
noncomputable def iEq (a b : Int) : Bool := match a with
  | .ofNat m => (match b with
    | .ofNat n => Nat.beq m n
    | .negSucc _ => false)
  | .negSucc m => (match b with
    | .ofNat _ => false
    | .negSucc n => Nat.beq n m)
noncomputable def slowB (P : Program) (op : BinOp) (t : TypeId) (x y : AV) : Option AV := match (abin P op t x y).get? with
  | some (v, []) => tightA v some
  | _ => none
noncomputable def int2 (P : Program) (op : BinOp) (t : TypeId) (f : IntKind → Int → Int → Option AV) (x y : AV) : Option AV :=
  match x.toI with
  | some (k, a) => (match y.toI with
    | some (k', b) => (match ikEq k k' with
      | true => f k a b
      | false => slowB P op t x y)
    | none => slowB P op t x y)
  | none => slowB P op t x y
noncomputable def AV.isNil (v : AV) : Bool := match v with
  | .nil => true
  | _ => false
/-- A pointer against nil. -/
noncomputable def nilB (P : Program) (op : BinOp) (t : TypeId) (same differ : AV) (x y : AV) : Option AV := match y.isNil with
  | true => (match x.toP with
    | .no => (match x.isNil with
      | true => some same
      | false => slowB P op t x y)
    | .ptr _ _ => some differ
    | .eptr _ _ _ _ => some differ)
  | false => slowB P op t x y
noncomputable def isPtr (P : Program) (t : TypeId) : Bool := match TY P t with
  | some ⟨_, _, _, _, .ptr⟩ => true
  | _ => false
noncomputable def remK (P : Program) (t : TypeId) (k : IntKind) (a b : Int) : Option AV := match a with
  | .ofNat m => (match b with
    | .ofNat n => (match Nat.beq n 0 with
      | true => none
      | false => tightN (Nat.mod m n) fun r => some (.int k (.ofNat r)))
    | b => slowB P .rem t (.int k (.ofNat m)) (.int k b))
  | a => slowB P .rem t (.int k a) (.int k b)
noncomputable def binK (P : Program) (op : BinOp) (t : TypeId) : Bx (AV → AV → Option AV) := match op with
  | .add => .mk (int2 P .add t fun k a b => tightI (wrapF k (Int.add a b)) fun n => some (.int k n))
  | .sub => .mk (int2 P .sub t fun k a b => tightI (wrapF k (Int.sub a b)) fun n => some (.int k n))
  | .mul => .mk (int2 P .mul t fun k a b => tightI (wrapF k (Int.mul a b)) fun n => some (.int k n))
  | .lss => .mk (int2 P .lss t fun k a b => match iLt a b with | true => some (.bool true) | false => some (.bool false))
  | .gtr => .mk (int2 P .gtr t fun k a b => match iLt b a with | true => some (.bool true) | false => some (.bool false))
  | .leq => .mk (int2 P .leq t fun k a b => match iLt b a with | true => some (.bool false) | false => some (.bool true))
  | .geq => .mk (int2 P .geq t fun k a b => match iLt a b with | true => some (.bool false) | false => some (.bool true))
  | .rem => .mk (int2 P .rem t fun k a b => remK P t k a b)
  | .eql => match isPtr P t with
    | true => .mk (nilB P .eql t (.bool true) (.bool false))
    | false => .mk (int2 P .eql t fun k a b => match iEq a b with | true => some (.bool true) | false => some (.bool false))
  | .neq => match isPtr P t with
    | true => .mk (nilB P .neq t (.bool false) (.bool true))
    | false => .mk (int2 P .neq t fun k a b => match iEq a b with | true => some (.bool false) | false => some (.bool true))
  | op => .mk (slowB P op t)

/-! ### Lists -/
noncomputable def nthF (l : List AV) (o : Nat) : Option AV := List.rec (motive := fun _ => Nat → Option AV) (fun _ => none) (fun a _ ih o => Nat.rec (motive := fun _ => Option AV) (some a) (fun o _ => ih o) o) l o
noncomputable def takeF (l : List AV) (s : Nat) : Option (List AV) := List.rec (motive := fun _ => Nat → (List AV → Option (List AV)) → Option (List AV)) (fun s k => Nat.rec (motive := fun _ => Option (List AV)) (k []) (fun _ _ => none) s)
  (fun a _ ih s k => Nat.rec (motive := fun _ => Option (List AV)) (k []) (fun s _ => ih s fun r => k (a :: r)) s) l s some
noncomputable def dropF (l : List AV) (o : Nat) : List AV := Nat.rec (motive := fun _ => List AV → List AV) (fun l => l) (fun _ ih l => List.rec (motive := fun _ => List AV) [] (fun _ t _ => ih t) l) o l
noncomputable def setF (l : List AV) (o : Nat) (v : AV) : Option (List AV) := List.rec (motive := fun _ => Nat → (List AV → Option (List AV)) → Option (List AV)) (fun _ _ => none)
  (fun a t ih o k => Nat.rec (motive := fun _ => Option (List AV)) (k (v :: t)) (fun o _ => ih o fun r => k (a :: r)) o) l o some
noncomputable def rowF (L : List (List AV)) (o : Nat) : Option (List AV) := List.rec (motive := fun _ => Nat → Option (List AV)) (fun _ => none) (fun a _ ih o => Nat.rec (motive := fun _ => Option (List AV)) (some a) (fun o _ => ih o) o) L o

/-! ### Operations -/
inductive CO where
  | val (f : Fr8 → AV)
  | opt (f : Fr8 → Option AV)
  | mem (f : CallF → Fr8 → EM → Option (AV × EM))

/-- One operation, by whatever values its operands have. -/
noncomputable def eopE (P : Program) (call : CallF) (evf : Operand → AV) (e : EM) (o : Op) : Option (AV × EM) :=
  match aopF P evf e.m e.nb o with
  | .call f args => call (.inl f) args e
  | .yld nm args => call (.inr nm) args e
  | r => match r.get? with
    | some (v, u) => match e.puts u with
      | some e' => some (v, e')
      | none => none
    | none => none
noncomputable def slowM (P : Program) (o : Op) : CO := .mem fun call fr e => eopE P call (evK fr) e o

noncomputable def load1 (a : AV) (e : EM) : Option (AV × EM) := match a.toP with
  | .ptr nm o => match e.t.get nm with
    | some ⟨_, .fin l⟩ => match nthF l o with
      | some v => some (v, e)
      | none => none
    | _ => none
  | .eptr nm sz i k => match e.t.get nm with
    | some ⟨_, .arr sz' L⟩ => match Nat.beq sz sz' with
      | true => match rowF L i with
        | some cs => match Nat.blt k sz with
          | true => match nthF cs k with
            | some v => some (v, e)
            | none => none
          | false => none
        | none => none
      | false => none
    | _ => none
  | .no => none
noncomputable def loadA (s : Nat) (a : AV) (e : EM) : Option (AV × EM) := match a.toP with
  | .ptr nm o => match e.t.get nm with
    | some ⟨_, .fin l⟩ => match takeF (dropF l o) s with
      | some cs => some (.agg cs, e)
      | none => none
    | _ => none
  | .eptr nm sz i k => match e.t.get nm with
    | some ⟨_, .arr sz' L⟩ => match Nat.beq sz sz' with
      | true => match rowF L i with
        | some cs => match Nat.ble (Nat.add k s) sz with
          | true => match takeF (dropF cs k) s with
            | some cs => some (.agg cs, e)
            | none => none
          | false => none
        | none => none
      | false => none
    | _ => none
  | .no => none
noncomputable def cLoad (P : Program) (t : TypeId) (x : Operand) : CO := match TY P t with
  | some T => Bx.to (cEv x) (fun g => match T.agg with
    | true => match Nat.blt 0 T.size with
      | true => .mem fun _ fr e => loadA T.size (g fr) e
      | false => slowM P (.load t x)
    | false => match Nat.beq T.size 1 with
      | true => .mem fun _ fr e => load1 (g fr) e
      | false => slowM P (.load t x))
  | none => slowM P (.load t x)
/-- A cell of a variable. -/
noncomputable def store1 (P : Program) (o : Op) (a v : AV) (call : CallF) (fr : Fr8) (e : EM) : Option (AV × EM) := match v.one with
  | true => match a.toP with
    | .ptr nm o => match e.t.get nm with
      | some ⟨true, .fin l⟩ => match setF l o v with
        | some l' => match e.put1 nm (some ⟨true, .fin l'⟩) with
          | some e' => some (undefA, e')
          | none => none
        | none => none
      | _ => none
    | _ => eopE P call (evK fr) e o
  | false => eopE P call (evK fr) e o
noncomputable def cStore (P : Program) (t : TypeId) (x y : Operand) : CO := match TY P t with
  | some T => match Nat.beq T.size 1 with
    | true => Bx.to (cEv x) (fun g => Bx.to (cEv y) (fun h => .mem fun call fr e => store1 P (.store t x y) (g fr) (h fr) call fr e))
    | false => slowM P (.store t x y)
  | none => slowM P (.store t x y)
noncomputable def addrK (off : Nat) (a : AV) : Option AV := match a.toP with
  | .ptr nm o => tightN (Nat.add o off) fun o => some (.ptr nm o)
  | .eptr nm sz i k => tightN (Nat.add k off) fun k => some (.eptr nm sz i k)
  | .no => none
noncomputable def slowO (P : Program) (o : Op) (evf : Operand → AV) : Option AV := match (aopF P evf ⟨fun _ => none, 0, []⟩ 0 o).get? with
  | some (v, []) => tightA v some
  | _ => none
noncomputable def cFieldAddr (P : Program) (t : TypeId) (x : Operand) (f : Nat) : CO := match TY P t with
  | some ⟨_, _, _, _, .struct fs⟩ => match fs[f]? with
    | some (off, size, _) => match Nat.beq size 0 with
      | true => slowM P (.fieldAddr t x f)
      | false => Bx.to (cEv x) (fun g => .opt fun fr => addrK off (g fr))
    | none => slowM P (.fieldAddr t x f)
  | _ => slowM P (.fieldAddr t x f)
noncomputable def idxK (sz : Nat) (x i : AV) : Option AV := match i.toI with
  | some (_, .ofNat n) => match x.toS with
    | .slice nm len => match Nat.blt n len with
      | true => tightN n fun n => some (.eptr nm sz n 0)
      | false => none
    | .sub nm sz' lo len => match Nat.beq sz' sz with
      | true => match Nat.blt n len with
        | true => tightN (Nat.add lo n) fun n => some (.eptr nm sz n 0)
        | false => none
      | false => none
    | _ => none
  | _ => none
noncomputable def cIndexAddr (P : Program) (t : TypeId) (x i : Operand) : CO := match TY P t with
  | some ⟨_, _, _, _, .slice e⟩ => match TY P e with
    | some E => Bx.to (cEv x) (fun g => Bx.to (cEv i) (fun h => tightN E.size fun sz => .opt fun fr => idxK sz (g fr) (h fr)))
    | none => slowM P (.indexAddr t x i)
  | _ => .opt fun fr => slowO P (.indexAddr t x i) (evK fr)
noncomputable def notK (a : AV) : Option AV := match a.toB with
  | some true => some (.bool false)
  | some false => some (.bool true)
  | none => none
noncomputable def nthT (l : Option (List AV)) (i : Nat) : Option AV := match l with
  | some l => nthF l i
  | none => none
noncomputable def nilK (P : Program) (o : Op) (x : AV) (fr : Fr8) : Option AV := match x.toP with
  | .ptr nm o => some (.ptr nm o)
  | .eptr nm sz i k => some (.eptr nm sz i k)
  | .no => slowO P o (evK fr)
noncomputable def pickK (c a b : AV) : Option AV := match c.toB with
  | some true => some a
  | some false => some b
  | none => none
noncomputable def lenS (o : Op) (P : Program) (x : AV) (fr : Fr8) : Option AV := match x.toS with
  | .slice _ n => tightN n fun n => some (.int .i64 (.ofNat n))
  | .sub _ _ _ n => tightN n fun n => some (.int .i64 (.ofNat n))
  | .nil => some (.int .i64 0)
  | _ => slowO P o (evK fr)
noncomputable def cLen (P : Program) (o : Op) (c : Call) : CO := match c.args.toList, c.argTypes.toList with
  | [x], [t] => match TY P t with
    | some ⟨_, _, _, _, .slice _⟩ => Bx.to (cEv x) (fun g => .opt fun fr => lenS o P (g fr) fr)
    | _ => .opt fun fr => slowO P o (evK fr)
  | _, _ => slowM P o
inductive FK where
  | no
  | fn (f : FuncId) (caps : List AV)
noncomputable def AV.toF (v : AV) : FK := match v with
  | .func f caps => .fn f caps
  | _ => .no
noncomputable def cArgs : List Operand → Bx (Fr8 → (List AV → Option (AV × EM)) → Option (AV × EM))
  | [] => .mk fun _ k => k []
  | x :: l => Bx.to (cEv x) (fun g => Bx.to (cArgs l) (fun h => .mk fun fr k => h fr fun r => k (g fr :: r)))
noncomputable def cCall (P : Program) (c : Call) : CO := match c.callee with
  | .builtin b => (match b with
    | .len => cLen P (.call c) c
    | _ => slowM P (.call c))
  | .value x => Bx.to (cArgs c.args.toList) (fun a => match x with
    | .func f => .mem fun call fr e => a fr fun r => call (.inl f) r e
    | x => Bx.to (cEv x) (fun g => .mem fun call fr e => match (g fr).toF with
      | .fn f caps => a fr fun r => call (.inl f) (r ++ caps) e
      | .no => eopE P call (evK fr) e (.call c)))
  | _ => slowM P (.call c)
noncomputable def cOp (P : Program) (o : Op) : CO := match o with
  | .move x => Bx.to (cEv x) (fun g => .val g)
  | .assign x => Bx.to (cEv x) (fun g => .val g)
  | .binOp op t x y yt => Bx.to (cEv x) (fun g => Bx.to (cEv y) (fun h => Bx.to (binK P op t) (fun b => .opt fun fr => b (g fr) (h fr))))
  | .load t a => cLoad P t a
  | .store t a x => cStore P t a x
  | .fieldAddr t x f => cFieldAddr P t x f
  | .indexAddr t x i => cIndexAddr P t x i
  | .extract x i => Bx.to (cEv x) (fun g => .opt fun fr => nthT (g fr).toT i)
  | .unOp op t x => match op with
    | .not => Bx.to (cEv x) (fun g => .opt fun fr => notK (g fr))
    | op => .opt fun fr => slowO P (.unOp op t x) (evK fr)
  | .nilCheck x => Bx.to (cEv x) (fun g => .opt fun fr => nilK P (.nilCheck x) (g fr) fr)
  | .pick c a b => Bx.to (cEv c) (fun g => Bx.to (cEv a) (fun h => Bx.to (cEv b) (fun i => .opt fun fr => pickK (g fr) (h fr) (i fr))))
  | .call c => cCall P c
  | o => slowM P o

noncomputable def CO.run (c : CO) (call : CallF) (fr : Fr8) (e : EM) : Option (AV × EM) := match c with
  | .val f => some (f fr, e)
  | .opt f => match f fr with
    | some v => some (v, e)
    | none => none
  | .mem f => f call fr e

/-! ### Regions in text order -/
inductive RS where
  | stuck
  | ok (fr : Fr8) (e : EM)
noncomputable def wantK (full : Array Oper) (fr : Fr8) (o : Oper) : Option Bool :=
  match o.guard with
  | none => some true
  | some (j, w) => match gslot full j with
    | some t => match fr.get t with
      | .bool b => some (b == w)
      | .tuple [] => some false
      | _ => none
    | none => none
noncomputable def wantB (w : Bool) (v : AV) : Option Bool := match v.toB with
  | some b => (match w with
    | true => (match b with | true => some true | false => some false)
    | false => (match b with | true => some false | false => some true))
  | none => match v.toT with
    | some [] => some false
    | _ => none
noncomputable def cPutD (d : Option Tmp) : Bx (Fr8 → AV → Fr8) := match d with
  | some t => cP t
  | none => .mk fun fr _ => fr
noncomputable def cOps (P : Program) (full : Array Oper) : List Oper → Bx (CallF → Fr8 → EM → RS)
  | [] => .mk fun _ fr e => .ok fr e
  | o :: l => Bx.to (cOps P full l) (fun rest => Bx.to (cPutD o.dst) (fun put => match o.guard with
    | none => (match cOp P o.op with
      | .val f => .mk fun call fr e => rest call (put fr (f fr)) e
      | .opt f => .mk fun call fr e => match f fr with
        | some v => rest call (put fr v) e
        | none => .stuck
      | .mem f => .mk fun call fr e => match f call fr e with
        | some (v, e') => rest call (put fr v) e'
        | none => .stuck)
    | some (j, w) => match gslot full j with
      | none => .mk fun _ _ _ => .stuck
      | some t => Bx.to (cG t) (fun g => match cOp P o.op with
        | .val f => .mk fun call fr e => match wantB w (g fr) with
          | some true => rest call (put fr (f fr)) e
          | some false => rest call (put fr undefA) e
          | none => .stuck
        | .opt f => .mk fun call fr e => match wantB w (g fr) with
          | some true => (match f fr with
            | some v => rest call (put fr v) e
            | none => .stuck)
          | some false => rest call (put fr undefA) e
          | none => .stuck
        | .mem f => .mk fun call fr e => match wantB w (g fr) with
          | some true => (match f call fr e with
            | some (v, e') => rest call (put fr v) e'
            | none => .stuck)
          | some false => rest call (put fr undefA) e
          | none => .stuck)))

/-! ### Regions that draw their order -/
noncomputable def edraw1E (P : Program) (call : CallF) (alone : Bool) (evf : Operand → AV) (e : EM) (o : Op) : Option (AV × EM × Option (List Nat) × List Nat) :=
  match aopF P evf e.m e.nb o with
  | .call f args =>
    match alone with
    | true => (match call (.inl f) args ⟨e.t, e.nb, e.nb, []⟩ with
      | some (v, e1) => some (v, ⟨e1.t, Nat.succ e1.nb, e.fl, (e1.ws.filter (fun i => Nat.blt i e.fl)).foldl wrote e.ws⟩, none, (diffOf e.nb e1).map (·.1))
      | none => none)
    | false =>
      match call (.inl f) args ⟨restrict e.t (reach e.t 4000 (AV.namesL args) []) MT.empty, e.nb, e.nb, []⟩ with
      | some (v, e1) =>
        match e.puts (diffOf e.nb e1) with
        | some e' => match Nat.beq e'.nb e1.nb with
          | true => some (v, ⟨e'.t, Nat.succ e'.nb, e'.fl, e'.ws⟩, some (reach e.t 4000 (AV.namesL args) []), (diffOf e.nb e1).map (·.1))
          | false => none
        | none => none
      | none => none
  | r =>
    match r.get? with
    | some (v, u) => match e.puts u with
      | some e' => some (v, ⟨e'.t, (match Nat.beq e'.nb e.nb with
        | true => Nat.succ e.nb
        | false => e'.nb), e'.fl, e'.ws⟩, some (match silentOp o with
        | true => []
        | false => foot evf o), u.map (·.1))
      | none => none
    | none => none
noncomputable def edrawK (P : Program) (call : CallF) (full : Array Oper) (ms : List Nat) : List Oper → Nat → Fr8 → EM → List DR → Option (Fr8 × EM × List DR)
  | [], _, fr, e, rs => some (fr, e, rs)
  | o :: l, i, fr, e, rs => match wantK full fr o with
    | some true => match calmOp o.op with
      | true => (match (cOp P o.op).run call fr e with
        | some (v, _) => edrawK P call full ms l (i + 1) (fr.putD o.dst v) ⟨e.t, Nat.succ e.nb, e.fl, e.ws⟩ (⟨i, some (match silentOp o.op with
          | true => []
          | false => foot (evK fr) o.op), []⟩ :: rs)
        | none => none)
      | false => match edraw1E P call (solo ms full.toList i) (evK fr) e o.op with
        | some (v, e', F, ws) => edrawK P call full ms l (i + 1) (tightA v fun v => fr.putD o.dst v) e' (⟨i, F, ws⟩ :: rs)
        | none => none
    | some false => edrawK P call full ms l (i + 1) (fr.putD o.dst undefA) e (⟨i, some [], []⟩ :: rs)
    | none => none
noncomputable def drawK (P : Program) (ops : Array Oper) (call : CallF) (fr : Fr8) (e : EM) : RS :=
  match static ops (masks ops.toList []) && !calm ops with
    | true => match edrawK P call ops (masks ops.toList []) ops.toList 0 fr e [] with
      | some (fr', e', rs) => match memApart (masks ops.toList []) rs with
        | true => .ok fr' e'
        | false => .stuck
      | none => .stuck
    | false => .stuck

/-! ### Code -/
inductive RE where
  | stuck
  | ok (x : Exit) (fr : Fr8) (e : EM)
noncomputable def loopK (f : Fr8 → EM → RE) (n : Nat) (fr : Fr8) (e : EM) : RE :=
  Nat.rec (motive := fun _ => Fr8 → EM → RE) (fun _ _ => .stuck) (fun _ ih fr e => match f fr e with
    | .ok .normal fr' e' => ih fr' e'
    | r => r) n fr e
noncomputable def rangeK (call : CallF) (N : Nat) (fr : Fr8) (e : EM) (g : AV) (ps : List Tmp) (asg bd : Code) : RE := match g with
  | .func f caps => match e.put1 e.nb (some ⟨true, .loop ((List.range N).map fr.get) ps asg bd none⟩) with
    | some e1 => match call (.inl f) (.yield e.nb :: caps) e1 with
      | some (_, e2) => match e2.t.get e.nb with
        | some ⟨true, .loop _ _ _ _ pend⟩ => match e2.put1 e.nb none, exitOf pend with
          | some e3, some ex => .ok ex fr e3
          | _, _ => .stuck
        | _ => .stuck
      | none => .stuck
    | none => .stuck
  | _ => .stuck
noncomputable def cCode (P : Program) (top : Bool) (N : Nat) : Code → Bx (CallF → Nat → Fr8 → EM → RE)
  | .skip => .mk fun _ _ fr e => .ok .normal fr e
  | .region _ ops any => match any with
    | false => Bx.to (cOps P ops ops.toList) (fun f => .mk fun call _ fr e => match f call fr e with
      | .ok fr' e' => .ok .normal fr' e'
      | .stuck => .stuck)
    | true => match static ops (masks ops.toList []) && calm ops with
      | true => Bx.to (cOps P ops ops.toList) (fun f => .mk fun call _ fr e => match f call fr e with
        | .ok fr' e' => .ok .normal fr' e'
        | .stuck => .stuck)
      | false => .mk fun call _ fr e => match drawK P ops call fr e with
        | .ok fr' e' => .ok .normal fr' e'
        | .stuck => .stuck
  | .seq a b => .mk fun call k fr e => match (cCode P top N a).un call k fr e with
    | .ok .normal fr' e' => (cCode P top N b).un call k fr' e'
    | r => r
  | .cond c x y => Bx.to (cEv c) (fun g => .mk fun call k fr e => match (g fr).toB with
    | some true => (cCode P top N x).un call k fr e
    | some false => (cCode P top N y).un call k fr e
    | none => .stuck)
  | .block id c => .mk fun call k fr e => match (cCode P top N c).un call k fr e with
    | .ok (.exit id') fr' e' => (match Nat.beq id' id with
      | true => .ok .normal fr' e'
      | false => .ok (.exit id') fr' e')
    | r => r
  | .exit id => .mk fun _ _ fr e => .ok (.exit id) fr e
  | .ret => .mk fun _ _ fr e => .ok .ret fr e
  | .loop c => .mk fun call k fr e => loopK ((cCode P top N c).un call k) k fr e
  | .rangeFunc g ps asg bd => match top with
    | true => .mk fun call _ fr e => rangeK call N fr e (evK fr g) ps.toList asg bd
    | false => .mk fun _ _ _ _ => .stuck
  | _ => .mk fun _ _ _ _ => .stuck

noncomputable def putAllK : Fr8 → Nat → List AV → Fr8
  | fr, _, [] => fr
  | fr, i, v :: vs => putAllK (fr.put i v) (Nat.succ i) vs
noncomputable def putPsK : Fr8 → List Tmp → List AV → Fr8
  | fr, p :: ps, v :: vs => putPsK (fr.put p v) ps vs
  | fr, _, _ => fr
noncomputable def resK (P : Program) (fr : Fr8) (e : EM) : List ResultVar → Option (List AV)
  | [] => some []
  | r :: l => match (match r with
      | .tmp t => some (fr.get t)
      | .cell a t => match TY P t with
        | some T => match T.agg with
          | true => (match Nat.blt 0 T.size with
            | true => (match loadA T.size (fr.get a) e with
              | some (v, _) => some v
              | none => none)
            | false => none)
          | false => (match Nat.beq T.size 1 with
            | true => (match load1 (fr.get a) e with
              | some (v, _) => some v
              | none => none)
            | false => none)
        | none => none), resK P fr e l with
    | some v, some vs => some (v :: vs)
    | _, _ => none
noncomputable def kcallF (P : Program) (call : CallF) (k : Nat) (fn : Func) (c : Code) (args : List AV) (e : EM) : Option (AV × EM) :=
  match fnOk P fn.ntmps (depthFor 12 fn.ntmps) args.length c fn.results.toList && Nat.ble fn.ntmps 512 with
  | true => match (cCode P true fn.ntmps c).un call k (putAllK Fr8.empty 0 args) e with
    | .ok .normal fr e' | .ok .ret fr e' => match resK P fr e' fn.results.toList with
      | some vs => some (oneOf vs, e')
      | none => none
    | _ => none
  | false => none
noncomputable def kcallR (P : Program) (call : CallF) (k : Nat) (nm : Nat) (args : List AV) (e : EM) (fr : List AV) (ps : List Tmp) (asg bd : Code) : Option (AV × EM) :=
  tightN fr.length fun N => match roundOk P N (depthFor 12 N) ps asg bd && Nat.beq args.length ps.length && Nat.ble N 512 with
  | true => match e.put1 nm none with
    | some e1 => match (cCode P false N asg).un call k (putPsK (putAllK Fr8.empty 0 fr) ps args) e1 with
      | .ok .normal fr1 e2 => match (cCode P false N bd).un call k fr1 e2 with
        | .ok x _ e3 => match jumpOf x with
          | some j => match e3.put1 nm (some ⟨true, .loop fr ps asg bd j⟩) with
            | some e4 => some (.bool j.isNone, e4)
            | none => none
          | none => none
        | .stuck => none
      | _ => none
    | none => none
  | false => none
noncomputable def kcall (P : Program) (k : Nat) : Nat → CallF
  | 0, _, _, _ => none
  | n + 1, .inl f, args, e => match fnd P f with
    | some (fn, c) => kcallF P (kcall P k n) k fn c args e
    | none => none
  | n + 1, .inr nm, args, e => match e.t.get nm with
    | some ⟨true, .loop fr ps asg bd none⟩ => kcallR P (kcall P k n) k nm args e fr ps asg bd
    | _ => none
end Go.Fw
