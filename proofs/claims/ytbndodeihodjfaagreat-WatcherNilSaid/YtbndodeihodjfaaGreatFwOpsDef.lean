/- The abstract meaning of operations: closed pattern matching, to be evaluated by simp. -/
import Derived.Test.YtbndodeihodjfaaGreatFwBase
namespace Go.Fw
set_option linter.unusedVariables false

/-! ### Types, as far as operations look at them -/
inductive TK where
  | int (k : IntKind)
  | bool
  | str
  | ptr
  | slice (e : TypeId)
  | array (n : Nat) (e : TypeId)
  | struct (fs : List (Nat × Nat × Bool))
  | iface
  | func
  | map
  | other
  deriving Inhabited

structure TyI where
  size : Nat
  bytes : Nat
  agg : Bool
  zero : List AV
  tk : TK
  deriving Inhabited

/-- A value of one cell without addresses. -/
def ofS : Value → Option AV
  | .int k n => some (.int k n)
  | .bool b => some (.bool b)
  | .string s => some (.str s)
  | .pointer none => some .nil
  | .slice none 0 0 => some .nilSlice
  | .nilFunc => some .nilFunc
  | .nilIface => some .nilIface
  | .map none => some .nilMap
  | .func (.func f) ⟨[]⟩ ⟨[]⟩ => some (.func f [])
  | _ => none
def ofSs : List Value → Option (List AV)
  | [] => some []
  | v :: l => match ofS v, ofSs l with
    | some x, some xs => some (x :: xs)
    | _, _ => none
def ofV : Value → Option AV
  | .agg cs => (ofSs cs.toList).map .agg
  | .tuple cs => (ofSs cs.toList).map .tuple
  | v => ofS v

def isA : TypeDesc → Bool
  | .struct _ | .array _ _ => true
  | _ => false
def tagg (P : Program) (t : TypeId) : Bool := match P.underlying t with | some d => isA d | none => false
def tsize (P : Program) (t : TypeId) : Nat := match P.info? t with | some i => i.size | none => 0
def tkOf (P : Program) : TypeDesc → TK
  | .int k => .int k
  | .bool => .bool
  | .string => .str
  | .pointer _ => .ptr
  | .slice e => .slice e
  | .array n e => .array n e
  | .struct fs => .struct (fs.toList.map fun f => (f.offset, tsize P f.type, tagg P f.type))
  | .interface _ => .iface
  | .func .. => .func
  | .map .. => .map
  | _ => .other
def partsOk (P : Program) : TypeDesc → Bool
  | .struct fs => fs.toList.all fun f => (P.info? f.type).isSome && (P.underlying f.type).isSome
  | .array _ e | .slice e => (P.info? e).isSome
  | _ => true
def TY (P : Program) (t : TypeId) : Option TyI :=
  match P.info? t, P.underlying t with
  | some i, some d =>
    match i.zero with
    | some z => match ofSs z.cells.toList with
      | some l => if l.length = i.size ∧ partsOk P d = true then some ⟨i.size, i.bytes, isA d, l, tkOf P d⟩ else none
      | none => none
    | none => none
  | _, _ => none

/-! ### Values -/
def AV.cells : AV → List AV
  | .agg l => l
  | v => [v]
def AV.one : AV → Bool
  | .agg _ | .tuple _ => false
  | _ => true

def ev (fr : Tr) : Operand → AV
  | .tmp t => fr.get t
  | .const v => (ofV v).getD undefA
  | .global g => .ptr g 0
  | .func f => .func f []

/-! ### Memory -/
def Mem.loadN (m : Mem) (a : AV) (s : Nat) : Option (List AV) :=
  match a with
  | .ptr nm o => match m.get nm with
    | some ⟨_, .fin l⟩ => if o + s ≤ l.length then some ((l.drop o).take s) else none
    | _ => none
  | .eptr nm sz i k => match m.get nm with
    | some ⟨_, .arr sz' L⟩ => if sz = sz' ∧ k + s ≤ sz then (match L[i]? with
      | some cs => some ((cs.drop k).take s)
      | none => none) else none
    | _ => none
  | _ => none
def Mem.storeN (m : Mem) (a : AV) (cs : List AV) : Option (Nat × Blk) :=
  match a with
  | .ptr nm o => match m.get nm with
    | some ⟨true, .fin l⟩ => if o + cs.length ≤ l.length then some (nm, ⟨true, .fin (l.take o ++ cs ++ l.drop (o + cs.length))⟩) else none
    | _ => none
  | .eptr nm sz i k => match m.get nm with
    | some ⟨true, .arr sz' L⟩ => if sz = sz' ∧ k + cs.length ≤ sz then (match L[i]? with
      | some c0 => some (nm, ⟨true, .arr sz (L.set i (c0.take k ++ cs ++ c0.drop (k + cs.length)))⟩)
      | none => none) else none
    | _ => none
  | _ => none
/-- The elements of a slice. -/
def Mem.elems (m : Mem) (v : AV) (sz : Nat) : Option (List (List AV)) :=
  match v with
  | .nilSlice => some []
  | .slice nm len => match m.get nm with
    | some ⟨_, .arr sz' L⟩ => if sz = sz' ∧ len ≤ L.length then some (L.take len) else none
    | _ => none
  | .sub nm sz0 lo len => match m.get nm with
    | some ⟨_, .arr sz' L⟩ => if sz = sz' ∧ sz0 = sz' ∧ lo + len ≤ L.length then some ((L.drop lo).take len) else none
    | _ => none
  | _ => none

/-! ### Results -/
inductive Res where
  | val (pre : Prop) [dec : Decidable pre] (v : AV) (u : List (Nat × Option Blk))
  | ite (b : Bool) (x y : Res)
  | call (f : FuncId) (args : List AV)
  | yld (nm : Nat) (args : List AV)
  | bad

/-! ### Numbers -/
def bitsA (op : BinOp) (k : IntKind) (x y : Int) : Int :=
  match op with
  | .and => k.wrap (BitVec.ofInt k.bits x &&& BitVec.ofInt k.bits y).toNat
  | .or => k.wrap (BitVec.ofInt k.bits x ||| BitVec.ofInt k.bits y).toNat
  | .xor => k.wrap (BitVec.ofInt k.bits x ^^^ BitVec.ofInt k.bits y).toNat
  | .andNot => k.wrap (BitVec.ofInt k.bits x &&& ~~~(BitVec.ofInt k.bits y)).toNat
  | _ => 0

/-- '==' of structs, cell by cell; the cells' kinds: 0 integers, 1 bools, 2 strings. -/
def eq1 : Nat → AV → AV → Option Bool
  | 0, .int k a, .int k' b => if k = k' then some (a == b) else none
  | 1, .bool a, .bool b => some (a == b)
  | 2, .str a, .str b => some (decide (a = b))
  | _, _, _ => none
def and2 : Option Bool → Option Bool → Option Bool
  | some p, some q => some (p && q)
  | _, _ => none
def eqL : List Nat → List AV → List AV → Option Bool
  | [], [], [] => some true
  | k :: ks, x :: a, y :: b => and2 (eq1 k x y) (eqL ks a b)
  | _, _, _ => none

def abinI (op : BinOp) (k : IntKind) (a b : Int) : Res :=
  match op with
  | .add => .val True (.int k (k.wrap (a + b))) []
  | .sub => .val True (.int k (k.wrap (a - b))) []
  | .mul => .val True (.int k (k.wrap (a * b))) []
  | .quo => .val (b ≠ 0) (.int k (k.wrap (a.tdiv b))) []
  | .rem => .val (b ≠ 0) (.int k (a.tmod b)) []
  | .and | .or | .xor | .andNot => .val True (.int k (bitsA op k a b)) []
  | .eql => .val True (.bool (a == b)) []
  | .neq => .val True (.bool (a != b)) []
  | .lss => .val True (.bool (decide (a < b))) []
  | .leq => .val True (.bool (decide (a ≤ b))) []
  | .gtr => .val True (.bool (decide (a > b))) []
  | .geq => .val True (.bool (decide (a ≥ b))) []
  | _ => .bad

/-- A struct's or array's type whose '==' goes cell by cell, all of whose cells are integers, bools, strings: their kinds. -/
def plainFs (P : Program) (g : TypeId → Option (List Nat)) : List Nat → List Field → Option (List Nat)
  | ks, [] => some ks
  | ks, f :: fs => match g f.type with
    | some ks' => if f.offset = ks.length ∧ f.name ≠ "_" ∧ tsize P f.type = ks'.length ∧ (P.info? f.type).isSome = true then plainFs P g (ks ++ ks') fs else none
    | none => none
def rep {α : Type} : Nat → List α → List α
  | 0, _ => []
  | n + 1, l => l ++ rep n l
def plainEq (P : Program) : Nat → TypeId → Option (List Nat)
  | 0, _ => none
  | d + 1, t =>
    match P.underlying t with
    | some (.int _) => some [0]
    | some .bool => some [1]
    | some .string => some [2]
    | some (.struct fs) => if P.stoodInHeld t then none else plainFs P (plainEq P d) [] fs.toList
    | some (.array n e) => match plainEq P d e with
      | some ks => if tsize P e = ks.length ∧ (P.info? e).isSome = true then some (rep n ks) else none
      | none => none
    | _ => none

/-- a pointer, or a slice, against nil -/
def anilEq (P : Program) (op : BinOp) (t : TypeId) (ptr same : Bool) : Res :=
  match TY P t with
  | some T => match T.tk, ptr with
    | .ptr, true => match op with
      | .eql => .val True (.bool same) []
      | .neq => .val True (.bool (!same)) []
      | _ => .bad
    | .slice _, false => match op with
      | .eql => .val True (.bool same) []
      | .neq => .val True (.bool (!same)) []
      | _ => .bad
    | _, _ => .bad
  | none => .bad

def aaggEq (op : BinOp) (ks : Option (List Nat)) (a b : List AV) : Res :=
  match ks, op with
  | some ks, .eql => match eqL ks a b with
    | some r => .val True (.bool r) []
    | none => .bad
  | some ks, .neq => match eqL ks a b with
    | some r => .val True (.bool (!r)) []
    | none => .bad
  | _, _ => .bad

def abin (P : Program) (op : BinOp) (t : TypeId) (x y : AV) : Res :=
  match x, y with
  | .int k a, .int k' b =>
    match op with
    | .shl => .val (0 ≤ b) (.int k (k.wrap (a * 2 ^ (min b.toNat k.bits)))) []
    | .shr => .val (0 ≤ b) (.int k (a.fdiv (2 ^ (min b.toNat k.bits)))) []
    | _ => if k = k' then abinI op k a b else .bad
  | .bool a, .bool b => match TY P t with
    | some ⟨_, _, _, _, .bool⟩ => (match op with
      | .eql => .val True (.bool (a == b)) []
      | .neq => .val True (.bool (a != b)) []
      | _ => .bad)
    | _ => .bad
  | .str a, .str b => match op with
    | .add => .val (a.size + b.size ≤ maxLen) (.str (a ++ b)) []
    | .eql => .val True (.bool (decide (a = b))) []
    | .neq => .val True (.bool (!decide (a = b))) []
    | _ => .bad
  | .agg a, .agg b => match TY P t with
    | some ⟨_, _, true, _, _⟩ => if P.eqGuardType P.depth t = false then aaggEq op (plainEq P 12 t) a b else .bad
    | _ => .bad
  | .ptr _ _, .nil => anilEq P op t true false
  | .eptr _ _ _ _, .nil => anilEq P op t true false
  | .nil, .nil => anilEq P op t true true
  | .slice _ _, .nilSlice => anilEq P op t false false
  | .nilSlice, .nilSlice => anilEq P op t false true
  | _, _ => .bad

def aun (op : UnOp) (x : AV) : Res :=
  match op, x with
  | .not, .bool b => .val True (.bool (!b)) []
  | .neg, .int k n => .val True (.int k (k.wrap (0 - n))) []
  | .xor, .int k n => .val True (.int k (bitsA .xor k (if k.signed then -1 else k.max) n)) []
  | _, _ => .bad

def fillA (place : Nat → Option (Nat × Nat)) (cells : List AV) : List (Nat × AV) → Option (List AV)
  | [] => some cells
  | (i, v) :: rest =>
    match place i with
    | none => none
    | some (off, size) =>
      if v.cells.length = size ∧ off + v.cells.length ≤ cells.length then fillA place (cells.take off ++ v.cells ++ cells.drop (off + v.cells.length)) rest
      else none

/-- Parts numbered 0, 1, .. -/
def inOrder : Nat → List (Nat × AV) → Option (List (List AV))
  | _, [] => some []
  | k, (i, v) :: rest => if i = k then (inOrder (k + 1) rest).map (v.cells :: ·) else none

/-- A byte of a string. -/
def sb (s : ByteArray) (i : Nat) : Int := ((s.data.toList[i]?).getD 0).toNat

def pickA (t : Bool) (x y : AV) : AV :=
  match t, x, y with
  | true, x, _ => x
  | false, _, y => y

def amin (op : Builtin) (k : IntKind) (a b : Int) : Int :=
  match op with
  | .min => if b < a then b else a
  | _ => if b > a then b else a
def aminL (op : Builtin) : AV → List AV → Option AV
  | x, [] => some x
  | .int k a, .int _ b :: l => aminL op (.int k (amin op k a b)) l
  | _, _ => none

def bytesOf : List (List AV) → Option (List UInt8)
  | [] => some []
  | [.int .u8 n] :: l => (bytesOf l).map (UInt8.ofNat n.toNat :: ·)
  | _ => none

/-- The method of an interface's value: only a pointer's own. -/
def methA (P : Program) (t : TypeId) (name : String) : Option FuncId :=
  match P.info? t with
  | some i => match i.methods.find? (·.name == name) with
    | some mt => match mt.path.isEmpty, mt.func, P.underlying t with
      | true, some (f, true), some (.pointer _) => some f
      | _, _, _ => none
    | none => none
  | none => none

def arrOff (fs : List (Nat × Nat × Bool)) (i : Nat) : Option (Nat × Nat × Bool) := fs[i]?

def aaddr (a : AV) (off : Nat) : Option AV :=
  match a with
  | .ptr nm o => some (.ptr nm (o + off))
  | .eptr nm sz i k => some (.eptr nm sz i (k + off))
  | _ => none

/-- append -/
def aappend (P : Program) (m : Mem) (nf : Nat) (t : TypeId) (s x : AV) : Res :=
  match TY P t with
  | some ⟨_, _, _, _, .slice e⟩ =>
    match TY P e with
    | some ⟨sz, bytes, _, _, _⟩ =>
      match m.elems x sz with
      | some M =>
        if 0 < sz then
        match s with
        | .nilSlice => .ite (decide (M.length = 0)) (.val True .nilSlice []) (.val ((M.length) * bytes ≤ 140737488355328 ∧ M.length ≤ maxLen ∧ ∀ l ∈ M, ∀ v ∈ l, v.one = true) (.slice nf M.length) [(nf, some ⟨true, .arr sz M⟩)])
        | .slice nm len =>
          match m.get nm with
          | some ⟨true, .arr sz' L⟩ =>
            if sz = sz' ∧ len ≤ L.length then
              .val ((len + M.length) * bytes ≤ 140737488355328 ∧ len + M.length ≤ maxLen ∧ ∀ l ∈ M, ∀ v ∈ l, v.one = true)
                (.slice nf (len + M.length)) [(nm, none), (nf, some ⟨true, .arr sz (L.take len ++ M)⟩)]
            else .bad
          | _ => .bad
        | _ => .bad
        else .bad
      | none => .bad
    | none => .bad
  | _ => .bad

def aclear (P : Program) (m : Mem) (e : TypeId) (nm lo len : Nat) : Res :=
  .ite (decide (len = 0)) (.val True undefA []) (match TY P e, m.get nm with
    | some E, some ⟨true, .arr sz L⟩ => if E.size = sz ∧ (E.zero.all AV.one) = true then .val (lo + len ≤ L.length) undefA [(nm, some ⟨true, .arr sz (L.take lo ++ (List.replicate len E.zero ++ L.drop (lo + len)))⟩)] else .bad
    | _, _ => .bad)

def abuiltin (P : Program) (m : Mem) (nf : Nat) (b : Builtin) (args : List AV) (ts : List TypeId) : Res :=
  match b, args with
  | .len, [x] => match ts with
    | [t] => match TY P t, x with
      | some ⟨_, _, _, _, .slice _⟩, .slice _ n => .val True (.int .i64 n) []
      | some ⟨_, _, _, _, .slice _⟩, .sub _ _ _ n => .val True (.int .i64 n) []
      | some ⟨_, _, _, _, .slice _⟩, .nilSlice => .val True (.int .i64 0) []
      | some ⟨_, _, _, _, .str⟩, .str s => .val True (.int .i64 s.size) []
      | _, _ => .bad
    | _ => .bad
  | .min, x :: l => match aminL .min x l with
    | some v => .val True v []
    | none => .bad
  | .max, x :: l => match aminL .max x l with
    | some v => .val True v []
    | none => .bad
  | .clear, [x] => match ts with
    | [t] => match TY P t, x with
      | some ⟨_, _, _, _, .slice e⟩, .slice nm len => aclear P m e nm 0 len
      | some ⟨_, _, _, _, .slice e⟩, .sub nm sz lo len => if sz = tsize P e then aclear P m e nm lo len else .bad
      | some ⟨_, _, _, _, .slice _⟩, .nilSlice => .val True undefA []
      | _, _ => .bad
    | _ => .bad
  | .append, [s, x] => match ts with
    | [t, t'] => if t = t' then aappend P m nf t s x else .bad
    | _ => .bad
  | _, _ => .bad

def acallee (P : Program) (m : Mem) (nf : Nat) (evf : Operand → AV) (c : Call) : Res :=
  match c.callee with
  | .builtin b => abuiltin P m nf b (c.args.toList.map evf) c.argTypes.toList
  | .value f => match evf f with
    | .func g caps => .call g (c.args.toList.map evf ++ caps)
    | .yield nm => .yld nm (c.args.toList.map evf)
    | _ => .bad
  | .invoke r name => match evf r with
    | .iface t v => match methA P t name with
      | some f => .call f (v :: c.args.toList.map evf)
      | none => .bad
    | _ => .bad

def aslice (P : Program) (m : Mem) (nf : Nat) (tk : TK) (x : AV) (lo hi : Option AV) : Res :=
  match tk, x with
  | .str, .str s => match lo, hi with
    | none, none => .val True (.str (s.extract 0 s.size)) []
    | some (.int _ l), none => .val (0 ≤ l ∧ l ≤ s.size) (.str (s.extract l.toNat s.size)) []
    | none, some (.int _ h) => .val (0 ≤ h ∧ h ≤ s.size) (.str (s.extract 0 h.toNat)) []
    | some (.int _ l), some (.int _ h) => .val (0 ≤ l ∧ l ≤ h ∧ h ≤ s.size) (.str (s.extract l.toNat h.toNat)) []
    | _, _ => .bad
  | .slice e, .slice nm len => match TY P e, m.get nm with
    | some E, some ⟨_, .arr sz L⟩ => if E.size = sz then (match lo, hi with
      | none, some (.int _ h) => .val (0 ≤ h ∧ h ≤ L.length) (.slice nm h.toNat) []
      | some (.int _ l), none => .ite (decide (l = len)) (.val (0 ≤ l ∧ l ≤ len ∧ len ≤ L.length) (.slice nf 0) [(nf, none)]) (.val (0 ≤ l ∧ l ≤ len ∧ len ≤ L.length) (.sub nm sz l.toNat (len - l.toNat)) [])
      | some (.int _ l), some (.int _ h) => .ite (decide (l = h)) (.val (0 ≤ l ∧ l ≤ h ∧ h ≤ L.length) (.slice nf 0) [(nf, none)]) (.val (0 ≤ l ∧ l ≤ h ∧ h ≤ L.length) (.sub nm sz l.toNat (h.toNat - l.toNat)) [])
      | _, _ => .bad) else .bad
    | _, _ => .bad
  | .slice e, .sub nm sz0 a len => match TY P e, m.get nm with
    | some E, some ⟨_, .arr sz L⟩ => if E.size = sz ∧ sz0 = sz then (match lo, hi with
      | none, some (.int _ h) => .val (0 ≤ h ∧ a + h ≤ L.length) (.sub nm sz a h.toNat) []
      | some (.int _ l), none => .ite (decide (l = len)) (.val (0 ≤ l ∧ l ≤ len ∧ a + len ≤ L.length) (.slice nf 0) [(nf, none)]) (.val (0 ≤ l ∧ l ≤ len ∧ a + len ≤ L.length) (.sub nm sz (a + l.toNat) (len - l.toNat)) [])
      | some (.int _ l), some (.int _ h) => .ite (decide (l = h)) (.val (0 ≤ l ∧ l ≤ h ∧ a + h ≤ L.length) (.slice nf 0) [(nf, none)]) (.val (0 ≤ l ∧ l ≤ h ∧ a + h ≤ L.length) (.sub nm sz (a + l.toNat) (h.toNat - l.toNat)) [])
      | _, _ => .bad) else .bad
    | _, _ => .bad
  | .slice e, .nilSlice => match TY P e with
    | some _ => (match lo, hi with
      | none, some (.int _ h) => .val (h = 0) .nilSlice []
      | some (.int _ l), none => .val (l = 0) .nilSlice []
      | some (.int _ l), some (.int _ h) => .val (l = 0 ∧ h = 0) .nilSlice []
      | _, _ => .bad)
    | none => .bad
  | _, _ => .bad

def aconv (P : Program) (m : Mem) (sc d : TypeId) (x : AV) : Res :=
  match TY P sc, TY P d, x with
  | some _, some ⟨_, _, _, _, .int k⟩, .int _ n => .val True (.int k (k.wrap n)) []
  | some _, some ⟨_, _, _, _, .str⟩, .str s => .val True (.str s) []
  | some ⟨_, _, _, _, .slice e⟩, some ⟨_, _, _, _, .str⟩, .nilSlice => match TY P e with
    | some ⟨_, _, _, _, .int .u8⟩ => .val True (.str ⟨#[]⟩) []
    | _ => .bad
  | some ⟨_, _, _, _, .slice e⟩, some ⟨_, _, _, _, .str⟩, .slice nm len => match TY P e with
    | some ⟨_, _, _, _, .int .u8⟩ => match m.elems (.slice nm len) 1 with
      | some L => match bytesOf L with
        | some bs => .val True (.str ⟨bs.toArray⟩) []
        | none => .bad
      | none => .bad
    | _ => .bad
  | _, _, _ => .bad

/-- The rows of a string's bytes. -/
def bytesRows (b : ByteArray) : List (List AV) := b.data.toList.map fun u => [AV.int .u8 (u.toNat : Int)]
def aconvB (P : Program) (m : Mem) (nf : Nat) (sc d : TypeId) (x : AV) : Res :=
  match TY P sc, TY P d, x with
  | some _, some ⟨_, _, _, _, .slice e⟩, .str b => match TY P e with
    | some ⟨_, _, _, _, .int .u8⟩ => .val (b.size ≤ maxLen) (.slice nf b.size) [(nf, some ⟨false, .arr 1 (bytesRows b)⟩)]
    | _ => .bad
  | _, _, x => aconv P m sc d x
def amake (P : Program) (nf : Nat) (t : TypeId) (l c : AV) : Res :=
  match TY P t with
  | some ⟨_, _, _, _, .slice e⟩ => match TY P e with
    | some E => match l, c with
      | .int .i64 n, .int .i64 n' => if n = n' ∧ 0 < E.size then .val (0 ≤ n ∧ n * E.bytes ≤ 140737488355328 ∧ n ≤ maxLen) (.slice nf n.toNat) [(nf, some ⟨true, .arr E.size (List.replicate n.toNat E.zero)⟩)] else .bad
      | _, _ => .bad
    | none => .bad
  | _ => .bad
/-- An element of an array's value. -/
def aidx (P : Program) (t : TypeId) (l : List AV) (i : AV) : Res :=
  match TY P t with
  | some ⟨_, _, _, _, .array n e⟩ => match TY P e with
    | some E => match i with
      | .int _ k => if E.agg then .val (0 ≤ k ∧ k < n) (.agg ((l.drop (k.toNat * E.size)).take E.size)) [] else (match l[k.toNat * E.size]? with
        | some v => .val (0 ≤ k ∧ k < n) v []
        | none => .bad)
      | _ => .bad
    | none => .bad
  | _ => .bad
def aindexAddr (P : Program) (t : TypeId) (x i : AV) : Res :=
  match i with
  | .int _ n =>
    match TY P t with
    | some ⟨_, _, _, _, .array len e⟩ => match TY P e, x with
      | some E, .ptr nm o => if 2 ≤ len then .val (0 ≤ n ∧ n < len) (.ptr nm (o + n.toNat * E.size)) [] else .bad
      | some E, .eptr nm sz j k => if 2 ≤ len then .val (0 ≤ n ∧ n < len) (.eptr nm sz j (k + n.toNat * E.size)) [] else .bad
      | _, _ => .bad
    | some ⟨_, _, _, _, .slice e⟩ => match TY P e, x with
      | some E, .slice nm len => .val (0 ≤ n ∧ n < len) (.eptr nm E.size n.toNat 0) []
      | some E, .sub nm sz lo len => if sz = E.size then .val (0 ≤ n ∧ n < len) (.eptr nm E.size (lo + n.toNat) 0) [] else .bad
      | _, _ => .bad
    | _ => .bad
  | _ => .bad

def aop (P : Program) (evf : Operand → AV) (m : Mem) (nf : Nat) : Op → Res
  | .move x | .assign x => .val True (evf x) []
  | .pick c a b => match evf c with
    | .bool t => .val True (pickA t (evf a) (evf b)) []
    | _ => .bad
  | .alloc t => match TY P t with
    | some T => .val True (.ptr nf 0) [(nf, some ⟨true, .fin T.zero⟩)]
    | none => .bad
  | .box _ x => .val True (.ptr nf 0) [(nf, some ⟨true, .fin (evf x).cells⟩)]
  | .build t parts => match TY P t with
    | some ⟨_, _, _, z, .struct fs⟩ => match fillA (fun i => (fs[i]?).map fun f => (f.1, f.2.1)) z (parts.toList.map fun p => (p.1, evf p.2)) with
      | some l => .val True (.agg l) []
      | none => .bad
    | some ⟨_, _, _, z, .array _ e⟩ => match TY P e with
      | some E => match fillA (fun i => some (i * E.size, E.size)) z (parts.toList.map fun p => (p.1, evf p.2)) with
        | some l => .val True (.agg l) []
        | none => .bad
      | none => .bad
    | _ => .bad
  | .buildSlice t len parts => match TY P t with
    | some ⟨_, _, _, _, .slice e⟩ => match TY P e with
      | some E => match inOrder 0 (parts.toList.map fun p => (p.1, evf p.2)) with
        | some L => if L.length = len ∧ (L.all fun l => l.length == E.size) = true ∧ len * E.size ≤ 16777216 ∧ len ≤ 16777216 then
            .val True (.slice nf len) [(nf, some ⟨true, .arr E.size L⟩)] else .bad
        | none => .bad
      | none => .bad
    | _ => .bad
  | .load t a => match TY P t with
    | some T => match m.loadN (evf a) T.size with
      | some cs => if T.agg then .val True (.agg cs) [] else (match cs with
        | [v] => .val True v []
        | _ => .bad)
      | none => .bad
    | none => .bad
  | .store t a x => match TY P t with
    | some T => if (evf x).cells.length = T.size ∧ ((evf x).cells.all AV.one) = true then
        (match m.storeN (evf a) (evf x).cells with
        | some (nm, b) => .val True undefA [(nm, some b)]
        | none => .bad) else .bad
    | none => .bad
  | .nilCheck x => match evf x with
    | .ptr nm o => .val True (.ptr nm o) []
    | .eptr nm sz i k => .val True (.eptr nm sz i k) []
    | .func f caps => .val True (.func f caps) []
    | .yield nm => .val True (.yield nm) []
    | .mfunc name (.iface t v) => match methA P t name with
      | some _ => .val True (.mfunc name (.iface t v)) []
      | none => .bad
    | _ => .bad
  | .binOp op t x y _ => abin P op t (evf x) (evf y)
  | .unOp op _ x => aun op (evf x)
  | .convert s d x => aconvB P m nf s d (evf x)
  | .makeInterface t x => match TY P t with
    | some T => (match T.tk with
      | .iface => .bad
      | _ => .val True (.iface t (evf x)) [])
    | none => .bad
  | .makeFunc fn first caps => match fn, first.toList with
    | .func f, [] => .val True (.func f (caps.toList.map evf)) []
    | .method name, [r] => if caps.toList.length = 0 then .val True (.mfunc name (evf r)) [] else .bad
    | _, _ => .bad
  | .slice t x lo hi mx => match mx with
    | none => match TY P t with
      | some T => aslice P m nf T.tk (evf x) (lo.map evf) (hi.map evf)
      | none => .bad
    | some _ => .bad
  | .fieldAddr t x f => match TY P t with
    | some ⟨_, _, _, _, .struct fs⟩ => match fs[f]? with
      | some (off, size, _) => if size ≠ 0 then (match aaddr (evf x) off with
        | some a => .val True a []
        | none => .bad) else .bad
      | none => .bad
    | _ => .bad
  | .field t x f => match TY P t with
    | some ⟨_, _, _, _, .struct fs⟩ => match fs[f]?, evf x with
      | some (off, size, agg), .agg l => if agg then .val True (.agg ((l.drop off).take size)) [] else (match l[off]? with
        | some v => .val True v []
        | none => .bad)
      | _, _ => .bad
    | _ => .bad
  | .indexAddr t x i => aindexAddr P t (evf x) (evf i)
  | .makeSlice t l c => amake P nf t (evf l) (evf c)
  | .index t x i => match evf x, evf i with
    | .agg l, i => aidx P t l i
    | .str s, .int _ n => match TY P t with
      | some ⟨_, _, _, _, .str⟩ => .val (0 ≤ n ∧ n < s.size) (.int .u8 (sb s n.toNat)) []
      | _ => .bad
    | _, _ => .bad
  | .extract x i => match evf x with
    | .tuple l => match l[i]? with
      | some v => .val True v []
      | none => .bad
    | _ => .bad
  | .call c => acallee P m nf evf c
  | _ => .bad

end Go.Fw
