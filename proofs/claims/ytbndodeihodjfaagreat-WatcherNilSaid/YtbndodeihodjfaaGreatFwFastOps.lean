/- 'aop', in small pieces, for the kernel. -/
import Derived.Test.YtbndodeihodjfaaGreatFwFoot
namespace Go.Fw
set_option linter.unusedVariables false

def fLoad2 (m : Mem) (a : AV) (T : TyI) : Res := match m.loadN a T.size with
  | some cs => if T.agg then .val True (.agg cs) [] else (match cs with
    | [v] => .val True v []
    | _ => .bad)
  | none => .bad
def fLoad (P : Program) (m : Mem) (t : TypeId) (a : AV) : Res := match TY P t with
  | some T => fLoad2 m a T
  | none => .bad
def fStore2 (m : Mem) (a x : AV) (T : TyI) : Res := if x.cells.length = T.size ∧ (x.cells.all AV.one) = true then
        (match m.storeN a x.cells with
        | some (nm, b) => .val True undefA [(nm, some b)]
        | none => .bad) else .bad
def fStore (P : Program) (m : Mem) (t : TypeId) (a x : AV) : Res := match TY P t with
  | some T => fStore2 m a x T
  | none => .bad
def fFieldAddr2 (T : TyI) (x : AV) (f : Nat) : Res := match T with
    | ⟨_, _, _, _, .struct fs⟩ => match fs[f]? with
      | some (off, size, _) => if size ≠ 0 then (match aaddr x off with
        | some a => .val True a []
        | none => .bad) else .bad
      | none => .bad
    | _ => .bad
def fFieldAddr (P : Program) (t : TypeId) (x : AV) (f : Nat) : Res := match TY P t with
  | some T => fFieldAddr2 T x f
  | none => .bad
def fField2 (T : TyI) (x : AV) (f : Nat) : Res := match T with
    | ⟨_, _, _, _, .struct fs⟩ => match fs[f]?, x with
      | some (off, size, agg), .agg l => if agg then .val True (.agg ((l.drop off).take size)) [] else (match l[off]? with
        | some v => .val True v []
        | none => .bad)
      | _, _ => .bad
    | _ => .bad
def fField (P : Program) (t : TypeId) (x : AV) (f : Nat) : Res := match TY P t with
  | some T => fField2 T x f
  | none => .bad
def fIndex (P : Program) (t : TypeId) (x i : AV) : Res := match x, i with
    | .agg l, i => aidx P t l i
    | .str s, .int _ n => match TY P t with
      | some ⟨_, _, _, _, .str⟩ => .val (0 ≤ n ∧ n < s.size) (.int .u8 (sb s n.toNat)) []
      | _ => .bad
    | _, _ => .bad
def fExtract (x : AV) (i : Nat) : Res := match x with
    | .tuple l => match l[i]? with
      | some v => .val True v []
      | none => .bad
    | _ => .bad
def fBuild (P : Program) (evf : Operand → AV) (t : TypeId) (parts : Array (Nat × Operand)) : Res := match TY P t with
    | some ⟨_, _, _, z, .struct fs⟩ => match fillA (fun i => (fs[i]?).map fun f => (f.1, f.2.1)) z (parts.toList.map fun p => (p.1, evf p.2)) with
      | some l => .val True (.agg l) []
      | none => .bad
    | some ⟨_, _, _, z, .array _ e⟩ => match TY P e with
      | some E => match fillA (fun i => some (i * E.size, E.size)) z (parts.toList.map fun p => (p.1, evf p.2)) with
        | some l => .val True (.agg l) []
        | none => .bad
      | none => .bad
    | _ => .bad
def fBin2 (P : Program) (op : BinOp) (t : TypeId) (k : IntKind) (a : Int) (y : AV) : Res := match y with
  | .int k' b => match op with
    | .shl => .val (0 ≤ b) (.int k (k.wrap (a * 2 ^ (min b.toNat k.bits)))) []
    | .shr => .val (0 ≤ b) (.int k (a.fdiv (2 ^ (min b.toNat k.bits)))) []
    | op => if k = k' then abinI op k a b else .bad
  | y => abin P op t (.int k a) y
def fBin (P : Program) (op : BinOp) (t : TypeId) (x y : AV) : Res := match x with
  | .int k a => fBin2 P op t k a y
  | x => abin P op t x y
def fPick (evf : Operand → AV) (c a b : Operand) : Res := match evf c with
    | .bool t => .val True (pickA t (evf a) (evf b)) []
    | _ => .bad
def fAlloc (P : Program) (nf : Nat) (t : TypeId) : Res := match TY P t with
    | some T => .val True (.ptr nf 0) [(nf, some ⟨true, .fin T.zero⟩)]
    | none => .bad
def fCallV (evf : Operand → AV) (c : Call) (f : AV) : Res := match f with
    | .func g caps => .call g (c.args.toList.map evf ++ caps)
    | .yield nm => .yld nm (c.args.toList.map evf)
    | _ => .bad
def fCallI (P : Program) (evf : Operand → AV) (c : Call) (name : String) (r : AV) : Res := match r with
    | .iface t v => match methA P t name with
      | some f => .call f (v :: c.args.toList.map evf)
      | none => .bad
    | _ => .bad
def fCall (P : Program) (evf : Operand → AV) (m : Mem) (nf : Nat) (c : Call) : Res :=
  match c.callee with
  | .builtin b => abuiltin P m nf b (c.args.toList.map evf) c.argTypes.toList
  | .value f => fCallV evf c (evf f)
  | .invoke r name => fCallI P evf c name (evf r)
def fRest (P : Program) (evf : Operand → AV) (m : Mem) (nf : Nat) (o : Op) : Res := aop P evf m nf o

def aopF (P : Program) (evf : Operand → AV) (m : Mem) (nf : Nat) (o : Op) : Res := match o with
  | .move x => .val True (evf x) []
  | .assign x => .val True (evf x) []
  | .binOp op t x y _ => fBin P op t (evf x) (evf y)
  | .load t a => fLoad P m t (evf a)
  | .store t a x => fStore P m t (evf a) (evf x)
  | .fieldAddr t x f => fFieldAddr P t (evf x) f
  | .field t x f => fField P t (evf x) f
  | .indexAddr t x i => aindexAddr P t (evf x) (evf i)
  | .index t x i => fIndex P t (evf x) (evf i)
  | .extract x i => fExtract (evf x) i
  | .build t ps => fBuild P evf t ps
  | .pick c a b => fPick evf c a b
  | .alloc t => fAlloc P nf t
  | .call c => fCall P evf m nf c
  | .unOp op _ x => aun op (evf x)
  | .convert s d x => aconvB P m nf s d (evf x)
  | o => fRest P evf m nf o

theorem fBin_eq (P : Program) (op : BinOp) (t : TypeId) (x y : AV) : fBin P op t x y = abin P op t x y := by
  unfold fBin
  split
  · unfold fBin2
    split
    · unfold abin
      cases op <;> rfl
    · rfl
  · rfl
theorem fLoad_eq {P : Program} {m : Mem} {evf : Operand → AV} {nf : Nat} {t : TypeId} {a : Operand} : fLoad P m t (evf a) = aop P evf m nf (.load t a) := by
  simp only [fLoad, fLoad2, aop]
  cases TY P t <;> rfl
theorem fStore_eq {P : Program} {m : Mem} {evf : Operand → AV} {nf : Nat} {t : TypeId} {a x : Operand} : fStore P m t (evf a) (evf x) = aop P evf m nf (.store t a x) := by
  simp only [fStore, fStore2, aop]
  cases TY P t <;> rfl
theorem fFieldAddr_eq {P : Program} {m : Mem} {evf : Operand → AV} {nf : Nat} {t : TypeId} {a : Operand} {f : Nat} : fFieldAddr P t (evf a) f = aop P evf m nf (.fieldAddr t a f) := by
  simp only [fFieldAddr, fFieldAddr2, aop]
  cases TY P t with
  | none => rfl
  | some T => rcases T with ⟨_, _, _, _, tk⟩; cases tk <;> rfl
theorem fField_eq {P : Program} {m : Mem} {evf : Operand → AV} {nf : Nat} {t : TypeId} {a : Operand} {f : Nat} : fField P t (evf a) f = aop P evf m nf (.field t a f) := by
  simp only [fField, fField2, aop]
  cases TY P t with
  | none => rfl
  | some T => rcases T with ⟨_, _, _, _, tk⟩; cases tk <;> rfl
theorem aopF_eq (P : Program) (evf : Operand → AV) (m : Mem) (nf : Nat) (o : Op) : aopF P evf m nf o = aop P evf m nf o := by
  cases o with
  | binOp op t x y yt => exact fBin_eq P op t _ _
  | load t a => exact fLoad_eq
  | store t a x => exact fStore_eq
  | fieldAddr t x f => exact fFieldAddr_eq
  | field t x f => exact fField_eq
  | call c =>
    simp only [aopF, fCall, aop, acallee]
    cases c.callee with
    | builtin b => rfl
    | value f => simp only [fCallV]; cases evf f <;> rfl
    | invoke r nm => simp only [fCallI]; cases evf r <;> rfl
  | _ => first | rfl | (simp only [aopF, fRest])
end Go.Fw
