/- What an operation looks at in memory: the names that its operands begin with. -/
import Derived.Test.YtbndodeihodjfaaGreatFwOpsDef
namespace Go.Fw
set_option linter.unusedVariables false
set_option linter.unusedSimpArgs false

def topName : AV → List Nat
  | .ptr nm _ | .eptr nm _ _ _ | .slice nm _ | .sub nm _ _ _ => [nm]
  | _ => []
def foot (evf : Operand → AV) (o : Op) : List Nat := o.operands.toList.flatMap fun x => topName (evf x)
def silentOp : Op → Bool
  | .move _ | .assign _ | .pick .. | .build .. | .binOp .. | .unOp .. | .extract .. | .field .. | .fieldAddr .. | .indexAddr .. | .index .. | .makeInterface .. | .makeFunc .. | .nilCheck _ | .alloc _ | .box .. | .buildSlice .. | .makeSlice .. => true
  | .call c => match c.callee with
    | .builtin .len | .builtin .min | .builtin .max => true
    | _ => false
  | _ => false

theorem loadN_foot {m m' : Mem} {a : AV} (h : ∀ i ∈ topName a, m.get i = m'.get i) (s : Nat) : m.loadN a s = m'.loadN a s := by
  cases a <;> simp only [Mem.loadN]
  case ptr nm o => rw [h nm (by simp [topName])]
  case eptr nm sz i k => rw [h nm (by simp [topName])]
theorem storeN_foot {m m' : Mem} {a : AV} (h : ∀ i ∈ topName a, m.get i = m'.get i) (cs : List AV) : m.storeN a cs = m'.storeN a cs := by
  cases a <;> simp only [Mem.storeN]
  case ptr nm o => rw [h nm (by simp [topName])]
  case eptr nm sz i k => rw [h nm (by simp [topName])]
theorem elems_foot {m m' : Mem} {a : AV} (h : ∀ i ∈ topName a, m.get i = m'.get i) (s : Nat) : m.elems a s = m'.elems a s := by
  cases a <;> simp only [Mem.elems]
  case slice nm o => rw [h nm (by simp [topName])]
  case sub nm sz i k => rw [h nm (by simp [topName])]

theorem aappend_foot {P : Program} {m m' : Mem} {nf : Nat} {t : TypeId} {s x : AV} (hs : ∀ i ∈ topName s, m.get i = m'.get i) (hx : ∀ i ∈ topName x, m.get i = m'.get i) :
    aappend P m nf t s x = aappend P m' nf t s x := by
  unfold aappend
  have he := fun sz => elems_foot hx sz
  cases s <;> simp only [he]
  case slice nm len => rw [hs nm (by simp [topName])]
theorem aclear_foot {P : Program} {m m' : Mem} {e nm lo len} (h : m.get nm = m'.get nm) : aclear P m e nm lo len = aclear P m' e nm lo len := by
  unfold aclear; rw [h]
theorem abuiltin_foot {P : Program} {m m' : Mem} {nf : Nat} {b : Builtin} {args : List AV} {ts : List TypeId} (h : ∀ v ∈ args, ∀ i ∈ topName v, m.get i = m'.get i) :
    abuiltin P m nf b args ts = abuiltin P m' nf b args ts := by
  unfold abuiltin
  split <;> try rfl
  · rename_i x
    split <;> try rfl
    split <;> try rfl
    · exact aclear_foot (h _ (List.mem_singleton.2 rfl) _ (List.mem_singleton.2 rfl))
    · split <;> try rfl
      exact aclear_foot (h _ (List.mem_singleton.2 rfl) _ (List.mem_singleton.2 rfl))
  · rename_i s x
    split <;> try rfl
    split <;> try rfl
    exact aappend_foot (h s (by simp)) (h x (by simp))
theorem aslice_foot {P : Program} {m m' : Mem} {nf : Nat} {tk : TK} {x : AV} {lo hi : Option AV} (h : ∀ i ∈ topName x, m.get i = m'.get i) : aslice P m nf tk x lo hi = aslice P m' nf tk x lo hi := by
  unfold aslice
  split <;> try rfl
  · rw [h _ (List.mem_singleton.2 rfl)]
  · rw [h _ (List.mem_singleton.2 rfl)]
theorem aconv_foot {P : Program} {m m' : Mem} {sc d : TypeId} {x : AV} (h : ∀ i ∈ topName x, m.get i = m'.get i) : aconv P m sc d x = aconv P m' sc d x := by
  unfold aconv
  split <;> try rfl
  rw [elems_foot h]
theorem aconvB_foot {P : Program} {m m' : Mem} {nf} {sc d : TypeId} {x : AV} (h : ∀ i ∈ topName x, m.get i = m'.get i) : aconvB P m nf sc d x = aconvB P m' nf sc d x := by
  unfold aconvB
  split
  · rfl
  · exact aconv_foot h

theorem aop_foot {P : Program} {evf : Operand → AV} {m m' : Mem} {nf : Nat} (o : Op) (h : ∀ i ∈ foot evf o, m.get i = m'.get i) : aop P evf m nf o = aop P evf m' nf o := by
  have hx : ∀ x ∈ o.operands.toList, ∀ i ∈ topName (evf x), m.get i = m'.get i := fun x hx i hi => h i (List.mem_flatMap.2 ⟨x, hx, hi⟩)
  clear h
  cases o with
  | load t a =>
    have := fun s => loadN_foot (hx a (by simp [Op.operands])) s
    simp only [aop, this]
  | store t a x =>
    have := fun s => storeN_foot (hx a (by simp [Op.operands])) s
    simp only [aop, this]
  | convert s d x =>
    simp only [aop]
    exact aconvB_foot (hx x (by simp [Op.operands]))
  | slice t x lo hi mx =>
    have := fun tk => aslice_foot (P := P) (nf := nf) (tk := tk) (lo := lo.map evf) (hi := hi.map evf) (hx x (by simp [Op.operands]))
    simp only [aop, this]
  | call c =>
    simp only [aop, acallee]
    cases hc : c.callee with
    | builtin b =>
      refine abuiltin_foot fun v hv i hi => ?_
      obtain ⟨x, hx1, rfl⟩ := List.mem_map.1 hv
      exact hx x (by simp only [Op.operands, Call.operands, hc]; simpa using hx1) i hi
    | _ => rfl
  | _ => rfl

theorem aop_silent {P : Program} {evf : Operand → AV} {m m' : Mem} {nf : Nat} (o : Op) (h : silentOp o = true) : aop P evf m nf o = aop P evf m' nf o := by
  cases o with
  | call c =>
    simp only [aop, acallee]
    simp only [silentOp] at h
    cases hc : c.callee with
    | builtin b =>
      rw [hc] at h
      cases b <;> first | (simp at h; done) | (generalize c.args.toList.map evf = A; (try simp only [abuiltin]); cases A with
        | nil => rfl
        | cons x l => cases l <;> rfl)
    | _ => rfl
  | _ => first | rfl | (simp [silentOp] at h; done)
end Go.Fw
