/- The abstract values, frames and memories of the framework: what they stand for in a world. -/
import GoSem.Step
import Derived.OwnWalk
import Derived.CallsIn
import Derived.OrdersIn
import Derived.TacticsIn
import Derived.WalkKit
namespace Go.Fw

/-- An abstract value: addresses are names. -/
inductive AV where
  | int (k : IntKind) (n : Int)
  | bool (b : Bool)
  | str (s : ByteArray)
  | nil
  | ptr (nm o : Nat)
  | eptr (nm sz i k : Nat)
  | nilSlice
  | slice (nm len : Nat)
  | sub (nm sz lo len : Nat)
  | nilFunc
  | func (f : FuncId) (caps : List AV)
  | mfunc (name : String) (recv : AV)
  | yield (nm : Nat)
  | nilIface
  | iface (t : TypeId) (v : AV)
  | agg (l : List AV)
  | tuple (l : List AV)
  | nilMap
  | map (nm : Nat)
  deriving Inhabited

structure Place where
  b : Nat
  off : Nat
  cap : Nat

abbrev Env := Nat → Place

mutual
def AV.val (ρ : Env) : AV → Value
  | .int k n => .int k n
  | .bool b => .bool b
  | .str s => .string s
  | .nil => .pointer none
  | .ptr nm o => .pointer (some ⟨(ρ nm).b, (ρ nm).off + o, none⟩)
  | .eptr nm sz i k => .pointer (some ⟨(ρ nm).b, (ρ nm).off + (i * sz + k), none⟩)
  | .nilSlice => .slice none 0 0
  | .slice nm len => .slice (some ⟨(ρ nm).b, (ρ nm).off, none⟩) len (ρ nm).cap
  | .sub nm sz lo len => .slice (some ⟨(ρ nm).b, (ρ nm).off + lo * sz, none⟩) len ((ρ nm).cap - lo)
  | .nilFunc => .nilFunc
  | .func f caps => .func (.func f) #[] ⟨AV.vals ρ caps⟩
  | .mfunc name recv => .func (.method name) #[AV.val ρ recv] #[]
  | .yield nm => .func (.yield (ρ nm).b) #[] #[]
  | .nilIface => .nilIface
  | .iface t v => .iface t (AV.val ρ v)
  | .agg l => .agg ⟨AV.vals ρ l⟩
  | .tuple l => .tuple ⟨AV.vals ρ l⟩
  | .nilMap => .map none
  | .map nm => .map (some (ρ nm).b)
def AV.vals (ρ : Env) : List AV → List Value
  | [] => []
  | v :: l => AV.val ρ v :: AV.vals ρ l
end

theorem vals_eq (ρ : Env) (l : List AV) : AV.vals ρ l = l.map (AV.val ρ) := by
  induction l with
  | nil => simp [AV.vals]
  | cons v l ih => simp [AV.vals, ih]

mutual
/-- All names of a value are known. -/
def AV.sc (K : Nat → Prop) : AV → Prop
  | .ptr nm _ => K nm
  | .eptr nm _ _ _ => K nm
  | .slice nm _ => K nm
  | .sub nm _ _ _ => K nm
  | .func _ caps => AV.scs K caps
  | .mfunc _ recv => AV.sc K recv
  | .yield nm => K nm
  | .iface _ v => AV.sc K v
  | .agg l => AV.scs K l
  | .tuple l => AV.scs K l
  | .map nm => K nm
  | _ => True
def AV.scs (K : Nat → Prop) : List AV → Prop
  | [] => True
  | v :: l => AV.sc K v ∧ AV.scs K l
end

theorem scs_iff (K : Nat → Prop) (l : List AV) : AV.scs K l ↔ ∀ v ∈ l, AV.sc K v := by
  induction l with
  | nil => simp [AV.scs]
  | cons v l ih => simp [AV.scs, ih]

mutual
theorem AV.sc_mono {K K' : Nat → Prop} (h : ∀ i, K i → K' i) : ∀ v : AV, v.sc K → v.sc K'
  | .int .., _ | .bool _, _ | .str _, _ | .nil, _ | .nilSlice, _ | .nilFunc, _ | .nilIface, _ | .nilMap, _ => by simp [AV.sc]
  | .ptr .., x | .eptr .., x | .slice .., x | .sub .., x | .yield _, x | .map _, x => by simp only [AV.sc] at x ⊢; exact h _ x
  | .func _ l, x => by simp only [AV.sc] at x ⊢; exact AV.scs_mono h l x
  | .mfunc _ v, x => by simp only [AV.sc] at x ⊢; exact AV.sc_mono h v x
  | .iface _ v, x => by simp only [AV.sc] at x ⊢; exact AV.sc_mono h v x
  | .agg l, x => by simp only [AV.sc] at x ⊢; exact AV.scs_mono h l x
  | .tuple l, x => by simp only [AV.sc] at x ⊢; exact AV.scs_mono h l x
theorem AV.scs_mono {K K' : Nat → Prop} (h : ∀ i, K i → K' i) : ∀ l : List AV, AV.scs K l → AV.scs K' l
  | [], _ => by simp [AV.scs]
  | v :: l, x => by simp only [AV.scs] at x ⊢; exact ⟨AV.sc_mono h v x.1, AV.scs_mono h l x.2⟩
end

mutual
theorem AV.val_congr {ρ ρ' : Env} {K : Nat → Prop} (h : ∀ i, K i → ρ' i = ρ i) : ∀ v : AV, v.sc K → v.val ρ' = v.val ρ
  | .int .., _ | .bool _, _ | .str _, _ | .nil, _ | .nilSlice, _ | .nilFunc, _ | .nilIface, _ | .nilMap, _ => by simp [AV.val]
  | .ptr .., x | .eptr .., x | .slice .., x | .sub .., x | .yield _, x | .map _, x => by simp only [AV.sc] at x; simp only [AV.val, h _ x]
  | .func _ l, x => by simp only [AV.sc] at x; simp only [AV.val, AV.vals_congr h l x]
  | .mfunc _ v, x => by simp only [AV.sc] at x; simp only [AV.val, AV.val_congr h v x]
  | .iface _ v, x => by simp only [AV.sc] at x; simp only [AV.val, AV.val_congr h v x]
  | .agg l, x => by simp only [AV.sc] at x; simp only [AV.val, AV.vals_congr h l x]
  | .tuple l, x => by simp only [AV.sc] at x; simp only [AV.val, AV.vals_congr h l x]
theorem AV.vals_congr {ρ ρ' : Env} {K : Nat → Prop} (h : ∀ i, K i → ρ' i = ρ i) : ∀ l : List AV, AV.scs K l → AV.vals ρ' l = AV.vals ρ l
  | [], _ => by simp [AV.vals]
  | v :: l, x => by simp only [AV.scs] at x; simp only [AV.vals, AV.val_congr h v x.1, AV.vals_congr h l x.2]
end

/-! ### Frames: a tree of slots -/
inductive Tr where
  | e
  | n (v : AV) (l r : Tr)
  deriving Inhabited

def undefA : AV := .tuple []

def Tr.get : Tr → Nat → AV
  | .e, _ => undefA
  | .n v _ _, 0 => v
  | .n _ l r, i + 1 => if i % 2 = 0 then l.get (i / 2) else r.get (i / 2)
def Tr.put : Tr → Nat → AV → Tr
  | .e, _, _ => .e
  | .n _ l r, 0, v => .n v l r
  | .n w l r, i + 1, v => if i % 2 = 0 then .n w (l.put (i / 2) v) r else .n w l (r.put (i / 2) v)
def Tr.mem : Tr → Nat → Bool
  | .e, _ => false
  | .n _ _ _, 0 => true
  | .n _ l r, i + 1 => if i % 2 = 0 then l.mem (i / 2) else r.mem (i / 2)
def Tr.full : Nat → Tr
  | 0 => .e
  | d + 1 => .n undefA (Tr.full d) (Tr.full d)

theorem Tr.get_put_same : ∀ (t : Tr) (i : Nat) (v : AV), t.mem i = true → (t.put i v).get i = v
  | .e, _, _, h => by simp [Tr.mem] at h
  | .n _ _ _, 0, _, _ => by simp [Tr.put, Tr.get]
  | .n _ l r, i + 1, v, h => by
    simp only [Tr.mem, Tr.put] at *
    split at h <;> rename_i hi
    · simp only [hi, if_true, Tr.get]; exact Tr.get_put_same l _ v h
    · simp only [hi, if_false, Tr.get]; exact Tr.get_put_same r _ v h
theorem Tr.get_put_other : ∀ (t : Tr) (i j : Nat) (v : AV), i ≠ j → (t.put i v).get j = t.get j
  | .e, _, _, _, _ => by simp [Tr.put]
  | .n _ _ _, 0, 0, _, h => absurd rfl h
  | .n _ _ _, 0, j + 1, _, _ => by simp [Tr.put, Tr.get]
  | .n _ l r, i + 1, 0, v, _ => by simp only [Tr.put]; split <;> simp [Tr.get]
  | .n _ l r, i + 1, j + 1, v, h => by
    simp only [Tr.put]
    split <;> rename_i hi <;> simp only [Tr.get] <;> split <;> rename_i hj
    · exact Tr.get_put_other l _ _ v (by omega)
    · rfl
    · rfl
    · exact Tr.get_put_other r _ _ v (by omega)
theorem Tr.get_put_out : ∀ (t : Tr) (i : Nat) (v : AV), t.mem i = false → (t.put i v).get i = t.get i
  | .e, _, _, _ => by simp [Tr.put]
  | .n _ _ _, 0, _, h => by simp [Tr.mem] at h
  | .n _ l r, i + 1, v, h => by
    simp only [Tr.mem, Tr.put] at *
    split at h <;> rename_i hi
    · simp only [hi, if_true, Tr.get]; exact Tr.get_put_out l _ v h
    · simp only [hi, if_false, Tr.get]; exact Tr.get_put_out r _ v h
theorem Tr.mem_put : ∀ (t : Tr) (i j : Nat) (v : AV), (t.put i v).mem j = t.mem j
  | .e, _, _, _ => by simp [Tr.put]
  | .n _ _ _, 0, 0, _ => by simp [Tr.put, Tr.mem]
  | .n _ _ _, 0, j + 1, _ => by simp [Tr.put, Tr.mem]
  | .n _ l r, i + 1, 0, v => by simp only [Tr.put]; split <;> simp [Tr.mem]
  | .n _ l r, i + 1, j + 1, v => by
    simp only [Tr.put]
    split <;> simp only [Tr.mem, Tr.mem_put]
theorem Tr.get_full : ∀ (d i : Nat), (Tr.full d).get i = undefA
  | 0, _ => by simp [Tr.full, Tr.get]
  | d + 1, 0 => by simp [Tr.full, Tr.get]
  | d + 1, i + 1 => by simp only [Tr.full, Tr.get, Tr.get_full, ite_self]

/-! ### Memories -/
inductive Cont where
  | fin (l : List AV)
  | arr (sz : Nat) (L : List (List AV))
  | loop (fr : List AV) (ps : List Tmp) (asg bd : Code) (pend : Option Code)

structure Blk where
  wr : Bool
  c : Cont

structure Mem where
  old : Nat → Option Blk
  B : Nat
  own : List (Option Blk)

def Mem.get (m : Mem) (i : Nat) : Option Blk := if i < m.B then m.old i else (m.own[i - m.B]?).join
def Mem.bound (m : Mem) : Nat := m.B + m.own.length
/-- A block is laid, changed, or forgotten. -/
def Mem.set (m : Mem) (i : Nat) (b : Option Blk) : Mem :=
  if i < m.B then { m with old := fun j => if j = i then b else m.old j }
  else if i - m.B < m.own.length then { m with own := m.own.set (i - m.B) b }
  else { m with own := m.own ++ List.replicate (i - m.B - m.own.length) none ++ [b] }

theorem Mem.get_set_same (m : Mem) (i : Nat) (b : Option Blk) : (m.set i b).get i = b := by
  unfold Mem.set
  split
  · rename_i h; simp [Mem.get, h]
  · split
    · rename_i h1 h2; simp [Mem.get, h1, h2]
    · rename_i h1 h2
      simp only [Mem.get, h1, if_false]
      rw [List.getElem?_append_right (by simp; omega)]
      have : i - m.B - (m.own ++ List.replicate (i - m.B - m.own.length) none).length = 0 := by simp; omega
      rw [this]; simp
theorem Mem.get_set_other (m : Mem) (i j : Nat) (b : Option Blk) (h : i ≠ j) : (m.set i b).get j = m.get j := by
  unfold Mem.set
  split
  · rename_i h1
    simp only [Mem.get]
    split
    · rw [if_neg (fun e => h e.symm)]
    · rfl
  · split
    · rename_i h1 h2
      simp only [Mem.get]
      split
      · rfl
      · rw [List.getElem?_set_ne (by omega)]
    · rename_i h1 h2
      simp only [Mem.get]
      split
      · rfl
      · rename_i h3
        by_cases h4 : j - m.B < m.own.length
        · rw [List.append_assoc, List.getElem?_append_left h4]
        · rw [List.getElem?_eq_none (l := m.own) (by omega)]
          by_cases h5 : j - m.B < (m.own ++ List.replicate (i - m.B - m.own.length) none).length
          · rw [List.getElem?_append_left h5, List.getElem?_append_right (by omega)]
            rw [List.getElem?_replicate]
            split <;> rfl
          · rw [List.getElem?_eq_none]
            simp at h5 ⊢
            omega

def Cont.sc (K : Nat → Prop) : Cont → Prop
  | .fin l => AV.scs K l
  | .arr _ L => ∀ l ∈ L, AV.scs K l
  | .loop fr _ _ _ _ => AV.scs K fr
theorem Cont.sc_mono {K K' : Nat → Prop} (h : ∀ i, K i → K' i) : ∀ c : Cont, c.sc K → c.sc K'
  | .fin l, x => AV.scs_mono h l x
  | .arr _ _, x => fun l hl => AV.scs_mono h l (x l hl)
  | .loop fr _ _ _ _, x => AV.scs_mono h fr x

/-- What a block stands for at its place. -/
def Blk.ok (ρ : Env) (w : World) (p : Place) : Blk → Prop
  | ⟨true, .fin l⟩ => p.off = 0 ∧ ∃ e, w.heap[p.b]? = some (.cells ⟨AV.vals ρ l⟩ e (0, 0))
  | ⟨true, .arr sz L⟩ => p.off = 0 ∧ L.length ≤ p.cap ∧ p.cap ≤ maxLen ∧ (∀ l ∈ L, l.length = sz) ∧
      ∃ cur e, w.heap[p.b]? = some (.cells cur e (0, 0)) ∧ cur.size = p.cap * sz ∧ cur.toList.take (L.length * sz) = AV.vals ρ L.flatten
  | ⟨false, .fin l⟩ => p.b < w.heap.size ∧ ∀ (k : Nat) v, l[k]? = some v → w.cell? ⟨p.b, p.off + k, none⟩ = some (v.val ρ)
  | ⟨false, .arr sz L⟩ => p.b < w.heap.size ∧ L.length ≤ p.cap ∧ p.cap ≤ maxLen ∧ (∀ l ∈ L, l.length = sz) ∧
      ∀ (k : Nat) v, L.flatten[k]? = some v → w.cell? ⟨p.b, p.off + k, none⟩ = some (v.val ρ)

  | ⟨true, .loop fr ps asg bd pend⟩ => p.off = 0 ∧ ∃ r : Loop, w.heap[p.b]? = some (.loop r) ∧ r.tmps = ⟨AV.vals ρ fr⟩ ∧ r.params = ⟨ps⟩ ∧ r.assign = asg ∧ r.body = bd ∧ r.pending = pend ∧
      r.state = (if pend.isNone then .ready else .done)
  | ⟨false, .loop ..⟩ => False

structure Sat (G : Nat) (K : Nat → Prop) (ρ : Env) (w : World) (m : Mem) : Prop where
  glob : ∀ g, g < G → K g ∧ (ρ g).b = g ∧ (ρ g).off = 0
  ok : ∀ i b, m.get i = some b → b.ok ρ w (ρ i)
  apart : ∀ i j b c, m.get i = some b → m.get j = some c → i ≠ j → (b.wr = true ∨ c.wr = true) → (ρ i).b ≠ (ρ j).b
  known : ∀ i b, m.get i = some b → K i ∧ b.c.sc K
  few : ∃ N, ∀ i, K i → i < N

theorem Blk.ok_lt {ρ : Env} {w : World} {p : Place} {b : Blk} (h : b.ok ρ w p) : p.b < w.heap.size := by
  match b, h with
  | ⟨true, .fin _⟩, ⟨_, _, h⟩ => exact (Array.getElem?_eq_some_iff.1 h).1
  | ⟨true, .arr ..⟩, ⟨_, _, _, _, _, _, h, _⟩ => exact (Array.getElem?_eq_some_iff.1 h).1
  | ⟨false, .fin _⟩, h => exact h.1
  | ⟨false, .arr ..⟩, h => exact h.1
  | ⟨true, .loop ..⟩, ⟨_, _, h, _⟩ => exact (Array.getElem?_eq_some_iff.1 h).1
  | ⟨false, .loop ..⟩, h => exact h.elim

/-- How one moment follows another: names keep their places, but for new ones; blocks that were there and that are not written stay. -/
structure Step (K : Nat → Prop) (ρ : Env) (w : World) (m : Mem) (K' : Nat → Prop) (ρ' : Env) (w' : World) (m' : Mem) : Prop where
  os : w'.os = w.os
  tape : w'.tape = w.tape
  output : w'.output = w.output
  size : w.heap.size ≤ w'.heap.size
  more : ∀ i, K i → K' i
  env : ∀ i, K i → ρ' i = ρ i
  block : ∀ b, b < w.heap.size → (∀ i c, m.get i = some c → c.wr = true → (ρ i).b ≠ b) → w'.heap[b]? = w.heap[b]?
  from_ : ∀ i c, m'.get i = some c → w.heap.size ≤ (ρ' i).b ∨ ∃ j d, m.get j = some d ∧ (c.wr = true → d.wr = true) ∧ (ρ j).b = (ρ' i).b

theorem Step.refl (K : Nat → Prop) (ρ : Env) (w : World) (m : Mem) : Step K ρ w m K ρ w m :=
  ⟨rfl, rfl, rfl, Nat.le_refl _, fun _ h => h, fun _ _ => rfl, fun _ _ _ => rfl, fun i c h => .inr ⟨i, c, h, id, rfl⟩⟩
theorem Step.trans {K ρ w m K' ρ' w' m' K'' ρ'' w'' m''} (h : Step K ρ w m K' ρ' w' m') (k : Step K' ρ' w' m' K'' ρ'' w'' m'') : Step K ρ w m K'' ρ'' w'' m'' :=
  ⟨k.os.trans h.os, k.tape.trans h.tape, k.output.trans h.output, Nat.le_trans h.size k.size, fun i hi => k.more i (h.more i hi),
   fun i hi => (k.env i (h.more i hi)).trans (h.env i hi),
   fun b hb hn => (k.block b (Nat.lt_of_lt_of_le hb h.size) (fun i c hc hw e => by
      rcases h.from_ i c hc with h1 | ⟨j, d, hj, hd, he⟩
      · omega
      · exact hn j d hj (hd hw) (he.trans e))).trans (h.block b hb hn),
   fun i c hc => by
      rcases k.from_ i c hc with h1 | ⟨j, d, hj, hd, he⟩
      · exact .inl (Nat.le_trans h.size h1)
      · rcases h.from_ j d hj with h2 | ⟨j', d', hj', hd', he'⟩
        · exact .inl (he ▸ h2)
        · exact .inr ⟨j', d', hj', fun hw => hd' (hd hw), he'.trans he⟩⟩

end Go.Fw
