/- How memories go on: a block is laid, written, forgotten. -/
import Derived.Test.YtbndodeihodjfaaGreatFwOpsDef
namespace Go.Fw
set_option linter.unusedVariables false

def addK (K : Nat → Prop) (u : List (Nat × Option Blk)) : Nat → Prop := fun i => K i ∨ i ∈ u.map (·.1)
def Mem.upds (m : Mem) : List (Nat × Option Blk) → Mem
  | [] => m
  | p :: u => (m.set p.1 p.2).upds u

theorem vals_length (ρ : Env) (l : List AV) : (AV.vals ρ l).length = l.length := by rw [vals_eq]; simp
theorem vals_get (ρ : Env) (l : List AV) (k : Nat) : (AV.vals ρ l)[k]? = (l[k]?).map (AV.val ρ) := by rw [vals_eq]; simp
theorem vals_append (ρ : Env) (l r : List AV) : AV.vals ρ (l ++ r) = AV.vals ρ l ++ AV.vals ρ r := by simp [vals_eq]
theorem vals_drop (ρ : Env) (l : List AV) (k : Nat) : AV.vals ρ (l.drop k) = (AV.vals ρ l).drop k := by simp [vals_eq, List.map_drop]
theorem vals_take (ρ : Env) (l : List AV) (k : Nat) : AV.vals ρ (l.take k) = (AV.vals ρ l).take k := by simp [vals_eq, List.map_take]

theorem val_cells (ρ : Env) (v : AV) : (v.val ρ).cells = ⟨AV.vals ρ v.cells⟩ := by
  cases v <;> simp [AV.val, AV.cells, Value.cells, AV.vals]
theorem val_one (ρ : Env) (v : AV) : (v.val ρ).oneCell' = v.one := by
  cases v <;> simp [AV.val, AV.one, Value.oneCell']
theorem sc_cells (K : Nat → Prop) (v : AV) : AV.scs K v.cells ↔ v.sc K := by
  cases v <;> simp [AV.cells, AV.scs, AV.sc]

theorem flatten_len {α : Type} (sz : Nat) : ∀ L : List (List α), (∀ l ∈ L, l.length = sz) → L.flatten.length = L.length * sz
  | [], _ => by simp
  | l :: L, h => by
    simp only [List.flatten_cons, List.length_append, List.length_cons, flatten_len sz L (fun x hx => h x (by simp [hx])), h l (by simp), Nat.add_mul, Nat.one_mul]
    omega
theorem flatten_get {α : Type} (sz : Nat) : ∀ (L : List (List α)), (∀ l ∈ L, l.length = sz) → ∀ (i k : Nat) (c : List α), L[i]? = some c → k < sz → L.flatten[i * sz + k]? = c[k]?
  | [], _, i, k, c, h, _ => by simp at h
  | l :: L, hl, 0, k, c, h, hk => by
    simp at h; subst h
    simp only [List.flatten_cons, Nat.zero_mul, Nat.zero_add]
    rw [List.getElem?_append_left (by rw [hl l (by simp)]; exact hk)]
  | l :: L, hl, i + 1, k, c, h, hk => by
    simp only [List.getElem?_cons_succ] at h
    have h1 := hl l (by simp)
    simp only [List.flatten_cons]
    rw [List.getElem?_append_right (by rw [h1, Nat.add_mul]; omega)]
    have e : (i + 1) * sz + k - l.length = i * sz + k := by rw [h1, Nat.add_mul]; omega
    rw [e]
    exact flatten_get sz L (fun x hx => hl x (by simp [hx])) i k c h hk

theorem cell_of_heap {w : World} {b : Nat} {cs : Array Value} {e : TypeId} {fr : Nat × Nat} (h : w.heap[b]? = some (.cells cs e fr)) (o : Nat) : w.cell? ⟨b, o, none⟩ = cs[o]? := by
  simp [World.cell?, h]

/-- The cells of a block at a place, whatever it is. -/
def Cont.flat : Cont → List AV
  | .fin l => l
  | .arr _ L => L.flatten
  | .loop .. => []

theorem Blk.ok_cell {ρ : Env} {w : World} {p : Place} {b : Blk} (h : b.ok ρ w p) (k : Nat) (v : AV) (hk : b.c.flat[k]? = some v) : w.cell? ⟨p.b, p.off + k, none⟩ = some (v.val ρ) := by
  match b, h with
  | ⟨true, .fin l⟩, ⟨h0, e, h⟩ =>
    rw [cell_of_heap h, h0]
    have : (AV.vals ρ l)[k]? = some (v.val ρ) := by rw [vals_get]; simp [Cont.flat] at hk; simp [hk]
    simpa using this
  | ⟨true, .arr sz L⟩, ⟨h0, h1, h2, h3, cur, e, h, hs, ht⟩ =>
    rw [cell_of_heap h, h0]
    simp only [Cont.flat] at hk
    have hlt : k < L.length * sz := by
      rw [← flatten_len sz L h3]
      rcases Nat.lt_or_ge k L.flatten.length with h | h
      · exact h
      · rw [List.getElem?_eq_none h] at hk; cases hk
    have : (AV.vals ρ L.flatten)[k]? = some (v.val ρ) := by rw [vals_get]; simp [hk]
    rw [← ht, List.getElem?_take, if_pos hlt] at this
    simpa using this
  | ⟨false, .fin l⟩, h => exact h.2 k v hk
  | ⟨false, .arr sz L⟩, ⟨_, _, _, _, h⟩ => exact h k v hk
  | ⟨true, .loop ..⟩, _ => simp [Cont.flat] at hk
  | ⟨false, .loop ..⟩, h => exact h.elim

theorem Blk.ok_congr {K : Nat → Prop} {ρ ρ' : Env} {w w' : World} {p : Place} {b : Blk} (h : b.ok ρ w p) (hh : w'.heap[p.b]? = w.heap[p.b]?) (hs : w.heap.size ≤ w'.heap.size)
    (hk : b.c.sc K) (he : ∀ i, K i → ρ' i = ρ i) : b.ok ρ' w' p := by
  have hc : ∀ o, w'.cell? ⟨p.b, o, none⟩ = w.cell? ⟨p.b, o, none⟩ := fun o => by simp [World.cell?, hh]
  match b, h with
  | ⟨true, .fin l⟩, ⟨h0, e, h⟩ => exact ⟨h0, e, by rw [hh, h, AV.vals_congr he l hk]⟩
  | ⟨true, .arr sz L⟩, ⟨h0, h1, h2, h3, cur, e, h, hs', ht⟩ =>
    refine ⟨h0, h1, h2, h3, cur, e, by rw [hh, h], hs', ?_⟩
    rw [ht, AV.vals_congr he L.flatten ((scs_iff K _).2 fun v hv => by
      obtain ⟨l, hl, hv⟩ := List.mem_flatten.1 hv
      exact (scs_iff K l).1 (hk l hl) v hv)]
  | ⟨false, .fin l⟩, ⟨h0, h⟩ =>
    refine ⟨Nat.lt_of_lt_of_le h0 hs, fun k v hv => ?_⟩
    rw [hc, h k v hv, AV.val_congr he v ((scs_iff K l).1 hk v (List.mem_of_getElem? hv))]
  | ⟨false, .arr sz L⟩, ⟨h0, h1, h2, h3, h⟩ =>
    refine ⟨Nat.lt_of_lt_of_le h0 hs, h1, h2, h3, fun k v hv => ?_⟩
    rw [hc, h k v hv]
    obtain ⟨l, hl, hv'⟩ := List.mem_flatten.1 (List.mem_of_getElem? hv)
    rw [AV.val_congr he v ((scs_iff K l).1 (hk l hl) v hv')]
  | ⟨true, .loop fr ps asg bd pend⟩, ⟨h0, r, h1, h2, h3⟩ => exact ⟨h0, r, by rw [hh, h1], by rw [h2, AV.vals_congr he fr hk], h3⟩
  | ⟨false, .loop ..⟩, h => exact h.elim

/-- The general step: of each block that the new memory tells, either it is told as before and its memory is as it was, or it is told anew. -/
theorem sat_next {G : Nat} {K K' : Nat → Prop} {ρ ρ' : Env} {w w' : World} {m m' : Mem} (h : Sat G K ρ w m)
    (hos : w'.os = w.os) (htape : w'.tape = w.tape) (hout : w'.output = w.output) (hsize : w.heap.size ≤ w'.heap.size)
    (hK : ∀ i, K i → K' i) (hfew : ∃ N, ∀ i, K' i → i < N) (henv : ∀ i, K i → ρ' i = ρ i)
    (hblock : ∀ b, b < w.heap.size → (∀ i c, m.get i = some c → c.wr = true → (ρ i).b ≠ b) → w'.heap[b]? = w.heap[b]?)
    (hm : ∀ i b, m'.get i = some b → (m.get i = some b ∧ w'.heap[(ρ i).b]? = w.heap[(ρ i).b]?) ∨
      (b.ok ρ' w' (ρ' i) ∧ K' i ∧ b.c.sc K' ∧ (w.heap.size ≤ (ρ' i).b ∨ ∃ j d, m.get j = some d ∧ (b.wr = true → d.wr = true) ∧ (ρ j).b = (ρ' i).b)))
    (hap : ∀ i j b c, m'.get i = some b → m'.get j = some c → i ≠ j → (b.wr = true ∨ c.wr = true) → (ρ' i).b ≠ (ρ' j).b) :
    Step K ρ w m K' ρ' w' m' ∧ Sat G K' ρ' w' m' := by
  refine ⟨⟨hos, htape, hout, hsize, hK, henv, hblock, ?_⟩, ⟨?_, ?_, hap, ?_, hfew⟩⟩
  · intro i c hc
    rcases hm i c hc with ⟨h1, _⟩ | ⟨_, _, _, h2⟩
    · rw [henv i (h.known i c h1).1]; exact .inr ⟨i, c, h1, id, rfl⟩
    · exact h2
  · intro g hg
    obtain ⟨a, b, c⟩ := h.glob g hg
    rw [henv g a]; exact ⟨hK g a, b, c⟩
  · intro i b hb
    rcases hm i b hb with ⟨h1, h2⟩ | ⟨h1, _⟩
    · have hk := h.known i b h1
      rw [henv i hk.1]
      exact Blk.ok_congr (h.ok i b h1) h2 hsize hk.2 henv
    · exact h1
  · intro i b hb
    rcases hm i b hb with ⟨h1, _⟩ | ⟨_, h2, h3, _⟩
    · have hk := h.known i b h1
      exact ⟨hK i hk.1, b.c.sc_mono hK hk.2⟩
    · exact ⟨h2, h3⟩

/-- A new block. -/
theorem sat_new {G : Nat} {K : Nat → Prop} {ρ : Env} {w : World} {m : Mem} (h : Sat G K ρ w m) {nf : Nat} (hn : ¬ K nf) {b : Blk} (hsc : b.c.sc K) {p : Place}
    {o : Obj} (hp : p.b = w.heap.size) {w' : World} (hw' : w' = { w with heap := w.heap.push o, drawn := w'.drawn })
    (hok : ∀ ρ' : Env, (∀ i, K i → ρ' i = ρ i) → ρ' nf = p → b.ok ρ' w' p) :
    ∃ ρ' : Env, ρ' nf = p ∧ Step K ρ w m (addK K [(nf, some b)]) ρ' w' (m.upds [(nf, some b)]) ∧ Sat G (addK K [(nf, some b)]) ρ' w' (m.upds [(nf, some b)]) := by
  refine ⟨fun i => if i = nf then p else ρ i, by simp, ?_⟩
  have henv : ∀ i, K i → (if i = nf then p else ρ i) = ρ i := fun i hi => if_neg (fun e => by subst e; exact hn hi)
  have hheap : w'.heap = w.heap.push o := by rw [hw']
  have hold : ∀ k, k < w.heap.size → w'.heap[k]? = w.heap[k]? := fun k hk => by rw [hheap, Array.getElem?_push, if_neg (by omega)]
  have hget : ∀ i, (m.upds [(nf, some b)]).get i = if i = nf then some b else m.get i := fun i => by
    simp only [Mem.upds]
    split
    · rename_i e; rw [e, Mem.get_set_same]
    · rename_i e; rw [Mem.get_set_other _ _ _ _ (fun x => e x.symm)]
  refine sat_next h (by rw [hw']) (by rw [hw']) (by rw [hw']) (by rw [hheap]; simp) (fun i hi => .inl hi) ?_ henv (fun b hb _ => hold b hb) ?_ ?_
  · obtain ⟨N, hN⟩ := h.few
    refine ⟨max N (nf + 1), fun i hi => ?_⟩
    rcases hi with hi | hi
    · have := hN i hi; omega
    · simp at hi; omega
  · intro i c hc
    rw [hget] at hc
    split at hc
    · rename_i e
      cases hc
      subst e
      refine .inr ⟨by simpa using hok _ henv (by simp), .inr (by simp), b.c.sc_mono (fun _ x => .inl x) hsc, (.inl (by simp [hp]))⟩
    · exact .inl ⟨hc, hold _ (Blk.ok_lt (h.ok i c hc))⟩
  · intro i j b' c hb hc hij hw
    rw [hget] at hb hc
    have hlt : ∀ i c, m.get i = some c → (ρ i).b < w.heap.size := fun i c hc => Blk.ok_lt (h.ok i c hc)
    split at hb <;> split at hc
    · rename_i e1 e2; exact absurd (e1.trans e2.symm) hij
    · rename_i e1 e2; simp only [e1, e2, if_true, if_false]; have := hlt j c hc; omega
    · rename_i e1 e2; simp only [e1, e2, if_true, if_false]; have := hlt i b' hb; omega
    · rename_i e1 e2; simp only [e1, e2, if_false]; exact h.apart i j b' c hb hc hij hw

/-- A block that may be written is told anew: its memory alone has turned. -/
theorem sat_write {G : Nat} {K : Nat → Prop} {ρ : Env} {w : World} {m : Mem} (h : Sat G K ρ w m) {nm : Nat} {b0 b : Blk} (h0 : m.get nm = some b0) (hw : b0.wr = true) (hsc : b.c.sc K)
    {w' : World} (hos : w'.os = w.os) (htape : w'.tape = w.tape) (hout : w'.output = w.output) (hsize : w.heap.size ≤ w'.heap.size)
    (hh : ∀ k, k < w.heap.size → k ≠ (ρ nm).b → w'.heap[k]? = w.heap[k]?) (hok : b.ok ρ w' (ρ nm)) :
    Step K ρ w m (addK K [(nm, some b)]) ρ w' (m.upds [(nm, some b)]) ∧ Sat G (addK K [(nm, some b)]) ρ w' (m.upds [(nm, some b)]) := by
  have hget : ∀ i, (m.upds [(nm, some b)]).get i = if i = nm then some b else m.get i := fun i => by
    simp only [Mem.upds]
    split
    · rename_i e; rw [e, Mem.get_set_same]
    · rename_i e; rw [Mem.get_set_other _ _ _ _ (fun x => e x.symm)]
  have hkn : K nm := (h.known nm b0 h0).1
  refine sat_next h hos htape hout hsize (fun i hi => .inl hi) ?_ (fun _ _ => rfl) ?_ ?_ ?_
  · obtain ⟨N, hN⟩ := h.few
    refine ⟨N, fun i hi => ?_⟩
    rcases hi with hi | hi
    · exact hN i hi
    · simp at hi; subst hi; exact hN _ hkn
  · intro k hk hn
    exact hh k hk (fun e => hn nm b0 h0 hw e.symm)
  · intro i c hc
    rw [hget] at hc
    split at hc
    · rename_i e
      cases hc; subst e
      exact .inr ⟨hok, .inl hkn, b.c.sc_mono (fun _ x => .inl x) hsc, (.inr ⟨i, b0, h0, fun _ => hw, rfl⟩)⟩
    · rename_i e
      exact .inl ⟨hc, hh _ (Blk.ok_lt (h.ok i c hc)) (h.apart i nm c b0 hc h0 e (.inr hw))⟩
  · intro i j b' c hb hc hij hwr
    rw [hget] at hb hc
    split at hb <;> split at hc
    · rename_i e1 e2; exact absurd (e1.trans e2.symm) hij
    · rename_i e1 e2; rw [e1]; exact h.apart nm j b0 c h0 hc (fun e => e2 e.symm) (.inl hw)
    · rename_i e1 e2; rw [e2]; exact h.apart i nm b' b0 hb h0 e1 (.inr hw)
    · exact h.apart i j b' c hb hc hij hwr

/-- Nothing has turned, less is told. -/
theorem sat_less {G : Nat} {K : Nat → Prop} {ρ : Env} {w : World} {m m' : Mem} (h : Sat G K ρ w m) (hm : ∀ i b, m'.get i = some b → m.get i = some b) :
    Step K ρ w m K ρ w m' ∧ Sat G K ρ w m' :=
  sat_next h rfl rfl rfl (Nat.le_refl _) (fun _ h => h) h.few (fun _ _ => rfl) (fun _ _ _ => rfl) (fun i b hb => .inl ⟨hm i b hb, rfl⟩) (fun i j b c hb hc => h.apart i j b c (hm i b hb) (hm j c hc))

theorem step_upd_none (m : Mem) : m.upds [] = m := rfl
theorem addK_nil (K : Nat → Prop) : addK K [] = K := by funext i; simp [addK]

end Go.Fw
