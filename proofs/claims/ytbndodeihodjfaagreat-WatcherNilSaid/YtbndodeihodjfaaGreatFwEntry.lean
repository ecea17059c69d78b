/- A contract from a run of the body. -/
import Derived.Test.YtbndodeihodjfaaGreatFwRunLaw
import Derived.RangeFuncLeaves
namespace Go.Fw
set_option linter.unusedVariables false
set_option linter.unusedSimpArgs false

/-! ### Renaming -/
mutual
def AV.ren (σ : Nat → Nat) : AV → AV
  | .ptr nm o => .ptr (σ nm) o
  | .eptr nm sz i k => .eptr (σ nm) sz i k
  | .slice nm len => .slice (σ nm) len
  | .sub nm sz lo len => .sub (σ nm) sz lo len
  | .func f caps => .func f (AV.rens σ caps)
  | .mfunc name recv => .mfunc name (AV.ren σ recv)
  | .yield nm => .yield (σ nm)
  | .iface t v => .iface t (AV.ren σ v)
  | .agg l => .agg (AV.rens σ l)
  | .tuple l => .tuple (AV.rens σ l)
  | .map nm => .map (σ nm)
  | v => v
def AV.rens (σ : Nat → Nat) : List AV → List AV
  | [] => []
  | v :: l => AV.ren σ v :: AV.rens σ l
end
mutual
theorem AV.val_ren {ρ ρ' : Env} {σ : Nat → Nat} {K : Nat → Prop} (h : ∀ i, K i → ρ' (σ i) = ρ i) : ∀ v : AV, v.sc K → (v.ren σ).val ρ' = v.val ρ
  | .int .., _ | .bool _, _ | .str _, _ | .nil, _ | .nilSlice, _ | .nilFunc, _ | .nilIface, _ | .nilMap, _ => by simp [AV.val, AV.ren]
  | .ptr .., x | .eptr .., x | .slice .., x | .sub .., x | .yield _, x | .map _, x => by simp only [AV.sc] at x; simp only [AV.val, AV.ren, h _ x]
  | .func _ l, x => by simp only [AV.sc] at x; simp only [AV.val, AV.ren, AV.vals_ren h l x]
  | .mfunc _ v, x => by simp only [AV.sc] at x; simp only [AV.val, AV.ren, AV.val_ren h v x]
  | .iface _ v, x => by simp only [AV.sc] at x; simp only [AV.val, AV.ren, AV.val_ren h v x]
  | .agg l, x => by simp only [AV.sc] at x; simp only [AV.val, AV.ren, AV.vals_ren h l x]
  | .tuple l, x => by simp only [AV.sc] at x; simp only [AV.val, AV.ren, AV.vals_ren h l x]
theorem AV.vals_ren {ρ ρ' : Env} {σ : Nat → Nat} {K : Nat → Prop} (h : ∀ i, K i → ρ' (σ i) = ρ i) : ∀ l : List AV, AV.scs K l → AV.vals ρ' (AV.rens σ l) = AV.vals ρ l
  | [], _ => by simp [AV.vals, AV.rens]
  | v :: l, x => by simp only [AV.scs] at x; simp only [AV.vals, AV.rens, AV.val_ren h v x.1, AV.vals_ren h l x.2]
end
mutual
theorem AV.sc_ren {σ : Nat → Nat} {K K' : Nat → Prop} (h : ∀ i, K i → K' (σ i)) : ∀ v : AV, v.sc K → (v.ren σ).sc K'
  | .int .., _ | .bool _, _ | .str _, _ | .nil, _ | .nilSlice, _ | .nilFunc, _ | .nilIface, _ | .nilMap, _ => by simp [AV.sc, AV.ren]
  | .ptr .., x | .eptr .., x | .slice .., x | .sub .., x | .yield _, x | .map _, x => by simp only [AV.sc] at x; simp only [AV.sc, AV.ren]; exact h _ x
  | .func _ l, x => by simp only [AV.sc] at x; simp only [AV.sc, AV.ren]; exact AV.scs_ren h l x
  | .mfunc _ v, x => by simp only [AV.sc] at x; simp only [AV.sc, AV.ren]; exact AV.sc_ren h v x
  | .iface _ v, x => by simp only [AV.sc] at x; simp only [AV.sc, AV.ren]; exact AV.sc_ren h v x
  | .agg l, x => by simp only [AV.sc] at x; simp only [AV.sc, AV.ren]; exact AV.scs_ren h l x
  | .tuple l, x => by simp only [AV.sc] at x; simp only [AV.sc, AV.ren]; exact AV.scs_ren h l x
theorem AV.scs_ren {σ : Nat → Nat} {K K' : Nat → Prop} (h : ∀ i, K i → K' (σ i)) : ∀ l : List AV, AV.scs K l → AV.scs K' (AV.rens σ l)
  | [], _ => by simp [AV.scs, AV.rens]
  | v :: l, x => by simp only [AV.scs] at x; simp only [AV.scs, AV.rens]; exact ⟨AV.sc_ren h v x.1, AV.scs_ren h l x.2⟩
end
def Cont.ren (σ : Nat → Nat) : Cont → Cont
  | .fin l => .fin (AV.rens σ l)
  | .arr sz L => .arr sz (L.map (AV.rens σ))
  | .loop fr ps asg bd pend => .loop (AV.rens σ fr) ps asg bd pend
def Blk.ren (σ : Nat → Nat) (b : Blk) : Blk := ⟨b.wr, b.c.ren σ⟩
theorem rens_eq (σ : Nat → Nat) (l : List AV) : AV.rens σ l = l.map (AV.ren σ) := by
  induction l with
  | nil => simp [AV.rens]
  | cons v l ih => simp [AV.rens, ih]
theorem rens_flatten (σ : Nat → Nat) (L : List (List AV)) : (L.map (AV.rens σ)).flatten = AV.rens σ L.flatten := by
  induction L with
  | nil => simp [AV.rens]
  | cons l L ih => simp [ih, rens_eq]
theorem Cont.sc_ren {σ : Nat → Nat} {K K' : Nat → Prop} (h : ∀ i, K i → K' (σ i)) : ∀ c : Cont, c.sc K → (c.ren σ).sc K'
  | .fin l, x => AV.scs_ren h l x
  | .arr _ L, x => by
    intro l hl
    simp only [List.mem_map] at hl
    obtain ⟨l0, h0, rfl⟩ := hl
    exact AV.scs_ren h l0 (x l0 h0)
  | .loop fr _ _ _ _, x => AV.scs_ren h fr x

mutual
theorem AV.ren_id : ∀ v : AV, v.ren id = v
  | .int .. | .bool _ | .str _ | .nil | .nilSlice | .nilFunc | .nilIface | .nilMap | .ptr .. | .eptr .. | .slice .. | .sub .. | .yield _ | .map _ => by simp [AV.ren]
  | .func _ l => by simp only [AV.ren, AV.rens_id l]
  | .mfunc _ v => by simp only [AV.ren, AV.ren_id v]
  | .iface _ v => by simp only [AV.ren, AV.ren_id v]
  | .agg l => by simp only [AV.ren, AV.rens_id l]
  | .tuple l => by simp only [AV.ren, AV.rens_id l]
theorem AV.rens_id : ∀ l : List AV, AV.rens id l = l
  | [] => by simp [AV.rens]
  | v :: l => by simp only [AV.rens, AV.ren_id v, AV.rens_id l]
end
theorem Blk.ren_id (b : Blk) : b.ren id = b := by
  rcases b with ⟨wr, c⟩
  cases c with
  | fin l => simp [Blk.ren, Cont.ren, AV.rens_id]
  | arr sz L =>
    simp only [Blk.ren, Cont.ren]
    rw [show L.map (AV.rens id) = L from (List.map_congr_left fun l _ => AV.rens_id l).trans (List.map_id L)]
  | loop fr ps asg bd pend => simp [Blk.ren, Cont.ren, AV.rens_id]

theorem scs_flatten {K : Nat → Prop} {L : List (List AV)} (h : ∀ l ∈ L, AV.scs K l) : AV.scs K L.flatten := by
  rw [scs_iff]
  intro v hv
  obtain ⟨l, hl, hvl⟩ := List.mem_flatten.1 hv
  exact (scs_iff K l).1 (h l hl) v hvl

theorem Blk.ok_ren {ρ ρ' : Env} {σ : Nat → Nat} {K : Nat → Prop} (h : ∀ i, K i → ρ' (σ i) = ρ i) {w : World} {p : Place} {b : Blk} (hs : b.c.sc K) (hb : b.ok ρ w p) : (b.ren σ).ok ρ' w p := by
  rcases b with ⟨wr, c⟩
  cases wr <;> cases c with
  | fin l =>
    simp only [Cont.sc] at hs
    have he := AV.vals_ren h l hs
    first
      | (refine ⟨hb.1, fun k v hv => ?_⟩
         have h1 : (AV.vals ρ' (AV.rens σ l))[k]? = some (v.val ρ') := by rw [vals_get, hv]; rfl
         rw [he, vals_get] at h1
         cases hq : l[k]? with
         | none => rw [hq] at h1; cases h1
         | some u =>
           rw [hq] at h1
           injection h1 with h1
           rw [← h1]; exact hb.2 k u hq)
      | (obtain ⟨h0, e, h1⟩ := hb
         refine ⟨h0, e, ?_⟩
         rw [he]; exact h1)
  | arr sz L =>
    have hs' : AV.scs K L.flatten := scs_flatten hs
    have he := AV.vals_ren h L.flatten hs'
    have hlen : ∀ l ∈ L.map (AV.rens σ), l.length = sz → True := fun _ _ _ => trivial
    have hlens : (∀ l ∈ L, l.length = sz) → ∀ l ∈ L.map (AV.rens σ), l.length = sz := by
      intro hl l hm
      obtain ⟨l0, h0, rfl⟩ := List.mem_map.1 hm
      rw [rens_eq, List.length_map]; exact hl l0 h0
    first
      | (obtain ⟨h0, h1, h2, h3, h4⟩ := hb
         refine ⟨h0, by simpa using h1, h2, hlens h3, fun k v hv => ?_⟩
         rw [rens_flatten] at hv
         have h5 : (AV.vals ρ' (AV.rens σ L.flatten))[k]? = some (v.val ρ') := by rw [vals_get, hv]; rfl
         rw [he, vals_get] at h5
         cases hq : L.flatten[k]? with
         | none => rw [hq] at h5; cases h5
         | some u =>
           rw [hq] at h5
           injection h5 with h5
           rw [← h5]; exact h4 k u hq)
      | (obtain ⟨h0, h1, h2, h3, cur, e, h4, h5, h6⟩ := hb
         refine ⟨h0, by simpa using h1, h2, hlens h3, cur, e, h4, h5, ?_⟩
         rw [rens_flatten, he, List.length_map]; exact h6)
  | loop fr ps asg bd pend =>
    first
      | exact hb.elim
      | (obtain ⟨h0, r, h1, h2, h3⟩ := hb
         exact ⟨h0, r, h1, by rw [h2, AV.vals_ren h fr hs], h3⟩)

mutual
theorem sc_and {K K' : Nat → Prop} : ∀ {v : AV}, v.sc K → v.sc K' → v.sc (fun i => K i ∧ K' i)
  | .int .., _, _ | .bool _, _, _ | .str _, _, _ | .nil, _, _ | .nilSlice, _, _ | .nilFunc, _, _ | .nilIface, _, _ | .nilMap, _, _ => by simp [AV.sc]
  | .ptr .., x, y | .eptr .., x, y | .slice .., x, y | .sub .., x, y | .yield _, x, y | .map _, x, y => by simp only [AV.sc] at x y ⊢; exact ⟨x, y⟩
  | .func _ l, x, y => by simp only [AV.sc] at x y ⊢; exact scs_and x y
  | .mfunc _ v, x, y => by simp only [AV.sc] at x y ⊢; exact sc_and x y
  | .iface _ v, x, y => by simp only [AV.sc] at x y ⊢; exact sc_and x y
  | .agg l, x, y => by simp only [AV.sc] at x y ⊢; exact scs_and x y
  | .tuple l, x, y => by simp only [AV.sc] at x y ⊢; exact scs_and x y
theorem scs_and {K K' : Nat → Prop} : ∀ {l : List AV}, AV.scs K l → AV.scs K' l → AV.scs (fun i => K i ∧ K' i) l
  | [], _, _ => by simp [AV.scs]
  | v :: l, x, y => by simp only [AV.scs] at x y ⊢; exact ⟨sc_and x.1 y.1, scs_and x.2 y.2⟩
end
theorem csc_and {K K' : Nat → Prop} : ∀ {c : Cont}, c.sc K → c.sc K' → c.sc (fun i => K i ∧ K' i)
  | .fin l, x, y => scs_and x y
  | .arr _ L, x, y => fun l hl => scs_and (x l hl) (y l hl)
  | .loop fr _ _ _ _, x, y => scs_and x y
theorem Blk.ok_env {K : Nat → Prop} {ρ ρ' : Env} (h : ∀ i, K i → ρ' i = ρ i) {w : World} {p : Place} {b : Blk} (hs : b.c.sc K) (hb : b.ok ρ w p) : b.ok ρ' w p := by
  have := Blk.ok_ren (σ := id) (fun i hi => h i hi) hs hb
  rwa [show b.ren id = b from Blk.ren_id b] at this

/-! ### Results -/
def resOne (P : Program) (s : St) : ResultVar → Option AV
  | .tmp t => some (s.fr.get t)
  | .cell a t => match TY P t with
    | some T => match s.m.loadN (s.fr.get a) T.size with
      | some cs => if T.agg then some (.agg cs) else (match cs with
        | [v] => some v
        | _ => none)
      | none => none
    | none => none
def resAll (P : Program) (s : St) : List ResultVar → Option (List AV)
  | [] => some []
  | r :: l => match resOne P s r, resAll P s l with
    | some v, some vs => some (v :: vs)
    | _, _ => none
def oneOf : List AV → AV
  | [v] => v
  | vs => .tuple vs
def rvOk (N : Nat) : ResultVar → Bool
  | .tmp t => decide (t < N)
  | .cell a _ => decide (a < N)

def resSem (tmps : Array Value) : ResultVar → Sem Value
  | .tmp t => pure (tmps.getD t undef)
  | .cell a t => do loadVar t (← asAddr (tmps.getD a undef))
theorem results_eq (fn : Func) (tmps : Array Value) : results fn tmps = (do
    let vs ← fn.results.mapM (resSem tmps)
    pure (if h : vs.size = 1 then vs[0] else .tuple vs)) := rfl

theorem resOne_ok {P : Program} {N z K ρ a w s} (hR : Rel P N z K ρ a w s) {r : ResultVar} (hr : rvOk N r = true) {v : AV} (h : resOne P s r = some v) :
    v.sc K ∧ (resSem a.tmps r).run P w = .ok (v.val ρ) w := by
  cases r with
  | tmp t =>
    simp only [rvOk, decide_eq_true_eq] at hr
    simp only [resOne] at h
    cases h
    obtain ⟨_, h2, h3⟩ := hR.tm t hr
    exact ⟨h3, by simp [resSem, h2]⟩
  | cell b t =>
    simp only [rvOk, decide_eq_true_eq] at hr
    simp only [resOne] at h
    split at h
    · rename_i T hT
      split at h
      · rename_i cs hcs
        obtain ⟨_, h2, h3⟩ := hR.tm b hr
        obtain ⟨q1, q2, q3⟩ := ok_load hR.sat (re := a.eval) (evf := ev s.fr) (x := .tmp b) ⟨by simp only [ev, Act.eval]; exact h2.symm, h3⟩ hT hcs
        have hload : ∀ u : Value, (Instr.loadAt t (a.eval (.tmp b))).run P w = .ok u w → (resSem a.tmps (.cell b t)).run P w = .ok u w := by
          intro u hu
          obtain ⟨b', o, hv, _⟩ := loadN_cells hR.sat hcs
          have e1 : a.tmps.getD b undef = .pointer (some ⟨b', o, none⟩) := by rw [h2, ← hv]
          have e2 : a.eval (.tmp b) = .pointer (some ⟨b', o, none⟩) := by simp only [Act.eval]; exact e1
          rw [e2] at hu
          simpa [resSem, e1, Instr.loadAt, Instr.sureAddr, asAddr] using hu
        split at h
        · rename_i ha
          cases h
          exact ⟨q3, hload _ (q1 ha)⟩
        · rename_i ha
          have ha' : T.agg = false := by simpa using ha
          split at h
          · rename_i x
            cases h
            refine ⟨?_, hload _ (q2 ha' _ rfl)⟩
            simp only [AV.scs] at q3; exact q3.1
          · cases h
      · cases h
    · cases h

theorem resAll_ok {P : Program} {N z K ρ a w s} (hR : Rel P N z K ρ a w s) : ∀ (l : List ResultVar), l.all (rvOk N) = true → ∀ (vs : List AV), resAll P s l = some vs →
    AV.scs K vs ∧ (l.mapM (resSem a.tmps)).run P w = .ok (AV.vals ρ vs) w
  | [], _, vs, h => by simp only [resAll] at h; cases h; exact ⟨by simp [AV.scs], by simp [AV.vals]⟩
  | r :: l, hl, vs, h => by
    simp only [List.all_cons, Bool.and_eq_true] at hl
    simp only [resAll] at h
    split at h
    · rename_i v vs' h1 h2
      cases h
      obtain ⟨a1, a2⟩ := resOne_ok hR hl.1 h1
      obtain ⟨b1, b2⟩ := resAll_ok hR l hl.2 vs' h2
      refine ⟨⟨a1, b1⟩, ?_⟩
      rw [List.mapM_cons]
      simp only [Sem.run_bind, a2, Result.andThen_ok, b2, run_sem_pure, AV.vals]
    · cases h

theorem results_ok {P : Program} {N z K ρ a w s} (hR : Rel P N z K ρ a w s) {fn : Func} (hl : fn.results.toList.all (rvOk N) = true) {vs : List AV} (h : resAll P s fn.results.toList = some vs) :
    (oneOf vs).sc K ∧ (results fn a.tmps).run P w = .ok ((oneOf vs).val ρ) w := by
  obtain ⟨h1, h2⟩ := resAll_ok hR _ hl vs h
  refine ⟨?_, ?_⟩
  · unfold oneOf
    split
    · simp only [AV.scs] at h1; exact h1.1
    · exact h1
  · rw [results_eq, Array.mapM_eq_mapM_toList]
    simp only [Sem.run_bind, Sem.run_map, h2, Result.andThen_ok, run_sem_pure]
    match vs with
    | [] => simp [oneOf, AV.vals, AV.val]
    | [v] => simp [oneOf, AV.vals]
    | v :: v' :: l => simp [oneOf, AV.vals, AV.val]

/-! ### Marks -/
theorem step_takes {P : Program} {w : World} {D : Nat} (h : w.heap[D]? = some (.deferred (some []))) :
    (Instr.takeDeferred D).run P w = .ok [] { w with heap := w.heap.setIfInBounds D (.deferred none) } := by
  have hlt : D < w.heap.size := (Array.getElem?_eq_some_iff.1 h).1
  have e : w.heap[D] = .deferred (some []) := by rw [Array.getElem?_eq_getElem hlt] at h; injection h
  simp [Instr.takeDeferred, getObj, setObj, Sem.run, hlt, e, Result.andThen_ok]

theorem Blk.ok_mark {ρ : Env} {w : World} {p : Place} {b : Blk} (h : b.ok ρ w p) {D : Nat} (hd : w.heap[D]? = some (.deferred (some []))) :
    b.ok ρ { w with heap := w.heap.setIfInBounds D (.deferred none) } p := by
  have hne : ∀ {cs e fr}, w.heap[p.b]? = some (.cells cs e fr) → (w.heap.setIfInBounds D (.deferred none))[p.b]? = some (.cells cs e fr) := by
    intro cs e fr hc
    have : D ≠ p.b := by rintro rfl; rw [hd] at hc; cases hc
    rw [Array.getElem?_setIfInBounds_ne this]; exact hc
  have hcell : ∀ (o : Nat) (v : Value), w.cell? ⟨p.b, o, none⟩ = some v → World.cell? { w with heap := w.heap.setIfInBounds D (.deferred none) } ⟨p.b, o, none⟩ = some v := by
    intro o v hc
    by_cases e : D = p.b
    · subst e
      simp [World.cell?, hd] at hc
    · simp only [World.cell?] at hc ⊢
      rw [Array.getElem?_setIfInBounds_ne e]; exact hc
  rcases b with ⟨wr, c⟩
  cases wr <;> cases c with
  | fin l =>
    first
      | exact ⟨by simpa using h.1, fun k v hv => hcell _ _ (h.2 k v hv)⟩
      | (obtain ⟨h0, e, h1⟩ := h
         exact ⟨h0, e, hne h1⟩)
  | arr sz L =>
    first
      | exact ⟨by simpa using h.1, h.2.1, h.2.2.1, h.2.2.2.1, fun k v hv => hcell _ _ (h.2.2.2.2 k v hv)⟩
      | (obtain ⟨h0, h1, h2, h3, cur, e, h4, h5, h6⟩ := h
         exact ⟨h0, h1, h2, h3, cur, e, hne h4, h5, h6⟩)
  | loop fr ps asg bd pend =>
    first
      | exact h.elim
      | (obtain ⟨h0, r, h1, h2⟩ := h
         have : D ≠ p.b := by rintro rfl; rw [hd] at h1; cases h1
         exact ⟨h0, r, by rw [Array.getElem?_setIfInBounds_ne this]; exact h1, h2⟩)

theorem sat_mark {G K0 ρ0 w0 m0 K ρ w m} (hS : Step K0 ρ0 w0 m0 K ρ w m) (h : Sat G K ρ w m) {D : Nat} (hD : w0.heap.size ≤ D) (hd : w.heap[D]? = some (.deferred (some []))) :
    Step K0 ρ0 w0 m0 K ρ { w with heap := w.heap.setIfInBounds D (.deferred none) } m ∧ Sat G K ρ { w with heap := w.heap.setIfInBounds D (.deferred none) } m := by
  refine ⟨⟨hS.os, hS.tape, hS.output, by simpa using hS.size, hS.more, hS.env, fun b hb hn => ?_, hS.from_⟩, ⟨h.glob, fun i b hb => Blk.ok_mark (h.ok i b hb) hd, h.apart, h.known, h.few⟩⟩
  have : D ≠ b := by omega
  simp only
  rw [Array.getElem?_setIfInBounds_ne this]; exact hS.block b hb hn

/-- Leaving: the marks are taken, the results are read. -/
theorem leave_ok {P : Program} {fn : Func} {tmps : Array Value} {R : Ending → World → Prop} {K0 ρ0 w0 m0 K ρ} {m : Mem} {v : Value} : ∀ (L : List Nat) (w : World),
    Step K0 ρ0 w0 m0 K ρ w m → Sat P.globals.size K ρ w m → L.Nodup → (∀ D ∈ L, w0.heap.size ≤ D ∧ w.heap[D]? = some (.deferred (some []))) →
    (∀ w', Step K0 ρ0 w0 m0 K ρ w' m → Sat P.globals.size K ρ w' m → (results fn tmps).run P w' = .ok v w' ∧ R (.returned v) w') →
    ∀ n, LeavesInM Fence.wide n P fn tmps R (L.map markOf) .returning w
  | [], w, hS, h, _, _, hr => fun n => by
    obtain ⟨h1, h2⟩ := hr w hS h
    exact ⟨v, h1, h2⟩
  | D :: L, w, hS, h, hn, hD, hr => fun n => by
    obtain ⟨h1, h2⟩ := hD D (by simp)
    obtain ⟨h3, h4⟩ := sat_mark hS h h1 h2
    simp only [List.nodup_cons] at hn
    refine ⟨by simp, .inl ⟨D, _, rfl, step_takes h2, leave_ok L _ h3 h4 hn.2 (fun D' hD' => ?_) hr n⟩⟩
    obtain ⟨h5, h6⟩ := hD D' (by simp [hD'])
    refine ⟨h5, ?_⟩
    have : D ≠ D' := by rintro rfl; exact hn.1 hD'
    simp only
    rw [Array.getElem?_setIfInBounds_ne this]; exact h6

/-! ### Entering -/
def putAll : Tr → Nat → List AV → Tr
  | t, _, [] => t
  | t, i, v :: l => putAll (t.put i v) (i + 1) l
theorem mem_putAll : ∀ (l : List AV) (t : Tr) (i j : Nat), (putAll t i l).mem j = t.mem j
  | [], _, _, _ => rfl
  | v :: l, t, i, j => by simp only [putAll]; rw [mem_putAll l, Tr.mem_put]
theorem get_putAll : ∀ (l : List AV) (t : Tr) (i j : Nat), t.mem j = true → (putAll t i l).get j = if i ≤ j ∧ j < i + l.length then (l[j - i]?).getD undefA else t.get j
  | [], t, i, j, _ => by
    simp only [putAll, List.length_nil]
    rw [if_neg (by omega)]
  | v :: l, t, i, j, h => by
    simp only [putAll]
    rw [get_putAll l _ _ _ (by rw [Tr.mem_put]; exact h)]
    by_cases e : i = j
    · subst e
      rw [if_neg (by omega), if_pos (by simp), Tr.get_put_same _ _ _ h]
      simp
    · rw [Tr.get_put_other _ _ _ _ e]
      by_cases e2 : i ≤ j ∧ j < i + (v :: l).length
      · rw [if_pos e2, if_pos (by simp at e2 ⊢; omega)]
        have : j - i = (j - (i + 1)) + 1 := by omega
        rw [this, List.getElem?_cons_succ]
      · rw [if_neg e2, if_neg (by simp at e2 ⊢; omega)]

def memAll (t : Tr) : Nat → Bool
  | 0 => true
  | n + 1 => t.mem n && memAll t n
theorem memAll_mem {t : Tr} : ∀ {n i : Nat}, memAll t n = true → i < n → t.mem i = true
  | 0, _, _, h => by omega
  | n + 1, i, h, hi => by
    simp only [memAll, Bool.and_eq_true] at h
    by_cases e : i = n
    · subst e; exact h.1
    · exact memAll_mem h.2 (by omega)

theorem enter_rel {P : Program} {N d : Nat} (hd : memAll (Tr.full d) N = true) {K ρ w} {m : Mem} (hS : Sat P.globals.size K ρ w m) (hb : ∀ i, K i → i < m.bound) {args : List AV} (ha : AV.scs K args) (hN : args.length ≤ N) (z : Nat) :
    Rel P N z K ρ { tmps := (⟨AV.vals ρ args⟩ : Array Value) ++ Array.replicate (N - (⟨AV.vals ρ args⟩ : Array Value).size) undef, defers := [] } w ⟨putAll (Tr.full d) 0 args, m⟩ := by
  have hl : (AV.vals ρ args).length = args.length := vals_length ρ args
  refine ⟨by simp [hl]; omega, fun t ht => ?_, hS, hb, ⟨[], rfl, List.nodup_nil, by simp⟩⟩
  have hm := memAll_mem hd ht
  refine ⟨by rw [mem_putAll]; exact hm, ?_⟩
  rw [get_putAll _ _ _ _ hm, Tr.get_full]
  simp only [Nat.zero_le, true_and, Nat.zero_add, Nat.sub_zero]
  by_cases e : t < args.length
  · rw [if_pos e]
    have h1 : args[t]? = some args[t] := List.getElem?_eq_getElem e
    refine ⟨?_, ?_⟩
    · rw [h1]
      simp only [Option.getD_some, Array.getD_eq_getD_getElem?, Array.getElem?_append, List.size_toArray, hl, e, if_true]
      have := vals_get ρ args t
      rw [h1] at this
      simp [this]
    · rw [h1]; exact (scs_iff K args).1 ha _ (List.getElem_mem e)
  · rw [if_neg e]
    refine ⟨?_, by simp [undefA, AV.sc, AV.scs]⟩
    simp only [Array.getD_eq_getD_getElem?, Array.getElem?_append, List.size_toArray, hl, e, if_false, Array.getElem?_replicate]
    split <;> simp [undefA, AV.val, AV.vals, undef]

/-! ### Coming back -/
def look (L : List (Nat × Nat)) (i : Nat) : Option Nat := (L.find? (·.1 == i)).map (·.2)
def sig (B : Nat) (L : List (Nat × Nat)) (i : Nat) : Nat := if i < B then i else (look L i).getD i
def kept (B : Nat) (L : List (Nat × Nat)) (i : Nat) : Prop := i < B ∨ i ∈ L.map (·.1)

structure Back (m : Mem) (B : Nat) (ns : List Nat) (R : AV → Mem → Prop) (ms : Mem) (v : AV) (L : List (Nat × Nat)) (m' : Mem) : Prop where
  own : ∀ p ∈ L, B ≤ p.1 ∧ p.2 ∈ ns
  one : (L.map (·.1)).Nodup
  two : (L.map (·.2)).Nodup
  sc : v.sc (kept B L)
  mem : ∀ i b, m'.get i = some b → (m.get i = some b ∧ ms.get i = some b) ∨
    ∃ j b0, ms.get j = some b0 ∧ b0.c.sc (kept B L) ∧ b = b0.ren (sig B L) ∧ ((j < B ∧ i = j) ∨ (j, i) ∈ L)
  post : R (v.ren (sig B L)) m'

theorem look_mem {L : List (Nat × Nat)} {i : Nat} (h : i ∈ L.map (·.1)) : ∃ n, look L i = some n ∧ (i, n) ∈ L := by
  obtain ⟨p, hp, rfl⟩ := List.mem_map.1 h
  cases hq : L.find? (·.1 == p.1) with
  | none =>
    have := List.find?_eq_none.1 hq p hp
    simp at this
  | some q =>
    have h1 := List.find?_some hq
    have h2 := List.mem_of_find?_eq_some hq
    simp only [beq_iff_eq] at h1
    refine ⟨q.2, by simp [look, hq], ?_⟩
    rw [← h1]; exact h2

theorem nodup_snd {L : List (Nat × Nat)} (h : (L.map (·.2)).Nodup) {p q : Nat × Nat} (hp : p ∈ L) (hq : q ∈ L) (e : p.2 = q.2) : p = q := by
  induction L with
  | nil => cases hp
  | cons x L ih =>
    simp only [List.map_cons, List.nodup_cons] at h
    simp only [List.mem_cons] at hp hq
    rcases hp with rfl | hp <;> rcases hq with rfl | hq
    · rfl
    · exact absurd (List.mem_map.2 ⟨q, hq, e.symm⟩) h.1
    · exact absurd (List.mem_map.2 ⟨p, hp, e⟩) h.1
    · exact ih h.2 hp hq
theorem nodup_fst {L : List (Nat × Nat)} (h : (L.map (·.1)).Nodup) {p q : Nat × Nat} (hp : p ∈ L) (hq : q ∈ L) (e : p.1 = q.1) : p = q := by
  induction L with
  | nil => cases hp
  | cons x L ih =>
    simp only [List.map_cons, List.nodup_cons] at h
    simp only [List.mem_cons] at hp hq
    rcases hp with rfl | hp <;> rcases hq with rfl | hq
    · rfl
    · exact absurd (List.mem_map.2 ⟨q, hq, e.symm⟩) h.1
    · exact absurd (List.mem_map.2 ⟨p, hp, e⟩) h.1
    · exact ih h.2 hp hq

theorem back_ok {G : Nat} {K ρ w} {m : Mem} (hS0 : Sat G K ρ w m) {B : Nat} (hKB : ∀ i, K i → i < B) {ns : List Nat} (hns : ∀ n ∈ ns, ¬ K n) {R : AV → Mem → Prop}
    {K1 ρ1 w1 ms v} (hW : Went K ρ w ⟨m.get, B, []⟩ K1 ρ1 w1 ms) (hS1 : Sat G K1 ρ1 w1 ms) (hv : v.sc K1) {L m'} (hb : Back m B ns R ms v L m') :
    ∃ ρ' K', (v.ren (sig B L)).val ρ' = v.val ρ1 ∧ Step K ρ w m K' ρ' w1 m' ∧ Sat G K' ρ' w1 m' ∧ (v.ren (sig B L)).sc K' ∧ (∀ i, K' i → K i ∨ i ∈ ns) ∧ (∀ i, i ∉ ns → ρ' i = ρ i) := by
  have hbd : (⟨m.get, B, []⟩ : Mem).bound = B := by simp [Mem.bound]
  have hold : ∀ i, K1 i → i < B → K i := fun i h1 h2 => (hW.new i h1).elim id (fun h => by rw [hbd] at h; omega)
  have hget0 : ∀ i b, (⟨m.get, B, []⟩ : Mem).get i = some b → m.get i = some b := by
    intro i b h
    simp only [Mem.get] at h ⊢
    split at h
    · exact h
    · simp at h
  let ρ' : Env := fun i => match L.find? (·.2 == i) with | some p => ρ1 p.1 | none => ρ i
  have hin : ∀ p ∈ L, ρ' p.2 = ρ1 p.1 := by
    intro p hp
    show (match L.find? (·.2 == p.2) with | some q => ρ1 q.1 | none => ρ p.2) = ρ1 p.1
    cases hq : L.find? (·.2 == p.2) with
    | none =>
      have := List.find?_eq_none.1 hq p hp
      simp at this
    | some q =>
      have h1 := List.find?_some hq
      have h2 := List.mem_of_find?_eq_some hq
      simp only [beq_iff_eq] at h1
      rw [nodup_snd hb.two h2 hp h1]
  have hout : ∀ i, i ∉ L.map (·.2) → ρ' i = ρ i := by
    intro i hi
    show (match L.find? (·.2 == i) with | some q => ρ1 q.1 | none => ρ i) = ρ i
    cases hq : L.find? (·.2 == i) with
    | none => rfl
    | some q =>
      have h1 := List.find?_some hq
      have h2 := List.mem_of_find?_eq_some hq
      simp only [beq_iff_eq] at h1
      exact absurd (List.mem_map.2 ⟨q, h2, h1⟩) hi
  have hLns : ∀ i, i ∈ L.map (·.2) → i ∈ ns := by
    intro i hi
    obtain ⟨p, hp, rfl⟩ := List.mem_map.1 hi
    exact (hb.own p hp).2
  have hKo : ∀ i, K i → ρ' i = ρ i := fun i hi => hout i (fun h => hns i (hLns i h) hi)
  -- names that are kept
  have hsig : ∀ i, (K1 i ∧ kept B L i) → ρ' (sig B L i) = ρ1 i := by
    rintro i ⟨hi, hk⟩
    unfold sig
    split
    · rename_i hlt
      have hKi := hold i hi hlt
      rw [hKo i hKi]; exact (hW.step.env i hKi).symm
    · rename_i hlt
      obtain ⟨n, h1, h2⟩ := look_mem (hk.resolve_left hlt)
      rw [h1]
      simp only [Option.getD_some]
      exact hin (i, n) h2
  have hsigK : ∀ i, (K1 i ∧ kept B L i) → K (sig B L i) ∨ sig B L i ∈ L.map (·.2) := by
    rintro i ⟨hi, hk⟩
    unfold sig
    split
    · rename_i hlt; exact .inl (hold i hi hlt)
    · rename_i hlt
      obtain ⟨n, h1, h2⟩ := look_mem (hk.resolve_left hlt)
      rw [h1]
      exact .inr (List.mem_map.2 ⟨_, h2, rfl⟩)
  have hvk : v.sc (fun i => K1 i ∧ kept B L i) := sc_and hv hb.sc
  -- blocks
  have hblk : ∀ i b, m'.get i = some b → ∃ j b0, ms.get j = some b0 ∧ b0.wr = b.wr ∧ b.ok ρ' w1 (ρ' i) ∧ ρ' i = ρ1 j ∧ (K i ∨ i ∈ L.map (·.2)) ∧ b.c.sc (fun i => K i ∨ i ∈ L.map (·.2)) ∧ ((j < B ∧ i = j) ∨ (j, i) ∈ L) := by
    intro i b h
    rcases hb.mem i b h with ⟨h1, h2⟩ | ⟨j, b0, h1, h2, rfl, h3⟩
    · have hk := hS0.known i b h1
      have hρ : ρ' i = ρ1 i := (hKo i hk.1).trans (hW.step.env i hk.1).symm
      refine ⟨i, b, h2, rfl, ?_, hρ, .inl hk.1, b.c.sc_mono (fun _ => .inl) hk.2, .inl ⟨hKB i hk.1, rfl⟩⟩
      rw [hρ]
      exact Blk.ok_env (fun i hi => (hKo i hi).trans (hW.step.env i hi).symm) hk.2 (hS1.ok i b h2)
    · have hk := hS1.known j b0 h1
      have hρ : ρ' i = ρ1 j := by
        rcases h3 with ⟨h4, rfl⟩ | h4
        · have := hold i hk.1 h4
          exact (hKo i this).trans (hW.step.env i this).symm
        · exact hin (j, i) h4
      have hsc := csc_and hk.2 h2
      refine ⟨j, b0, h1, rfl, ?_, hρ, ?_, Cont.sc_ren hsigK b0.c hsc, h3⟩
      · rw [hρ]; exact Blk.ok_ren hsig hsc (hS1.ok j b0 h1)
      · rcases h3 with ⟨h4, rfl⟩ | h4
        · exact .inl (hold i hk.1 h4)
        · exact .inr (List.mem_map.2 ⟨_, h4, rfl⟩)
  refine ⟨ρ', fun i => K i ∨ i ∈ L.map (·.2), AV.val_ren hsig v hvk, ?_, ?_, AV.sc_ren hsigK v hvk, fun i hi => hi.imp id (hLns i), fun i hi => hout i (fun h => hi (hLns i h))⟩
  · refine ⟨hW.step.os, hW.step.tape, hW.step.output, hW.step.size, fun i hi => .inl hi, hKo, fun b hb' hn => ?_, fun i c hc => ?_⟩
    · exact hW.step.block b hb' (fun i c hc hw => hn i c (hget0 i c hc) hw)
    · obtain ⟨j, b0, h1, h2, _, h3, _⟩ := hblk i c hc
      rw [h3]
      rcases hW.step.from_ j b0 h1 with h | ⟨j', d, h4, h5, h6⟩
      · exact .inl h
      · exact .inr ⟨j', d, hget0 _ _ h4, fun hw => h5 (h2.trans hw), h6⟩
  · refine ⟨fun g hg => ?_, fun i b h => ?_, fun i j b c h1 h2 hij hw => ?_, fun i b h => ?_, ?_⟩
    · obtain ⟨h1, h2, h3⟩ := hS0.glob g hg
      exact ⟨.inl h1, by rw [hKo g h1]; exact h2, by rw [hKo g h1]; exact h3⟩
    · obtain ⟨_, _, _, _, h, _⟩ := hblk i b h; exact h
    · obtain ⟨j1, b1, a1, a2, _, a3, _, _, a4⟩ := hblk i b h1
      obtain ⟨j2, b2, c1, c2, _, c3, _, _, c4⟩ := hblk j c h2
      rw [a3, c3]
      refine hS1.apart j1 j2 b1 b2 a1 c1 ?_ (by rw [a2, c2]; exact hw)
      rintro rfl
      rcases a4 with ⟨x, rfl⟩ | x <;> rcases c4 with ⟨y, rfl⟩ | y
      · exact hij rfl
      · have := (hb.own _ y).1; simp only at this; omega
      · have := (hb.own _ x).1; simp only at this; omega
      · have := nodup_fst hb.one x y rfl
        injection this with _ h
        exact hij h
    · obtain ⟨_, _, _, _, _, _, h1, h2, _⟩ := hblk i b h; exact ⟨h1, h2⟩
    · obtain ⟨M, hM⟩ := hS0.few
      refine ⟨M + (L.map (·.2)).foldr (fun a b => a + b + 1) 0 + 1, fun i hi => ?_⟩
      rcases hi with hi | hi
      · have := hM i hi; omega
      · have : ∀ (l : List Nat) (i : Nat), i ∈ l → i < l.foldr (fun a b => a + b + 1) 0 + 1 := by
          intro l
          induction l with
          | nil => intro i h; cases h
          | cons x l ih =>
            intro i h
            simp only [List.mem_cons] at h
            simp only [List.foldr_cons]
            rcases h with rfl | h
            · omega
            · have := ih i h; omega
        have := this _ i hi
        omega

end Go.Fw
