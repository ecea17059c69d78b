/- Regions whose operations may run in any order that their edges let. -/
import Derived.Test.YtbndodeihodjfaaGreatFwFrame
import Derived.Test.YtbndodeihodjfaaGreatFwRunLaw
import Derived.OrdersIn
namespace Go.Fw
set_option linter.unusedVariables false
set_option linter.unusedSimpArgs false

structure Rec where
  i : Nat
  dst : Option Tmp
  slots : List Tmp
  reads : List Nat
  new : List Nat
  v : AV
  u : List (Nat × Option Blk)
  f0 : Nat → AV
  g0 : Nat → Option Blk

/-- 'Rel' without the bound. -/
structure Rel0 (P : Program) (N z : Nat) (K : Nat → Prop) (ρ : Env) (a : Act) (w : World) (s : St) : Prop where
  size : a.tmps.size = N
  tm : ∀ t, t < N → s.fr.mem t = true ∧ a.tmps.getD t undef = (s.fr.get t).val ρ ∧ (s.fr.get t).sc K
  sat : Sat P.globals.size K ρ w s.m
  defs : ∃ L : List Nat, a.defers = L.map markOf ∧ L.Nodup ∧ ∀ D ∈ L, z ≤ D ∧ w.heap[D]? = some (.deferred (some []))

def Rec.app (r : Rec) (s : St) : St := ⟨putD s.fr r.dst r.v, s.m.upds r.u⟩
def appAll : List Rec → St → St
  | [], s => s
  | r :: l, s => appAll l (r.app s)
def Rec.Fit (r : Rec) (s : St) : Prop := (∀ t ∈ r.slots, s.fr.get t = r.f0 t) ∧ (∀ i ∈ r.reads, s.m.get i = r.g0 i)
def Chain : List Rec → St → Prop
  | [], _ => True
  | r :: l, s => r.Fit s ∧ Chain l (r.app s)
def Same (s s' : St) : Prop := (∀ t, s.fr.get t = s'.fr.get t ∧ s.fr.mem t = s'.fr.mem t) ∧ ∀ i, s.m.get i = s'.m.get i

structure Indep (r q : Rec) : Prop where
  d1 : ∀ d, r.dst = some d → d ∉ q.slots ∧ q.dst ≠ some d
  d2 : ∀ d, q.dst = some d → d ∉ r.slots
  m1 : ∀ n ∈ r.u.map (·.1), n ∉ q.reads ∧ n ∉ q.u.map (·.1)
  m2 : ∀ n ∈ q.u.map (·.1), n ∉ r.reads

theorem Same.refl (s : St) : Same s s := ⟨fun _ => ⟨rfl, rfl⟩, fun _ => rfl⟩
theorem Same.symm {s s'} (h : Same s s') : Same s' s := ⟨fun t => ⟨(h.1 t).1.symm, (h.1 t).2.symm⟩, fun i => (h.2 i).symm⟩
theorem Same.trans {s s' s''} (h : Same s s') (k : Same s' s'') : Same s s'' := ⟨fun t => ⟨(h.1 t).1.trans (k.1 t).1, (h.1 t).2.trans (k.1 t).2⟩, fun i => (h.2 i).trans (k.2 i)⟩

theorem get_putD (fr : Tr) (d : Option Tmp) (v : AV) (t : Nat) : (putD fr d v).get t = if d = some t ∧ fr.mem t = true then v else fr.get t := by
  cases d with
  | none => simp [putD]
  | some d =>
    simp only [putD, Option.some.injEq]
    by_cases e : d = t
    · subst e
      by_cases h : fr.mem d = true
      · rw [if_pos ⟨rfl, h⟩, Tr.get_put_same _ _ _ h]
      · rw [if_neg (fun x => h x.2)]
        exact Tr.get_put_out fr d v (by simpa using h)
    · rw [if_neg (fun x => e x.1), Tr.get_put_other _ _ _ _ e]
theorem mem_putD (fr : Tr) (d : Option Tmp) (v : AV) (t : Nat) : (putD fr d v).mem t = fr.mem t := by
  cases d with
  | none => rfl
  | some d => simp only [putD, Tr.mem_put]

theorem upds_congr : ∀ (u : List (Nat × Option Blk)) (m m' : Mem), (∀ i, m.get i = m'.get i) → ∀ i, (m.upds u).get i = (m'.upds u).get i := by
  intro u m m' h i
  by_cases e : i ∈ u.map (·.1)
  · exact upds_get_in u m m' i e
  · rw [upds_get_out u m i e, upds_get_out u m' i e, h]

theorem Rec.app_same {s s' : St} (h : Same s s') (r : Rec) : Same (r.app s) (r.app s') := by
  refine ⟨fun t => ⟨?_, ?_⟩, ?_⟩
  · simp only [Rec.app, get_putD, (h.1 t).1, (h.1 t).2]
  · simp only [Rec.app, mem_putD, (h.1 t).2]
  · exact upds_congr r.u _ _ h.2
theorem Rec.Fit_same {s s' : St} (h : Same s s') {r : Rec} (hf : r.Fit s) : r.Fit s' := ⟨fun t ht => (h.1 t).1.symm.trans (hf.1 t ht), fun i hi => (h.2 i).symm.trans (hf.2 i hi)⟩
theorem Chain_same : ∀ {l : List Rec} {s s' : St}, Same s s' → Chain l s → Chain l s'
  | [], _, _, _, _ => trivial
  | r :: l, s, s', h, hc => ⟨Rec.Fit_same h hc.1, Chain_same (r.app_same h) hc.2⟩
theorem appAll_same : ∀ {l : List Rec} {s s' : St}, Same s s' → Same (appAll l s) (appAll l s')
  | [], _, _, h => h
  | r :: l, s, s', h => appAll_same (l := l) (r.app_same h)

theorem Indep.commute {r q : Rec} (h : Indep r q) (s : St) : Same (q.app (r.app s)) (r.app (q.app s)) := by
  refine ⟨fun t => ⟨?_, ?_⟩, fun i => ?_⟩
  · simp only [Rec.app, get_putD, mem_putD]
    by_cases e1 : r.dst = some t <;> by_cases e2 : q.dst = some t
    · exact absurd e2 (h.d1 t e1).2
    · simp [e1, e2]
    · simp [e1, e2]
    · simp [e1, e2]
  · simp only [Rec.app, mem_putD]
  · simp only [Rec.app]
    by_cases e1 : i ∈ r.u.map (·.1)
    · have e2 : i ∉ q.u.map (·.1) := (h.m1 i e1).2
      rw [upds_get_out q.u _ i e2]
      exact upds_get_in r.u _ _ i e1
    · rw [upds_get_out r.u (s.m.upds q.u) i e1]
      by_cases e2 : i ∈ q.u.map (·.1)
      · exact upds_get_in q.u _ _ i e2
      · rw [upds_get_out q.u _ i e2, upds_get_out q.u _ i e2, upds_get_out r.u _ i e1]

theorem Indep.fit2 {r q : Rec} (h : Indep r q) {s : St} (hf : q.Fit (r.app s)) : q.Fit s := by
  refine ⟨fun t ht => ?_, fun i hi => ?_⟩
  · rw [← hf.1 t ht]
    simp only [Rec.app, get_putD]
    rw [if_neg (fun e => (h.d1 t e.1).1 ht)]
  · rw [← hf.2 i hi]
    simp only [Rec.app]
    rw [upds_get_out r.u _ i (fun e => (h.m1 i e).1 hi)]
theorem Indep.fit1 {r q : Rec} (h : Indep r q) {s : St} (hf : r.Fit s) : r.Fit (q.app s) := by
  refine ⟨fun t ht => ?_, fun i hi => ?_⟩
  · rw [← hf.1 t ht]
    simp only [Rec.app, get_putD]
    rw [if_neg (fun e => h.d2 t e.1 ht)]
  · rw [← hf.2 i hi]
    simp only [Rec.app]
    rw [upds_get_out q.u _ i (fun e => h.m2 i e hi)]

/-- An operation that nothing before it binds may come first. -/
theorem to_front (r : Rec) (post : List Rec) : ∀ (pre : List Rec) (s : St), Chain (pre ++ r :: post) s → (∀ p ∈ pre, Indep p r) →
    r.Fit s ∧ Chain (pre ++ post) (r.app s) ∧ Same (appAll (pre ++ post) (r.app s)) (appAll (pre ++ r :: post) s)
  | [], s, hc, _ => ⟨hc.1, hc.2, Same.refl _⟩
  | p :: pre, s, hc, hi => by
    have hp := hi p (by simp)
    obtain ⟨h1, h2, h3⟩ := to_front r post pre (p.app s) hc.2 (fun q hq => hi q (by simp [hq]))
    refine ⟨hp.fit2 h1, ⟨hp.fit1 hc.1, Chain_same (hp.commute s) h2⟩, ?_⟩
    exact (appAll_same (l := pre ++ post) (hp.commute s).symm).trans h3
/-! ### Edges -/
inductive Bef (ops : Array Oper) : Nat → Nat → Prop where
  | one {i : Nat} {o : Oper} {e : Edge} (ho : ops[i]? = some o) (he : e ∈ o.after) (hb : Region.binds .any e = true) : Bef ops e.on i
  | more {j i : Nat} {o : Oper} {e : Edge} (hj : Bef ops j e.on) (ho : ops[i]? = some o) (he : e ∈ o.after) (hb : Region.binds .any e = true) : Bef ops j i

def befB (ops : Array Oper) : Nat → Nat → Nat → Bool
  | 0, _, _ => false
  | n + 1, j, i => match ops[i]? with
    | some o => o.after.toList.any fun e => Region.binds .any e && (e.on == j || befB ops n j e.on)
    | none => false
theorem befB_ok {ops : Array Oper} : ∀ {n j i : Nat}, befB ops n j i = true → Bef ops j i
  | 0, _, _, h => by cases h
  | n + 1, j, i, h => by
    simp only [befB] at h
    split at h
    · rename_i o ho
      obtain ⟨e, he, h1⟩ := List.any_eq_true.1 h
      simp only [Bool.and_eq_true, Bool.or_eq_true, beq_iff_eq] at h1
      have he' : e ∈ o.after := by simpa using he
      rcases h1.2 with rfl | h2
      · exact .one ho he' h1.1
      · exact .more (befB_ok h2) ho he' h1.1
    · cases h

def edgesOk (ops : Array Oper) : Bool := (List.range ops.size).all fun i => match ops[i]? with
  | some o => o.after.toList.all fun e => !Region.binds .any e || decide (e.on < i)
  | none => true
theorem edgesOk_lt {ops : Array Oper} (h : edgesOk ops = true) {i : Nat} {o : Oper} {e : Edge} (ho : ops[i]? = some o) (he : e ∈ o.after) (hb : Region.binds .any e = true) : e.on < i := by
  have hi : i < ops.size := (Array.getElem?_eq_some_iff.1 ho).1
  have := List.all_eq_true.1 h i (List.mem_range.2 hi)
  rw [ho] at this
  have := List.all_eq_true.1 this e (by simpa using he)
  simpa [hb] using this

def RecOk (P : Program) (N z : Nat) (rd : Option Nat) (cn : Nat) (ops : Array Oper) (Q' : Exit → Act → World → Prop) (r : Rec) : Prop :=
  ∀ (K : Nat → Prop) (ρ : Env) (a : Act) (w : World) (s : St) (next : Act → World → Prop), Rel0 P N z K ρ a w s → r.Fit s → (∀ n ∈ r.new, ¬ K n) →
    (∀ K' ρ' a' w' s', Step K ρ w s.m K' ρ' w' s'.m → Rel0 P N z K' ρ' a' w' s' → Same s' (r.app s) → (∀ i, K' i → K i ∨ i ∈ r.new) → next a' w') →
    wpOpIn (Fr rd) cn P ops Q' r.i next a w

section
variable {P : Program} {N z : Nat} {rd : Option Nat} {cn : Nat} {ops : Array Oper} {Q : Exit → Act → World → Prop}

theorem any_core (hE : edgesOk ops = true) (K0 : Nat → Prop) (ρ0 : Env) (w0 : World) (m0 : Mem) : ∀ (fuel : Nat) (l : List Rec) (listed : Array Bool) (s : St) (K : Nat → Prop) (ρ : Env) (a : Act) (w : World),
    l.length ≤ fuel → listed.size = ops.size → (∀ i, listed.getD i true = false ↔ ∃ r ∈ l, r.i = i) → l.Pairwise (fun r q => r.i < q.i) →
    (∀ i o e, ops[i]? = some o → listed.getD i false = true → e ∈ o.after → Region.binds .any e = true → listed.getD e.on false = true) →
    l.Pairwise (fun r q => (Bef ops r.i q.i ∨ Indep r q) ∧ ∀ n ∈ r.new, n ∉ q.new) → (∀ r ∈ l, RecOk P N z rd cn ops Q r) → Chain l s →
    Step K0 ρ0 w0 m0 K ρ w s.m → Rel0 P N z K ρ a w s → (∀ r ∈ l, ∀ n ∈ r.new, ¬ K n) →
    (∀ K' ρ' a' w' s', Step K0 ρ0 w0 m0 K' ρ' w' s'.m → Rel0 P N z K' ρ' a' w' s' → Same s' (appAll l s) → (∀ i, K' i → K i ∨ ∃ r ∈ l, i ∈ r.new) → Q .normal a' w') →
    wpAnyIn (Fr rd) cn P .any ops Q fuel listed a w := by
  intro fuel
  induction fuel with
  | zero =>
    intro l listed s K ρ a w hf hsz h1 hs h2 hp hr hc hS hR hn hq
    have hl : l = [] := List.eq_nil_of_length_eq_zero (by omega)
    subst hl
    refine ⟨?_, hq K ρ a w s hS hR (Same.refl s) (fun i hi => .inl hi)⟩
    cases hrd : Region.ready .any ops listed with
    | nil => rfl
    | cons i is =>
      have : i ∈ Region.ready .any ops listed := by rw [hrd]; simp
      obtain ⟨_, hr, _⟩ := (h1 i).1 (mem_ready.1 this).1
      cases hr
  | succ fuel ih =>
    intro l listed s K ρ a w hf hsz h1 hs h2 hp hr hc hS hR hn hq
    have hsw : ∀ i, i < ops.size → ¬ (∃ r ∈ l, r.i = i) → listed.getD i false = true := by
      intro i hi hno
      have : listed.getD i true ≠ false := fun e => hno ((h1 i).1 e)
      have hlt : i < listed.size := by omega
      simp [Array.getD, hlt] at this ⊢
      exact this
    have hlt_of : ∀ r ∈ l, r.i < ops.size := by
      intro r hr
      have := (h1 r.i).2 ⟨r, hr, rfl⟩
      rcases Nat.lt_or_ge r.i listed.size with h | h
      · omega
      · simp [Array.getD, Nat.not_lt.2 h] at this
    refine ⟨fun hnil => ?_, fun i hi => ?_⟩
    · cases l with
      | nil => exact hq K ρ a w s hS hR (Same.refl s) (fun i hi => .inl hi)
      | cons r l =>
        exfalso
        have hi : r.i < ops.size := hlt_of r (by simp)
        have : r.i ∈ Region.ready .any ops listed := by
          refine mem_ready.2 ⟨(h1 r.i).2 ⟨r, by simp, rfl⟩, ops[r.i], Array.getElem?_eq_getElem hi, fun e he hb => ?_⟩
          have hlt := edgesOk_lt hE (Array.getElem?_eq_getElem hi) he hb
          refine hsw e.on (by omega) ?_
          rintro ⟨q, hq, he⟩
          simp only [List.mem_cons] at hq
          rcases hq with rfl | hq
          · omega
          · have := (List.pairwise_cons.1 hs).1 q hq; omega
        rw [hnil] at this; cases this
    · obtain ⟨hu, o, ho, hall⟩ := mem_ready.1 hi
      obtain ⟨r, hrl, rfl⟩ := (h1 i).1 hu
      obtain ⟨pre, post, rfl⟩ := List.append_of_mem hrl
      have hnotlisted : ∀ q ∈ pre ++ r :: post, listed.getD q.i false = false := by
        intro q hq
        have := (h1 q.i).2 ⟨q, hq, rfl⟩
        have hlt : q.i < listed.size := by rw [hsz]; exact hlt_of q hq
        simp [Array.getD, hlt] at this ⊢
        exact this
      have hbef : ∀ j i', Bef ops j i' → (∀ o e, ops[i']? = some o → e ∈ o.after → Region.binds .any e = true → listed.getD e.on false = true) → listed.getD j false = true := by
        intro j i' hb
        induction hb with
        | one ho he hb => exact fun h => h _ _ ho he hb
        | more hj ho he hb ih' => exact fun h => ih' (fun o e ho' he' hb' => h2 _ o e ho' (h _ _ ho he hb) he' hb')
      have hind : ∀ p ∈ pre, Indep p r := by
        intro p hpp
        have := (List.pairwise_append.1 hp).2.2 p hpp r (by simp)
        rcases this.1 with hb | hb
        · exfalso
          have hl := hbef _ _ hb (fun o' e ho' he hb => by rw [ho] at ho'; cases ho'; exact hall e he hb)
          rw [hnotlisted p (by simp [hpp])] at hl; cases hl
        · exact hb
      obtain ⟨f1, f2, f3⟩ := to_front r post pre s hc hind
      refine hr r hrl K ρ a w s _ hR f1 (hn r hrl) ?_
      intro K' ρ' a' w' s' hS' hR' hsame hK'
      have hii : r.i < listed.size := by rw [hsz]; exact hlt_of r hrl
      have hnd : ∀ q ∈ pre ++ post, q.i ≠ r.i := by
        intro q hq
        rcases List.mem_append.1 hq with hq | hq
        · have := (List.pairwise_append.1 hs).2.2 q hq r (by simp); omega
        · have := (List.pairwise_cons.1 (List.pairwise_append.1 hs).2.1).1 q hq; omega
      have hsub : (pre ++ post).Sublist (pre ++ r :: post) := List.Sublist.append_left (List.sublist_cons_self r post) pre
      have hmem : ∀ q ∈ pre ++ post, q ∈ pre ++ r :: post := fun q hq => hsub.subset hq
      refine ih (pre ++ post) _ s' K' ρ' a' w' (by simp at hf ⊢; omega) (by simpa using hsz) ?_ (hs.sublist hsub) ?_ (hp.sublist hsub) (fun q hq => hr q (hmem q hq)) (Chain_same hsame.symm f2)
        (hS.trans hS') hR' ?_ ?_
      · intro j
        by_cases e : j = r.i
        · subst e
          constructor
          · intro h; simp [Array.getD, hii] at h
          · rintro ⟨q, hq, he⟩; exact absurd he (hnd q hq)
        · rw [getD_set_ne true (fun x => e x.symm), h1 j]
          constructor
          · rintro ⟨q, hq, rfl⟩
            refine ⟨q, ?_, rfl⟩
            simp only [List.mem_append, List.mem_cons] at hq ⊢
            rcases hq with hq | rfl | hq
            · exact .inl hq
            · exact absurd rfl e
            · exact .inr hq
          · rintro ⟨q, hq, rfl⟩; exact ⟨q, hmem q hq, rfl⟩
      · intro j o' e ho' hl he hb
        by_cases ej : j = r.i
        · subst ej
          rw [ho] at ho'; cases ho'
          exact getD_set_true (hall e he hb)
        · rw [getD_set_ne false (fun x => ej x.symm)] at hl
          exact getD_set_true (h2 j o' e ho' hl he hb)
      · intro q hq n hn' hk
        rcases hK' n hk with h | h
        · exact hn q (hmem q hq) n hn' h
        · rcases List.mem_append.1 hq with hq | hq
          · exact ((List.pairwise_append.1 hp).2.2 q hq r (by simp)).2 n hn' h
          · exact ((List.pairwise_cons.1 (List.pairwise_append.1 hp).2.1).1 q hq).2 n h hn'
      · intro K2 ρ2 a2 w2 s2 hS2 hR2 hsame2 hK2
        refine hq K2 ρ2 a2 w2 s2 hS2 hR2 (hsame2.trans ((appAll_same hsame).trans f3)) (fun i hi => ?_)
        rcases hK2 i hi with h | ⟨q, hq, hin⟩
        · rcases hK' i h with h | h
          · exact .inl h
          · exact .inr ⟨r, hrl, h⟩
        · exact .inr ⟨q, hmem q hq, hin⟩
end
end Go.Fw
