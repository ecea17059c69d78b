/- The quick machine: frames, numbers, lists. -/
import Derived.Test.YtbndodeihodjfaaGreatFwKmDef
import Derived.Test.YtbndodeihodjfaaGreatFwExecS7
import Derived.IntWalk
namespace Go.Fw
set_option linter.unusedVariables false
set_option linter.unusedSimpArgs false

theorem cP_un (t : Nat) (fr : Fr8) (v : AV) : (cP t).un fr v = (sh3.upd t).un fr fun _ => v := by
  unfold cP; cases sh3.upd t; rfl
theorem Fr8.get_put_same (fr : Fr8) (t : Nat) (v : AV) (h : t < 512) : (fr.put t v).get t = v := by
  unfold Fr8.get Fr8.put
  rw [cP_un]
  exact sh3_ok.same t h fr _
theorem Fr8.get_put_other (fr : Fr8) (t t' : Nat) (v : AV) (h : t < 512) (h' : t' < 512) (hne : t ≠ t') : (fr.put t v).get t' = fr.get t' := by
  unfold Fr8.get Fr8.put
  rw [cP_un]
  exact sh3_ok.other t t' h h' hne fr _
theorem Fr8.get_empty (t : Nat) : Fr8.empty.get t = undefA := by
  simp only [Fr8.get, cG, Fr8.empty, sh3, sh8, Sh.up, bind_un, g8_all]

/-- The same slots. -/
structure FrK (N : Nat) (fr : Fr8) (tr : Tr) : Prop where
  le : N ≤ 512
  eq : ∀ t, t < N → tr.mem t = true ∧ fr.get t = tr.get t
theorem FrK.put {N fr tr} (h : FrK N fr tr) {d : Nat} (hd : d < N) (v : AV) : FrK N (fr.put d v) (tr.put d v) := by
  refine ⟨h.le, fun t ht => ⟨by rw [Tr.mem_put]; exact (h.eq t ht).1, ?_⟩⟩
  have := h.le
  by_cases e : d = t
  · subst e
    rw [Fr8.get_put_same _ _ _ (by omega), Tr.get_put_same _ _ _ (h.eq d hd).1]
  · rw [Fr8.get_put_other _ _ _ _ (by omega) (by omega) e, Tr.get_put_other _ _ _ _ e]
    exact (h.eq t ht).2
theorem FrK.putD {N fr tr} (h : FrK N fr tr) {d : Option Tmp} (hd : ∀ t, d = some t → t < N) (v : AV) : FrK N (fr.putD d v) (putD tr d v) := by
  cases d with
  | none => exact h
  | some d => exact h.put (hd d rfl) v
theorem FrK.ev {N fr tr} (h : FrK N fr tr) {P : Program} {x : Operand} (hx : opndOk P N x = true) : evK fr x = ev tr x := by
  cases x with
  | tmp t => simp only [opndOk, decide_eq_true_eq] at hx; exact (h.eq t hx).2
  | _ => rfl
theorem cEv_un (x : Operand) (fr : Fr8) : (cEv x).un fr = evK fr x := by
  cases x with
  | tmp t => rfl
  | const v =>
    simp only [cEv, evK]
    cases ofV v with
    | none => rfl
    | some x => simp only [tightA_eq, Option.getD_some]; rfl
  | _ => rfl

theorem ikEq_eq {k k' : IntKind} (h : ikEq k k' = true) : k = k' := by
  cases k <;> cases k' <;> first | rfl | (simp [ikEq, ikN] at h)
theorem wrapF_eq (k : IntKind) (n : Int) : wrapF k n = k.wrap n := by
  unfold wrapF
  split
  · rename_i m
    split
    · rename_i h
      have h' : m < limP k := by simpa [Nat.blt_eq] using h
      have e : (Int.ofNat m) = (m : Int) := rfl
      rw [e]
      symm
      cases k <;> simp only [limP] at h'
      · exact IntWalk.i8_in _ (by omega)
      · exact IntWalk.i16_in _ (by omega)
      · exact IntWalk.i32_in _ (by omega)
      · exact IntWalk.i64_in _ (by omega)
      · exact IntWalk.u8_in _ (by omega)
      · exact IntWalk.u16_in _ (by omega)
      · exact IntWalk.u32_in _ (by omega)
      · exact IntWalk.u64_in _ (by omega)
    · rfl
  · rename_i m
    split
    · rename_i h
      have h' : m < limN k := by simpa [Nat.blt_eq] using h
      symm
      cases k <;> simp only [limN] at h'
      · exact IntWalk.i8_in _ (by omega)
      · exact IntWalk.i16_in _ (by omega)
      · exact IntWalk.i32_in _ (by omega)
      · exact IntWalk.i64_in _ (by omega)
      all_goals omega
    · rfl
theorem iLt_eq (a b : Int) : iLt a b = decide (a < b) := by
  cases a <;> cases b <;> simp only [iLt]
  · rename_i m n
    by_cases h : m < n
    · have : Nat.blt m n = true := by simpa [Nat.blt_eq] using h
      rw [this]; simp; omega
    · have : Nat.blt m n = false := by
        cases hb : Nat.blt m n
        · rfl
        · exact absurd (by simpa [Nat.blt_eq] using hb) h
      rw [this]; simp; omega
  · simp; omega
  · simp; omega
  · rename_i m n
    by_cases h : n < m
    · have : Nat.blt n m = true := by simpa [Nat.blt_eq] using h
      rw [this]; simp; omega
    · have : Nat.blt n m = false := by
        cases hb : Nat.blt n m
        · rfl
        · exact absurd (by simpa [Nat.blt_eq] using hb) h
      rw [this]; simp; omega
theorem nbeq (m n : Nat) : Nat.beq m n = decide (m = n) := by
  by_cases h : m = n
  · subst h; simp
  · cases hb : Nat.beq m n
    · simp [h]
    · exact absurd (Nat.eq_of_beq_eq_true hb) h
theorem iEq_eq (a b : Int) : iEq a b = (a == b) := by
  cases a <;> cases b <;> simp only [iEq, nbeq]
  · rename_i m n; by_cases h : m = n
    · subst h; simp
    · have : ¬ (m : Int) = n := by omega
      simp [h, this]
  · rw [eq_comm, beq_eq_false_iff_ne]; intro h; cases h
  · rw [eq_comm, beq_eq_false_iff_ne]; intro h; cases h
  · rename_i m n; by_cases h : m = n
    · subst h; simp
    · have : ¬ n = m := fun e => h e.symm
      simp [h, this]

/-! ### Lists -/
theorem nthF_eq : ∀ (l : List AV) (o : Nat), nthF l o = l[o]?
  | [], o => by simp [nthF]
  | a :: l, 0 => rfl
  | a :: l, o + 1 => by
    show nthF l o = _
    rw [nthF_eq l o]; simp
theorem rowF_eq : ∀ (L : List (List AV)) (o : Nat), rowF L o = L[o]?
  | [], o => by simp [rowF]
  | a :: l, 0 => rfl
  | a :: l, o + 1 => by
    show rowF l o = _
    rw [rowF_eq l o]; simp
theorem dropF_eq : ∀ (o : Nat) (l : List AV), dropF l o = l.drop o
  | 0, l => rfl
  | o + 1, [] => by simp [dropF]
  | o + 1, a :: l => by
    show dropF l o = _
    rw [dropF_eq o l]; simp
theorem takeF_eq (l : List AV) (s : Nat) : takeF l s = if s ≤ l.length then some (l.take s) else none := by
  have key : ∀ (l : List AV) (s : Nat) (k : List AV → Option (List AV)), List.rec (motive := fun _ => Nat → (List AV → Option (List AV)) → Option (List AV)) (fun s k => Nat.rec (motive := fun _ => Option (List AV)) (k []) (fun _ _ => none) s)
      (fun a _ ih s k => Nat.rec (motive := fun _ => Option (List AV)) (k []) (fun s _ => ih s fun r => k (a :: r)) s) l s k = if s ≤ l.length then k (l.take s) else none := by
    intro l
    induction l with
    | nil => intro s k; cases s <;> first | rfl | simp
    | cons a l ih =>
      intro s k
      cases s with
      | zero => rfl
      | succ s =>
        show List.rec (motive := fun _ => Nat → (List AV → Option (List AV)) → Option (List AV)) (fun s k => Nat.rec (motive := fun _ => Option (List AV)) (k []) (fun _ _ => none) s)
          (fun a _ ih s k => Nat.rec (motive := fun _ => Option (List AV)) (k []) (fun s _ => ih s fun r => k (a :: r)) s) l s (fun r => k (a :: r)) = _
        rw [ih]; simp
  exact key l s some
theorem setF_eq (l : List AV) (o : Nat) (v : AV) : setF l o v = if o < l.length then some (l.take o ++ [v] ++ l.drop (o + 1)) else none := by
  have key : ∀ (l : List AV) (o : Nat) (k : List AV → Option (List AV)), List.rec (motive := fun _ => Nat → (List AV → Option (List AV)) → Option (List AV)) (fun _ _ => none)
      (fun a t ih o k => Nat.rec (motive := fun _ => Option (List AV)) (k (v :: t)) (fun o _ => ih o fun r => k (a :: r)) o) l o k = if o < l.length then k (l.take o ++ [v] ++ l.drop (o + 1)) else none := by
    intro l
    induction l with
    | nil => intro o k; simp
    | cons a l ih =>
      intro o k
      cases o with
      | zero => simp only [List.length_cons, Nat.zero_lt_succ, if_true]; rfl
      | succ o =>
        show List.rec (motive := fun _ => Nat → (List AV → Option (List AV)) → Option (List AV)) (fun _ _ => none)
          (fun a t ih o k => Nat.rec (motive := fun _ => Option (List AV)) (k (v :: t)) (fun o _ => ih o fun r => k (a :: r)) o) l o (fun r => k (a :: r)) = _
        rw [ih]; simp
  exact key l o some
end Go.Fw
