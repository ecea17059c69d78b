/- The operations' soundness: values without memory. -/
import Derived.Test.YtbndodeihodjfaaGreatFwOps2
namespace Go.Fw
set_option linter.unusedVariables false
set_option linter.unusedSimpArgs false

theorem aminL_ok {P : Program} {w : World} {ρ : Env} : ∀ (l : List AV) (x v : AV), aminL .min x l = some v → (AV.vals ρ l).foldlM Builtin.min2 (x.val ρ) = (pure (v.val ρ) : Sem Value)
  | [], x, v, h => by simp [aminL] at h; subst h; simp [AV.vals]
  | y :: l, x, v, h => by
    cases x with
    | int k a =>
      cases y with
      | int k' b =>
        simp only [aminL] at h
        have := aminL_ok (P := P) (w := w) (ρ := ρ) l _ v h
        simp only [AV.val, amin] at this
        simp [AV.vals, AV.val, Builtin.min2, List.foldlM_cons, this]
      | _ => simp [aminL] at h
    | _ => simp [aminL] at h
theorem amaxL_ok {P : Program} {w : World} {ρ : Env} : ∀ (l : List AV) (x v : AV), aminL .max x l = some v → (AV.vals ρ l).foldlM Builtin.max2 (x.val ρ) = (pure (v.val ρ) : Sem Value)
  | [], x, v, h => by simp [aminL] at h; subst h; simp [AV.vals]
  | y :: l, x, v, h => by
    cases x with
    | int k a =>
      cases y with
      | int k' b =>
        simp only [aminL] at h
        have := amaxL_ok (P := P) (w := w) (ρ := ρ) l _ v h
        simp only [AV.val, amin] at this
        simp [AV.vals, AV.val, Builtin.max2, List.foldlM_cons, this]
      | _ => simp [aminL] at h
    | _ => simp [aminL] at h
theorem aminL_sc {op : Builtin} {K : Nat → Prop} : ∀ (l : List AV) (x v : AV), aminL op x l = some v → x.sc K → v.sc K
  | [], x, v, h, hs => by simp [aminL] at h; subst h; exact hs
  | y :: l, x, v, h, hs => by
    cases x with
    | int k a =>
      cases y with
      | int k' b => simp only [aminL] at h; exact aminL_sc l _ v h (by simp [AV.sc])
      | _ => simp [aminL] at h
    | _ => simp [aminL] at h

theorem run_pure {P : Program} {α : Type} {x : α} {w : World} : (pure x : Sem α).run P w = .ok x w := rfl

/-! ### '==' of structs -/
theorem toList_data (a : ByteArray) : a.toList = a.data.toList := ByteArray.toList_eq a
theorem str_eq (a b : ByteArray) : (a.toList == b.toList) = decide (a = b) := by
  by_cases h : a = b
  · subst h; simp
  · have : a.toList ≠ b.toList := fun e => h (by
      rw [toList_data, toList_data] at e
      cases a; cases b
      simp only [ByteArray.mk.injEq]
      exact Array.toList_inj.1 e)
    simp [h, this]

theorem and2_some {x y : Option Bool} {r : Bool} (h : and2 x y = some r) : ∃ p q, x = some p ∧ y = some q ∧ r = (p && q) := by
  cases x <;> cases y <;> simp [and2] at h
  exact ⟨_, _, rfl, rfl, h.symm⟩
theorem eqL_cons {k : Nat} {ks : List Nat} {a b : List AV} {r : Bool} (h : eqL (k :: ks) a b = some r) :
    ∃ x y a' b' p q, a = x :: a' ∧ b = y :: b' ∧ eq1 k x y = some p ∧ eqL ks a' b' = some q ∧ r = (p && q) := by
  cases a with
  | nil => simp [eqL] at h
  | cons x a' =>
    cases b with
    | nil => simp [eqL] at h
    | cons y b' =>
      simp only [eqL] at h
      obtain ⟨p, q, h1, h2, h3⟩ := and2_some h
      exact ⟨x, y, a', b', p, q, rfl, rfl, h1, h2, h3⟩
theorem eqL_len : ∀ {ks : List Nat} {a b : List AV} {r : Bool}, eqL ks a b = some r → a.length = ks.length ∧ b.length = ks.length
  | [], a, b, r, h => by cases a <;> cases b <;> simp [eqL] at h ⊢
  | k :: ks, a, b, r, h => by
    obtain ⟨x, y, a', b', p, q, rfl, rfl, h1, h2, h3⟩ := eqL_cons h
    have := eqL_len h2
    simp [this]
theorem eqL_append : ∀ {ks ks' : List Nat} {a b : List AV} {r : Bool}, eqL (ks ++ ks') a b = some r →
    ∃ x y, eqL ks (a.take ks.length) (b.take ks.length) = some x ∧ eqL ks' (a.drop ks.length) (b.drop ks.length) = some y ∧ r = (x && y)
  | [], ks', a, b, r, h => ⟨true, r, by simp [eqL], by simpa using h, by simp⟩
  | k :: ks, ks', a, b, r, h => by
    obtain ⟨x, y, a', b', p, q, rfl, rfl, h1, h2, h3⟩ := eqL_cons (ks := ks ++ ks') h
    obtain ⟨u, v, g1, g2, g3⟩ := eqL_append h2
    exact ⟨p && u, v, by simp [eqL, h1, g1, and2], by simpa using g2, by simp [h3, g3, Bool.and_assoc]⟩

/-- A value of a type out of its cells. -/
def asV (P : Program) (ρ : Env) (t : TypeId) (xs : List AV) : Value :=
  match P.underlying t, xs with
  | some (.struct _), xs => .agg ⟨AV.vals ρ xs⟩
  | some (.array _ _), xs => .agg ⟨AV.vals ρ xs⟩
  | _, [x] => x.val ρ
  | _, xs => .agg ⟨AV.vals ρ xs⟩

theorem run_part {P : Program} {w : World} {ρ : Env} {t : TypeId} {xs : List AV} {off k : Nat} (hk : tsize P t = k) (hi : (P.info? t).isSome = true) (hd : ∃ d ks, plainEq P d t = some ks ∧ ks.length = k) (hlen : off + k ≤ xs.length) :
    (part t ⟨AV.vals ρ xs⟩ off).run P w = .ok (asV P ρ t ((xs.drop off).take k)) w := by
  obtain ⟨i, hi⟩ := Option.isSome_iff_exists.1 hi
  obtain ⟨d, ks, hd, rfl⟩ := hd
  have hsz : i.size = ks.length := by simpa [tsize, hi] using hk
  have hext : ∀ (a b : Nat), (⟨AV.vals ρ xs⟩ : Array Value).extract a b = ⟨AV.vals ρ ((xs.drop a).take (b - a))⟩ := fun a b => by
    apply Array.ext'
    simp [vals_take, vals_drop]
  cases d with
  | zero => simp [plainEq] at hd
  | succ d =>
    unfold plainEq at hd
    cases hu : P.underlying t with
    | none => simp [hu] at hd
    | some ds =>
      have lone : ∀ c, ks = [c] → (isAgg t).run P w = .ok false w → (∀ x, asV P ρ t [x] = x.val ρ) → (part t ⟨AV.vals ρ xs⟩ off).run P w = .ok (asV P ρ t ((xs.drop off).take ks.length)) w := by
        intro c hc ha hv
        subst hc
        have : off < xs.length := by simp at hlen; omega
        have hx : (xs.drop off).take [c].length = [xs[off]] := by
          simp only [List.length_singleton]
          rw [List.take_one]; simp [List.head?_drop, List.getElem?_eq_getElem this]
        rw [hx, hv]
        simp [part, ha, vals_get, List.getElem?_eq_getElem this]
      cases ds with
      | int k' => simp [hu] at hd; exact lone _ hd.symm (by simp [isAgg, run_underlying hu]) (fun x => by simp [asV, hu])
      | bool => simp [hu] at hd; exact lone _ hd.symm (by simp [isAgg, run_underlying hu]) (fun x => by simp [asV, hu])
      | string => simp [hu] at hd; exact lone _ hd.symm (by simp [isAgg, run_underlying hu]) (fun x => by simp [asV, hu])
      | struct fs =>
        have ha : (isAgg t).run P w = .ok true w := by simp [isAgg, run_underlying hu]
        simp [part, ha, sizeOf, typeInfo, hi, asV, hu, hsz, hext, Nat.add_sub_cancel_left]
      | array m e =>
        have ha : (isAgg t).run P w = .ok true w := by simp [isAgg, run_underlying hu]
        simp [part, ha, sizeOf, typeInfo, hi, asV, hu, hsz, hext, Nat.add_sub_cancel_left]
      | _ => simp [hu] at hd

theorem plainFs_pre {P : Program} {g : TypeId → Option (List Nat)} : ∀ (fs : List Field) (ks ks' : List Nat), plainFs P g ks fs = some ks' → ∃ r, ks' = ks ++ r
  | [], ks, ks', h => ⟨[], by simpa [plainFs] using h.symm⟩
  | f :: fs, ks, ks', h => by
    simp only [plainFs] at h
    split at h
    · split at h
      · obtain ⟨r, hr⟩ := plainFs_pre fs _ _ h
        rename_i k0 _ _
        exact ⟨k0 ++ r, by rw [hr, List.append_assoc]⟩
      · cases h
    · cases h

theorem drop_split (xs : List AV) (n k : Nat) : (xs.drop n).take k = (xs.drop n).take k ∧ (xs.drop n).drop k = xs.drop (n + k) := ⟨rfl, List.drop_drop⟩

theorem plainFs_ok {P : Program} {w : World} {ρ : Env} {d : Nat} (ih : ∀ (t : TypeId) (ks : List Nat) (xs ys : List AV) (r : Bool), plainEq P d t = some ks → eqL ks xs ys = some r → ∀ e, (Op.equalIn (d + e) t (asV P ρ t xs) (asV P ρ t ys)).run P w = .ok r w) :
    ∀ (fs : List Field) (ks ks' tl : List Nat) (xs ys : List AV) (r : Bool), plainFs P (plainEq P d) ks fs = some ks' → ks' = ks ++ tl → xs.length = ks'.length → ys.length = ks'.length → eqL tl (xs.drop ks.length) (ys.drop ks.length) = some r → ∀ e,
      (Op.eqFields (d + e) ⟨AV.vals ρ xs⟩ ⟨AV.vals ρ ys⟩ fs).run P w = .ok r w
  | [], ks, ks', tl, xs, ys, r, h, ht, hx, hy, hr, e => by
    simp only [plainFs, Option.some.injEq] at h
    have : tl = [] := by rw [← h] at ht; simpa using ht
    subst this
    have := eqL_len hr
    cases hq : xs.drop ks.length <;> cases hq' : ys.drop ks.length <;> simp [hq, hq', eqL] at hr
    simp [Op.eqFields, hr]
  | f :: fs, ks, ks', tl, xs, ys, r, h, ht, hx, hy, hr, e => by
    simp only [plainFs] at h
    cases hk : plainEq P d f.type with
    | none => rw [hk] at h; cases h
    | some k =>
      rw [hk] at h
      simp only at h
      split at h
      · rename_i hc
        obtain ⟨ho, hn, hs, hi⟩ := hc
        obtain ⟨tl', htl⟩ := plainFs_pre fs _ _ h
        have e1 : tl = k ++ tl' := by rw [ht, List.append_assoc] at htl; exact List.append_cancel_left htl
        subst e1
        obtain ⟨u, v, h1, h2, h3⟩ := eqL_append hr
        rw [List.drop_drop, List.drop_drop] at h2
        have hrest := plainFs_ok ih fs (ks ++ k) ks' tl' xs ys v h (by rw [htl]) hx hy (by rw [List.length_append]; exact h2) e
        have hle : ks.length + k.length ≤ xs.length := by rw [hx, ht]; simp
        have hle' : ks.length + k.length ≤ ys.length := by rw [hy, ht]; simp
        have hpx := run_part (P := P) (w := w) (ρ := ρ) (t := f.type) (xs := xs) (off := ks.length) hs hi ⟨d, k, hk, rfl⟩ hle
        have hpy := run_part (P := P) (w := w) (ρ := ρ) (t := f.type) (xs := ys) (off := ks.length) hs hi ⟨d, k, hk, rfl⟩ hle'
        have he := ih f.type k _ _ u hk h1 e
        simp only [Op.eqFields, hn, ne_eq, not_false_eq_true, if_true, ho, Sem.run_bind, hpx, hpy, Result.andThen_ok, he]
        cases u
        · simp [h3]
        · simp [hrest, h3]
      · cases h

theorem rep_len {α : Type} (n : Nat) (l : List α) : (rep n l).length = n * l.length := by
  induction n with
  | zero => simp [rep]
  | succ n ih => simp [rep, ih, Nat.add_mul]; omega

theorem plainArr_ok {P : Program} {w : World} {ρ : Env} {d : Nat} {t : TypeId} {k : List Nat} (hs : tsize P t = k.length) (hi : (P.info? t).isSome = true) (hk : plainEq P d t = some k)
    (ih : ∀ (xs ys : List AV) (r : Bool), eqL k xs ys = some r → ∀ e, (Op.equalIn (d + e) t (asV P ρ t xs) (asV P ρ t ys)).run P w = .ok r w) (e : Nat) (xs ys : List AV) (N : Nat) (hx : xs.length = N * k.length) (hy : ys.length = N * k.length) :
    ∀ (m i : Nat) (r : Bool), i + m = N → eqL (rep m k) (xs.drop (i * k.length)) (ys.drop (i * k.length)) = some r →
      ((forIn (List.range' i m) ((none, ()) : Option Bool × PUnit) fun j _ => do
        if !(← Op.equalIn (d + e) t (← part t ⟨AV.vals ρ xs⟩ (j * k.length)) (← part t ⟨AV.vals ρ ys⟩ (j * k.length))) then pure (.done (some false, ())) else pure (.yield (none, ()))) : Sem (Option Bool × PUnit)).run P w =
        .ok (if r then none else some false, ()) w
  | 0, i, r, hN, hr => by
    have := eqL_len hr
    cases hq : xs.drop (i * k.length) <;> cases hq' : ys.drop (i * k.length) <;> simp [hq, hq', eqL, rep] at hr
    subst hr
    simp
  | m + 1, i, r, hN, hr => by
    have hik : i * k.length + k.length ≤ N * k.length := by
      have : (i + 1) * k.length ≤ N * k.length := Nat.mul_le_mul_right _ (by omega)
      rw [Nat.add_mul] at this; omega
    simp only [rep] at hr
    obtain ⟨u, v, h1, h2, h3⟩ := eqL_append hr
    rw [List.drop_drop, List.drop_drop, show i * k.length + k.length = (i + 1) * k.length by rw [Nat.add_mul]; omega] at h2
    have hpx := run_part (P := P) (w := w) (ρ := ρ) (t := t) (xs := xs) (off := i * k.length) hs hi ⟨d, k, hk, rfl⟩ (by omega)
    have hpy := run_part (P := P) (w := w) (ρ := ρ) (t := t) (xs := ys) (off := i * k.length) hs hi ⟨d, k, hk, rfl⟩ (by omega)
    have he := ih _ _ u h1 e
    have hrest := plainArr_ok hs hi hk ih e xs ys N hx hy m (i + 1) v (by omega) h2
    simp only [List.range'_succ, List.forIn_cons, Sem.run_bind, hpx, hpy, Result.andThen_ok, he]
    cases u
    · simp [h3]
    · simp only [Bool.not_true, Bool.false_eq_true, if_false, Sem.run_pure, Result.andThen_ok]
      rw [hrest]; simp [h3]

theorem eq1_0 {x y : AV} {p : Bool} (h : eq1 0 x y = some p) : ∃ k a b, x = .int k a ∧ y = .int k b ∧ p = (a == b) := by
  cases x <;> cases y <;> simp [eq1] at h
  exact ⟨_, _, _, by rw [h.1], rfl, h.2.symm⟩
theorem eq1_1 {x y : AV} {p : Bool} (h : eq1 1 x y = some p) : ∃ a b, x = .bool a ∧ y = .bool b ∧ p = (a == b) := by
  cases x <;> cases y <;> simp [eq1] at h
  exact ⟨_, _, rfl, rfl, h.symm⟩
theorem eq1_2 {x y : AV} {p : Bool} (h : eq1 2 x y = some p) : ∃ a b, x = .str a ∧ y = .str b ∧ p = decide (a = b) := by
  cases x <;> cases y <;> simp [eq1] at h
  exact ⟨_, _, rfl, rfl, h.symm⟩

theorem plainEq_ok {P : Program} {w : World} {ρ : Env} : ∀ (d : Nat) (t : TypeId) (ks : List Nat) (xs ys : List AV) (r : Bool), plainEq P d t = some ks → eqL ks xs ys = some r → ∀ e,
    (Op.equalIn (d + e) t (asV P ρ t xs) (asV P ρ t ys)).run P w = .ok r w
  | 0, t, n, xs, ys, r, h, _, _ => by simp [plainEq] at h
  | d + 1, t, ks, xs, ys, r, h, hr, e => by
    have hxy := eqL_len hr
    unfold plainEq at h
    have e1 : d + 1 + e = (d + e) + 1 := by omega
    rw [e1]
    cases hu : P.underlying t with
    | none => simp [hu] at h
    | some ds =>
      cases ds with
      | int k =>
        simp [hu] at h; subst h
        obtain ⟨x, y, a', b', p, q, rfl, rfl, h1, h2, h3⟩ := eqL_cons hr
        cases a' <;> cases b' <;> simp [eqL] at h2
        subst h2
        obtain ⟨k, a, b, rfl, rfl, rfl⟩ := eq1_0 h1
        simp [asV, hu, AV.val, run_equalIn_int _ _ _ _ _ _ _ hu, h3]
      | bool =>
        simp [hu] at h; subst h
        obtain ⟨x, y, a', b', p, q, rfl, rfl, h1, h2, h3⟩ := eqL_cons hr
        cases a' <;> cases b' <;> simp [eqL] at h2
        subst h2
        obtain ⟨a, b, rfl, rfl, rfl⟩ := eq1_1 h1
        simp [asV, hu, AV.val, run_equalIn_bool' _ _ _ _ _ hu, h3]
      | string =>
        simp [hu] at h; subst h
        obtain ⟨x, y, a', b', p, q, rfl, rfl, h1, h2, h3⟩ := eqL_cons hr
        cases a' <;> cases b' <;> simp [eqL] at h2
        subst h2
        obtain ⟨a, b, rfl, rfl, rfl⟩ := eq1_2 h1
        simp [asV, hu, AV.val, run_equalIn_string _ _ _ _ _ hu, h3, str_eq]
      | struct fs =>
        simp only [hu] at h
        split at h
        · cases h
        · rename_i hst
          have hf : P.fieldsOf t = fs := by simp [Program.fieldsOf, hu]
          have := plainFs_ok (w := w) (ρ := ρ) (fun t ks xs ys r h1 h2 e => plainEq_ok d t ks xs ys r h1 h2 e) fs.toList [] ks ks xs ys r h rfl hxy.1 hxy.2 (by simpa using hr) e
          simp only [asV, hu]
          rw [run_equalIn_struct w (d + e) t _ _ (by rw [hf]; exact hu) (by simpa using hst), hf]
          exact this
      | array n el =>
        simp only [hu] at h
        cases hk : plainEq P d el with
        | none => rw [hk] at h; cases h
        | some k =>
          rw [hk] at h
          simp only at h
          split at h
          · rename_i hc
            simp only [Option.some.injEq] at h
            subst h
            rw [rep_len] at hxy
            obtain ⟨i, hi⟩ := Option.isSome_iff_exists.1 hc.2
            have hsz : (sizeOf el).run P w = .ok k.length w := by
              have := hc.1; simp [tsize, hi] at this; simp [sizeOf, typeInfo, hi, this]
            have := plainArr_ok (w := w) (ρ := ρ) hc.1 hc.2 hk (fun xs ys r h2 e => plainEq_ok d el k xs ys r hk h2 e) e xs ys n hxy.1 hxy.2 n 0 r (by omega) (by simpa using hr)
            simp only [asV, hu]
            simp only [Op.equalIn, Sem.run_bind, run_underlying hu, Result.andThen_ok, hsz]
            rw [Std.Legacy.Range.forIn_eq_forIn_range']
            simp only [Std.Legacy.Range.size, Nat.sub_zero, Nat.add_sub_cancel, Nat.div_one]
            rw [this]
            cases r <;> simp
          · cases h
      | _ => simp [hu] at h
end Go.Fw
