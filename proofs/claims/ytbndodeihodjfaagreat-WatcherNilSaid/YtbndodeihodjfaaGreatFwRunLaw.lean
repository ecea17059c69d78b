/- The abstract machine stands for the model's. -/
import Derived.Test.YtbndodeihodjfaaGreatFwRunSound
namespace Go.Fw
set_option linter.unusedVariables false
set_option linter.unusedSimpArgs false

section
variable {P : Program} {N z : Nat} {rd : Option Nat} {cn : Nat}

theorem bound_addK {K : Nat → Prop} {m : Mem} (h : ∀ i, K i → i < m.bound) (u : List (Nat × Option Blk)) : ∀ i, addK K u i → i < (m.upds u).bound := by
  intro i hi
  obtain ⟨h1, h2⟩ := bound_upds u m
  rcases hi with hi | hi
  · exact Nat.lt_of_lt_of_le (h i hi) h1
  · exact h2 i hi

theorem exV_ok {go : List It → St → Prop} {r : Res} {d : Option Tmp} {full l k fr m} (h : exV go r d full l k fr m) :
    ∃ v u, r.ok v u ∧ go (.ops full l :: k) ⟨putD fr d v, m.upds u⟩ := by
  cases r with
  | @val pre _ v u => exact ⟨v, u, ⟨h.1, rfl, rfl⟩, h.2⟩
  | _ => exact h.elim

theorem exR_ok {go : List It → St → Prop} {r : Res} {d : Option Tmp} {full l k fr m} (h : exR P go r d full l k fr m) :
    (∃ v u, r.ok v u ∧ go (.ops full l :: k) ⟨putD fr d v, m.upds u⟩) ∨
    ∃ f args ns, r = .call f args ∧ (∀ n ∈ ns, m.bound ≤ n) ∧ ACall P f args m ns fun v m' => m.bound ≤ m'.bound ∧ (∀ n ∈ ns, n < m'.bound) ∧ go (.ops full l :: k) ⟨putD fr d v, m'⟩ := by
  cases r with
  | @val pre _ v u => exact .inl ⟨v, u, ⟨h.1, rfl, rfl⟩, h.2⟩
  | ite b x y =>
    refine .inl ?_
    cases b with
    | true =>
      obtain ⟨v, u, h1, h2⟩ := exV_ok (h.1 rfl)
      exact ⟨v, u, by simp only [Res.ok, if_true]; exact h1, h2⟩
    | false =>
      obtain ⟨v, u, h1, h2⟩ := exV_ok (h.2 rfl)
      exact ⟨v, u, by simp only [Res.ok, Bool.false_eq_true, if_false]; exact h1, h2⟩
  | call f args =>
    obtain ⟨ns, h1, h2⟩ := h
    exact .inr ⟨f, args, ns, rfl, h1, h2⟩
  | _ => exact h.elim

theorem aop_ok_noDefer {evf : Operand → AV} {m : Mem} {nf : Nat} {o : Op} {v u} (h : (aop P evf m nf o).ok v u) (c : Call) : o ≠ .defer c := by
  rintro rfl; exact h
theorem aop_call_noDefer {evf : Operand → AV} {m : Mem} {nf : Nat} {o : Op} {f args} (h : aop P evf m nf o = .call f args) (c : Call) : o ≠ .defer c := by
  rintro rfl; cases h

theorem enters_of_acall {f args m ns R} (h : ACall P f args m ns R) : enters P f = true := h.1

theorem res_call_isCall {evf : Operand → AV} {m : Mem} {nf : Nat} {o : Op} {f args} (h : aop P evf m nf o = .call f args) : ∃ c, o = .call c := by
  cases o with
  | call c => exact ⟨c, rfl⟩
  | binOp op t x y _ =>
    simp only [aop, abin, abinI, anilEq, aaggEq] at h
    repeat' (split at h)
    all_goals cases h
  | unOp op t x =>
    simp only [aop, aun] at h
    repeat' (split at h)
    all_goals cases h
  | convert s d x =>
    simp only [aop, aconvB, aconv] at h
    repeat' (split at h)
    all_goals cases h
  | makeSlice t l c =>
    simp only [aop, amake] at h
    repeat' (split at h)
    all_goals cases h
  | index t x i =>
    simp only [aop, aidx] at h
    repeat' (split at h)
    all_goals cases h
  | slice t x lo hi mx =>
    simp only [aop, aslice] at h
    repeat' (split at h)
    all_goals cases h
  | indexAddr t x i =>
    simp only [aop, aindexAddr] at h
    repeat' (split at h)
    all_goals cases h
  | _ =>
    simp only [aop] at h
    try (repeat' (split at h))
    all_goals cases h

theorem get_isSome {m : Mem} {i : Nat} {b : Blk} (h : m.get i = some b) : (m.get i).isSome = true := by rw [h]; rfl
theorem storeN_name {m : Mem} {a : AV} {cs : List AV} {nm : Nat} {b : Blk} (h : m.storeN a cs = some (nm, b)) : (m.get nm).isSome = true := by
  unfold Mem.storeN at h
  repeat' (split at h)
  all_goals first
    | cases h; done
    | (injection h with h; injection h with h1 h2; subst h1; exact get_isSome (by assumption))

/-- What is written is new or known. -/
theorem aop_names {evf : Operand → AV} {m : Mem} {nf : Nat} {o : Op} {v u} (h : (aop P evf m nf o).ok v u) : ∀ i ∈ u.map (·.1), i = nf ∨ (m.get i).isSome = true := by
  have base : ∀ {pre : Prop} [Decidable pre] {x : AV} {l : List (Nat × Option Blk)}, (Res.val pre x l).ok v u → (∀ i ∈ l.map (·.1), i = nf ∨ (m.get i).isSome = true) → ∀ i ∈ u.map (·.1), i = nf ∨ (m.get i).isSome = true := by
    intro pre _ x l hr hl
    obtain ⟨_, _, rfl⟩ := hr
    exact hl
  have nil : ∀ {pre : Prop} [Decidable pre] {x : AV}, (Res.val pre x []).ok v u → ∀ i ∈ u.map (·.1), i = nf ∨ (m.get i).isSome = true := fun hr => base hr (by simp)
  have one : ∀ {pre : Prop} [Decidable pre] {x : AV} {b}, (Res.val pre x [(nf, b)]).ok v u → ∀ i ∈ u.map (·.1), i = nf ∨ (m.get i).isSome = true := fun hr => base hr (by simp)
  have two : ∀ {pre : Prop} [Decidable pre] {x : AV} {nm b b' bb}, m.get nm = some bb → (Res.val pre x [(nm, b'), (nf, b)]).ok v u → ∀ i ∈ u.map (·.1), i = nf ∨ (m.get i).isSome = true := fun hg hr => base hr (by
    intro i hi
    simp only [List.map_cons, List.map_nil, List.mem_cons, List.not_mem_nil, or_false] at hi
    rcases hi with rfl | rfl
    · exact .inr (get_isSome hg)
    · exact .inl rfl)
  cases o with
  | call c =>
    simp only [aop, acallee] at h
    cases hc : c.callee with
    | builtin b =>
      rw [hc] at h
      simp only [abuiltin, aappend, aclear] at h
      repeat' (split at h)
      all_goals first
        | exact h.elim
        | exact nil h
        | exact two (by assumption) h
        | skip
      all_goals
        simp only [Res.ok] at h
        split at h
        · exact nil h
        · first
            | exact one h
            | exact h.elim
            | exact base h (by
                intro i hi
                simp only [List.map_cons, List.map_nil, List.mem_cons, List.not_mem_nil, or_false] at hi
                subst hi
                exact .inr (get_isSome (by assumption)))
    | value f =>
      rw [hc] at h
      simp only at h
      split at h <;> exact h.elim
    | invoke r nm =>
      rw [hc] at h
      simp only at h
      split at h
      · split at h <;> exact h.elim
      · exact h.elim
  | binOp op t x y _ =>
    simp only [aop, abin, abinI, anilEq, aaggEq] at h
    repeat' (split at h)
    all_goals first | exact h.elim | exact nil h
  | unOp op t x =>
    simp only [aop, aun] at h
    repeat' (split at h)
    all_goals first | exact h.elim | exact nil h
  | convert s d x =>
    simp only [aop, aconvB, aconv] at h
    repeat' (split at h)
    all_goals first | exact h.elim | exact nil h | exact one h
  | makeSlice t l c =>
    simp only [aop, amake] at h
    repeat' (split at h)
    all_goals first | exact h.elim | exact nil h | exact one h
  | index t x i =>
    simp only [aop, aidx] at h
    repeat' (split at h)
    all_goals first | exact h.elim | exact nil h | exact one h
  | slice t x lo hi mx =>
    simp only [aop, aslice] at h
    repeat' (split at h)
    all_goals first
      | exact h.elim
      | exact nil h
      | (simp only [Res.ok] at h
         split at h
         · exact one h
         · exact nil h)
  | indexAddr t x i =>
    simp only [aop, aindexAddr] at h
    repeat' (split at h)
    all_goals first | exact h.elim | exact nil h
  | store t a x =>
    simp only [aop] at h
    repeat' (split at h)
    all_goals first
      | exact h.elim
      | exact base h (by
          intro i hi
          simp only [List.map_cons, List.map_nil, List.mem_cons, List.not_mem_nil, or_false] at hi
          subst hi
          exact .inr (storeN_name (by assumption)))
  | _ =>
    simp only [aop] at h
    try (repeat' (split at h))
    all_goals first | exact h.elim | exact nil h | exact one h

theorem addK_new {K : Nat → Prop} {G ρ w} {m : Mem} (hS : Sat G K ρ w m) {u : List (Nat × Option Blk)} (h : ∀ i ∈ u.map (·.1), i = m.bound ∨ (m.get i).isSome = true) : ∀ i, addK K u i → K i ∨ m.bound ≤ i := by
  intro i hi
  rcases hi with hi | hi
  · exact .inl hi
  · rcases h i hi with e | e
    · exact .inr (by omega)
    · obtain ⟨b, hb⟩ := Option.isSome_iff_exists.1 e
      exact .inl (hS.known i b hb).1

/-- One operation that is wanted. -/
theorem op_sound {go : List It → St → Prop} {s : St} {o : Oper} {full : Array Oper} {l : List Oper} {k : List It} {K ρ a w} {Q' : Exit → Act → World → Prop} {next : Act → World → Prop}
    (hop : operOk P N full o = true) (h : exR P go (aop P (ev s.fr) s.m s.m.bound o.op) o.dst full l k s.fr s.m) (hR : Rel P N z K ρ a w s)
    (hn : ∀ K' ρ' a' w' s', go (.ops full l :: k) s' → Went K ρ w s.m K' ρ' w' s'.m → Rel P N z K' ρ' a' w' s' → next a' w') :
    o.wpIn (Fr rd) cn P a w next Q' := by
  simp only [operOk, Bool.and_eq_true] at hop
  obtain ⟨⟨hd, hopn⟩, _⟩ := hop
  have hev : ∀ x ∈ o.op.operands.toList, Evs K ρ a.eval (ev s.fr) x := fun x hx => hR.ev (List.all_eq_true.1 hopn x hx)
  have hdst : ∀ t, o.dst = some t → t < N := fun t e => by rw [e] at hd; simpa using hd
  have hnf : ¬ K s.m.bound := fun hk => Nat.lt_irrefl _ (hR.bd _ hk)
  rcases exR_ok h with ⟨v, u, hok, hgo⟩ | ⟨f, args, ns, hr, hns, hc⟩
  · refine wpIn_val (aop_ok_noDefer hok) (aop_ok hR.sat hnf hev (aop_noCall hok) hok) fun w' ρ' h1 h2 h3 => ?_
    exact hn _ _ _ _ _ hgo ⟨h1, addK_new hR.sat (aop_names hok), (bound_upds u s.m).1⟩ (hR.next h1 h2 (bound_addK hR.bd u) hdst h3)
  · obtain ⟨c, ho⟩ := res_call_isCall hr
    obtain ⟨h1, h2⟩ := call_run ho hev hr hc.1 w
    refine ⟨fun f _ => Fr_fn rd f, ?_⟩
    rw [Fr_round, semAt_noDefer (aop_call_noDefer hr), h1]
    refine ⟨fun hd => (by rw [Fr_depth] at hd; cases hd), Fr_calls.2 ?_⟩
    refine (hc.2 K ρ w hR.sat h2 (fun n hn hk => Nat.lt_irrefl _ (Nat.lt_of_lt_of_le (hR.bd _ hk) (hns n hn)))).mono ?_
    rintro e w' ⟨v, ρ', m', K', rfl, hS, hT, hv, hK, hρ, hb1, hb2, hgo⟩
    refine hn _ _ _ _ _ hgo ⟨hS, fun i hi => (hK i hi).imp id (hns i), hb1⟩ (hR.next hS hT (fun i hi => ?_) hdst hv)
    rcases hK i hi with h | h
    · exact Nat.lt_of_lt_of_le (hR.bd i h) hb1
    · exact hb2 i h

theorem rel_same {K ρ a w} {s : St} (hR : Rel P N z K ρ a w s) {t : Tmp} {b : Bool} (ht : t < N) (hb : s.fr.get t = .bool b) : Rel P N z K ρ a w ⟨s.fr.put t (.bool b), s.m⟩ := by
  refine ⟨hR.size, fun t' ht' => ?_, hR.sat, hR.bd, hR.defs⟩
  obtain ⟨h1, h2, h3⟩ := hR.tm t' ht'
  refine ⟨by simp only [Tr.mem_put]; exact h1, ?_⟩
  by_cases e : t = t'
  · subst e
    simp only [Tr.get_put_same _ _ _ h1]
    rw [← hb]; exact ⟨h2, h3⟩
  · simp only [Tr.get_put_other _ _ _ _ e]; exact ⟨h2, h3⟩

theorem run_sound (K0 : Nat → Prop) (ρ0 : Env) (w0 : World) (m0 : Mem) : ∀ (n : Nat) (Q : Exit → St → Prop) (k : List It) (s : St), run P Q n k s → k.all (itOk P N) = true →
    ∀ K ρ a w, Went K0 ρ0 w0 m0 K ρ w s.m → Rel P N w0.heap.size K ρ a w s → wpK (Fr rd) cn P (Lift P N Q K0 ρ0 w0 m0) k .normal a w
  | 0, _, _, _, h, _ => by simp [run] at h
  | n + 1, Q, [], s, h, _ => fun K ρ a w hS hR => ⟨K, ρ, s, hS, hR, h⟩
  | n + 1, Q, .blk _ :: k, s, h, hk => fun K ρ a w hS hR => by
    simp only [List.all_cons, Bool.and_eq_true] at hk
    exact run_sound K0 ρ0 w0 m0 n Q k s h hk.2 K ρ a w hS hR
  | n + 1, Q, .ops full [] :: k, s, h, hk => fun K ρ a w hS hR => by
    simp only [List.all_cons, Bool.and_eq_true] at hk
    exact run_sound K0 ρ0 w0 m0 n Q k s h hk.2 K ρ a w hS hR
  | n + 1, Q, .ops full (o :: l) :: k, s, h, hk => fun K ρ a w hS hR => by
    simp only [List.all_cons, itOk, Bool.and_eq_true] at hk
    have hk' : (It.ops full l :: k).all (itOk P N) = true := by simp only [List.all_cons, itOk, Bool.and_eq_true]; exact ⟨hk.1.2, hk.2⟩
    simp only [wpK, wpListIn]
    simp only [run] at h
    have key : ∀ s1 : St, Rel P N w0.heap.size K ρ a w s1 → s1.m = s.m → exR P (run P Q n) (aop P (ev s1.fr) s1.m s1.m.bound o.op) o.dst full l k s1.fr s1.m →
        o.wpIn (Fr rd) cn P a w (wpListIn (Fr rd) cn P full (wpK (Fr rd) cn P (Lift P N Q K0 ρ0 w0 m0) k) l) (wpK (Fr rd) cn P (Lift P N Q K0 ρ0 w0 m0) k) := by
      intro s1 hR1 hm he
      refine op_sound hk.1.1 he hR1 fun K' ρ' a' w' s' hgo hS' hR' => ?_
      have := run_sound K0 ρ0 w0 m0 n Q _ s' hgo hk' K' ρ' a' w' (hS.trans (hm ▸ hS')) hR'
      simpa only [wpK] using this
    cases hg : o.guard with
    | none =>
      rw [hg] at h
      simp only [Region.wanted, hg, if_true]
      exact key s hR rfl h
    | some g =>
      obtain ⟨j, want⟩ := g
      rw [hg] at h
      simp only at h
      split at h
      · rename_i t ht
        have htN : t < N := by
          have := hk.1.1
          simp only [operOk, Bool.and_eq_true, hg, ht] at this
          simpa using this.2
        unfold exG at h
        split at h
        · rename_i b hb
          have hval : a.tmps.getD t undef = .bool b := by rw [(hR.tm t htN).2.1, hb]; simp [AV.val]
          have hy : yielded full a.tmps j = some b := by
            unfold gslot at ht
            have hlt : t < a.tmps.size := by rw [hR.size]; exact htN
            unfold yielded
            rw [ht]
            have : a.tmps[t]? = some (.bool b) := by
              rw [Array.getElem?_eq_getElem hlt]
              simpa [Array.getD, hlt] using hval
            simp [this]
          simp only [Region.wanted, hg, hy]
          by_cases hbw : b = want
          · subst hbw
            simp only [beq_self_eq_true, if_true]
            exact key ⟨s.fr.put t (.bool b), s.m⟩ (rel_same hR htN hb) rfl (h.1 rfl)
          · have hbn : b = !want := by cases b <;> cases want <;> simp_all
            have hne : (some b == some want) = false := by simp [hbw]
            simp only [hne, Bool.false_eq_true, if_false]
            refine ⟨fun f _ => Fr_fn rd f, ?_⟩
            have hgo := h.2 hbn
            rw [← hbn] at hgo
            have hR2 := rel_same hR htN hb
            have hdst : ∀ t, o.dst = some t → t < N := fun t e => by
              have := hk.1.1
              simp only [operOk, Bool.and_eq_true, e] at this
              simpa using this.1.1
            have := run_sound K0 ρ0 w0 m0 n Q _ _ hgo hk' K ρ (a.put o.dst undef) w hS
              (by simpa [undefA, AV.val, AV.vals, undef] using hR2.next (d := o.dst) (v := undefA) (Step.refl K ρ w s.m) hR.sat hR.bd hdst (by simp [undefA, AV.sc, AV.scs]))
            simpa only [wpK] using this
        · rename_i hb
          have hval : a.tmps.getD t undef = .tuple #[] := by rw [(hR.tm t htN).2.1, hb]; simp [AV.val, AV.vals]
          have hy : yielded full a.tmps j = none := by
            unfold gslot at ht
            have hlt : t < a.tmps.size := by rw [hR.size]; exact htN
            unfold yielded
            rw [ht]
            have : a.tmps[t]? = some (.tuple #[]) := by
              rw [Array.getElem?_eq_getElem hlt]
              simpa [Array.getD, hlt] using hval
            simp [this]
          simp only [Region.wanted, hg, hy]
          have hne : ((none : Option Bool) == some want) = false := rfl
          simp only [hne, Bool.false_eq_true, if_false]
          refine ⟨fun f _ => Fr_fn rd f, ?_⟩
          have hdst : ∀ t, o.dst = some t → t < N := fun t e => by
            have := hk.1.1
            simp only [operOk, Bool.and_eq_true, e] at this
            simpa using this.1.1
          have := run_sound K0 ρ0 w0 m0 n Q _ _ h hk' K ρ (a.put o.dst undef) w hS
            (by simpa [undefA, AV.val, AV.vals, undef] using hR.next (d := o.dst) (v := undefA) (Step.refl K ρ w s.m) hR.sat hR.bd hdst (by simp [undefA, AV.sc, AV.scs]))
          simpa only [wpK] using this
        · exact h.elim
      · exact h.elim
  | n + 1, Q, .code c :: k, s, h, hk => fun K ρ a w hS hR => by
    simp only [List.all_cons, itOk, Bool.and_eq_true] at hk
    simp only [wpK]
    cases c with
    | skip =>
      simp only [run] at h
      exact wpIn_skip (run_sound K0 ρ0 w0 m0 n Q k s h hk.2 K ρ a w hS hR)
    | region id ops any =>
      cases any with
      | true => simp only [run] at h
      | false =>
        simp only [run] at h
        simp only [fits] at hk
        refine wpIn_region_list ?_
        have := run_sound K0 ρ0 w0 m0 n Q _ s h (by simp only [List.all_cons, itOk, Bool.and_eq_true]; exact hk) K ρ a w hS hR
        simpa only [wpK] using this
    | seq x y =>
      simp only [run] at h
      simp only [fits, Bool.and_eq_true] at hk
      have := run_sound K0 ρ0 w0 m0 n Q _ s h (by simp only [List.all_cons, itOk, Bool.and_eq_true]; exact ⟨hk.1.1, hk.1.2, hk.2⟩) K ρ a w hS hR
      simp only [wpK] at this
      refine wpIn_seq (wpIn_mono this fun e a w hq => ?_)
      cases e <;> exact hq
    | cond c x y =>
      simp only [run] at h
      simp only [fits, Bool.and_eq_true] at hk
      have he := hR.ev hk.1.1.1
      unfold exC at h
      split at h
      · rename_i b hb
        refine wpIn_cond_split (t := b) (by rw [← he.val, hb]; simp [AV.val]) (fun ht => ?_) (fun ht => ?_)
        · have := run_sound K0 ρ0 w0 m0 n Q _ _ (h.1 ht) (by simp only [List.all_cons, itOk, Bool.and_eq_true]; exact ⟨hk.1.1.2, hk.2⟩) K ρ a w hS hR
          simpa only [wpK] using this
        · have := run_sound K0 ρ0 w0 m0 n Q _ _ (h.2 ht) (by simp only [List.all_cons, itOk, Bool.and_eq_true]; exact ⟨hk.1.2, hk.2⟩) K ρ a w hS hR
          simpa only [wpK] using this
      · exact h.elim
    | block id c =>
      simp only [run] at h
      simp only [fits] at hk
      have := run_sound K0 ρ0 w0 m0 n Q _ s h (by simp only [List.all_cons, itOk, Bool.and_eq_true]; exact ⟨hk.1, trivial, hk.2⟩) K ρ a w hS hR
      simp only [wpK] at this
      refine wpIn_block (wpIn_mono this fun e a w hq => ?_)
      cases e with
      | exit id' =>
        simp only [wpK] at hq
        simp only [Exit.inBlock]
        exact hq
      | _ => simpa only [wpK, Exit.inBlock] using hq
    | exit id =>
      simp only [run] at h
      refine wpIn_exit ?_
      rw [wpK_exit]
      split at h
      · rename_i k' hk'
        exact run_sound K0 ρ0 w0 m0 n Q k' s h (popTo_ok hk' hk.2) K ρ a w hS hR
      · rename_i hk'
        exact ⟨K, ρ, s, hS, hR, h⟩
    | ret =>
      simp only [run] at h
      refine wpIn_ret ?_
      rw [wpK_ret]
      exact ⟨K, ρ, s, hS, hR, h⟩
    | loop c =>
      simp only [run] at h
      obtain ⟨I, μ, hI, hround⟩ := h
      simp only [fits] at hk
      have key : ∀ j s' K ρ a w, μ s' < j → I s' → Went K0 ρ0 w0 m0 K ρ w s'.m → Rel P N w0.heap.size K ρ a w s' →
          Code.roundsIn (Fr rd) cn P c (wpK (Fr rd) cn P (Lift P N Q K0 ρ0 w0 m0) k) j a w := by
        intro j
        induction j with
        | zero => intro s' K ρ a w hj; omega
        | succ j ih =>
          intro s' K ρ a w hj hI' hS' hR'
          have := run_sound K0 ρ0 w0 m0 n _ _ s' (hround s' hI') (by simp only [List.all_cons, itOk, Bool.and_eq_true, List.all_nil]; exact ⟨hk.1, trivial⟩) K ρ a w hS' hR'
          simp only [wpK] at this
          rw [roundsIn_succ]
          refine wpIn_mono this ?_
          rintro e a1 w1 ⟨K1, ρ1, s1, hS1, hR1, hQ1⟩
          cases e with
          | normal => exact ih s1 K1 ρ1 a1 w1 (by have := hQ1.2; omega) hQ1.1 hS1 hR1
          | exit id =>
            simp only [loopQ] at hQ1
            simp only [Exit.then]
            rw [wpK_exit]
            split at hQ1
            · rename_i k' hk'
              exact run_sound K0 ρ0 w0 m0 n Q k' s1 hQ1 (popTo_ok hk' hk.2) K1 ρ1 a1 w1 hS1 hR1
            · rename_i hk'
              exact ⟨K1, ρ1, s1, hS1, hR1, hQ1⟩
          | ret =>
            simp only [Exit.then]
            rw [wpK_ret]
            exact ⟨K1, ρ1, s1, hS1, hR1, hQ1⟩
          | _ => exact hQ1.elim
      exact wpIn_loop_rounds (μ s + 1) (key _ s K ρ a w (Nat.lt_succ_self _) hI hS hR)
    | _ => simp only [run] at h
end
end Go.Fw
