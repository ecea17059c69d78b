/- The kernel's machine stands for the model's. -/
import Derived.Test.YtbndodeihodjfaaGreatFwExecS5b
import Derived.RangeFuncRecord
import Derived.RangeFuncIn
namespace Go.Fw
set_option linter.unusedVariables false
set_option linter.unusedSimpArgs false

theorem sat_drawn {G K ρ w m} (h : Sat G K ρ w m) (d : Nat) : Sat G K ρ { w with drawn := d } m := by
  refine ⟨h.glob, fun i b hb => ?_, h.apart, h.known, h.few⟩
  have := h.ok i b hb
  rcases b with ⟨wr, c⟩
  cases wr <;> cases c <;> exact this
theorem step_drawn (K : Nat → Prop) (ρ : Env) (w : World) (m : Mem) (d : Nat) : Step K ρ w m K ρ { w with drawn := d } m :=
  ⟨rfl, rfl, rfl, Nat.le_refl _, fun _ h => h, fun _ _ => rfl, fun _ _ _ => rfl, fun i c h => .inr ⟨i, c, h, id, rfl⟩⟩

/-- A block that no name knows is turned. -/
theorem sat_hide {G K ρ w m} (h : Sat G K ρ w m) {l : Nat} (hne : ∀ i c, m.get i = some c → (ρ i).b ≠ l) (o : Obj) : Sat G K ρ (w.putObj l o) m :=
  ⟨h.glob, fun i b hb => Blk.ok_congr (h.ok i b hb) (World.putObj_heap_other (hne i b hb)) (by simp) (h.known i b hb).2 (fun _ _ => rfl), h.apart, h.known, h.few⟩
theorem alloc_heap (w : World) (o : Obj) : (w.alloc o).heap = w.heap.push o := rfl
/-- A block without a name is laid. -/
theorem sat_push {G K ρ w m} (h : Sat G K ρ w m) (o : Obj) : Step K ρ w m K ρ (w.alloc o) m ∧ Sat G K ρ (w.alloc o) m := by
  have hold : ∀ k, k < w.heap.size → (w.alloc o).heap[k]? = w.heap[k]? := fun k hk => by rw [alloc_heap, Array.getElem?_push, if_neg (by omega)]
  exact sat_next h rfl rfl rfl (by rw [alloc_heap]; simp) (fun _ h => h) h.few (fun _ _ => rfl) (fun b hb _ => hold b hb) (fun i b hb => .inl ⟨hb, hold _ (Blk.ok_lt (h.ok i b hb))⟩) (fun i j b c hb hc => h.apart i j b c hb hc)

section
variable {P : Program} {N z : Nat} {rd : Option Nat} {cn : Nat} {call : CallF}

theorem region_sound (hm : P.follows .mixedOrders = true) (hc : CallOk P call) (hp : CallPure call) {id : Nat} {ops : Array Oper} {any : Bool} {s s' : ES} (hl : ops.toList.all (operOk P N ops) = true) (h : region P call ops any s = some s') (ht : s.e.tidy)
    {NB : Nat} (hNB : s'.e.nb < NB) {K ρ a w} (hR : Rel0 P N z K ρ a w ⟨s.fr, s.e.m⟩) (hf : Free K s.e NB) {Q : Exit → Act → World → Prop}
    (hn : ∀ K' ρ' a' w', EW K ρ w s.e K' ρ' w' s'.e → Rel0 P N z K' ρ' a' w' ⟨s'.fr, s'.e.m⟩ → Q .normal a' w') : (Code.region id ops any).wpIn (Fr rd) cn P Q a w := by
  have hext := region_ext hp h ht
  unfold region at h
  split at h
  · exact wpIn_region_list (eops_sound hc hp hl h ht hNB hR hf hn)
  · split at h
    · rename_i hst
      split at h
      · rename_i hcalm
        obtain ⟨b0, recs, a3, a4, a5, a6, a7, a8⟩ := eops_calm (N := N) (z := z) (rd := rd) (cn := cn) (Q := Q) (l := ops.toList) (ops := ops) (i := 0) (by simp) hl hcalm h
        have hE := static_edges hst
        have hi_of : ∀ i, (∃ r ∈ recs, r.i = i) ↔ i < ops.size := by
          intro i
          have : (∃ r ∈ recs, r.i = i) ↔ i ∈ recs.map (·.i) := by simp
          rw [this, a6, List.mem_range']
          simp only [Nat.one_mul, Nat.zero_add, Array.length_toList]
          exact ⟨fun ⟨k, hk, e⟩ => by omega, fun h => ⟨i, h, rfl⟩⟩
        have hlt : recs.Pairwise (fun r q => r.i < q.i) := by
          have := List.pairwise_lt_range' (s := 0) (n := ops.toList.length) (step := 1)
          rw [← a6, List.pairwise_map] at this
          exact this
        have hpair : recs.Pairwise (fun r q => (Bef ops r.i q.i ∨ Indep r q) ∧ ∀ n ∈ r.new, n ∉ q.new) := by
          refine List.Pairwise.imp_of_mem ?_ hlt
          intro r q hr hq hlt
          obtain ⟨r1, r2⟩ := a8 r hr
          obtain ⟨q1, q2⟩ := a8 q hq
          refine ⟨?_, fun n hn => by rw [r1] at hn; cases hn⟩
          by_cases hb : befM (masks ops.toList []) r.i q.i = true
          · exact .inl (befM_ok hb)
          · right
            obtain ⟨o, o1, o2, o3⟩ := a7 r hr
            obtain ⟨o', p1, p2, p3⟩ := a7 q hq
            have hsl := (static_slots hst o1 p1 hlt).resolve_left hb
            obtain ⟨s1, s2⟩ := slotsApart_ok hsl
            refine ⟨fun d hd => ?_, fun d hd => ?_, (fun n hn => by rw [r2] at hn; cases hn), (fun n hn => by rw [q2] at hn; cases hn)⟩
            · rw [p3, p2]; exact s1 d (o2 ▸ hd)
            · rw [o3]; exact s2 d (p2 ▸ hd)
        have hR' : Rel0 P N z K ρ a { w with drawn := w.drawn + 1 } ⟨s.fr, s.e.m⟩ := ⟨hR.size, hR.tm, sat_drawn hR.sat _, hR.defs⟩
        refine wpIn_region_any hm (any_core hE K ρ w s.e.m ops.size recs _ ⟨s.fr, s.e.m⟩ K ρ a _ ?_ (by simp) ?_ hlt ?_ hpair a5 a3 (step_drawn _ _ _ _ _) hR' ?_ ?_)
        · have : recs.length = ops.size := by
            have := congrArg List.length a6
            simpa using this
          omega
        · intro i
          rw [hi_of i]
          constructor
          · intro h
            rcases Nat.lt_or_ge i ops.size with h1 | h1
            · exact h1
            · simp [Array.getD, Nat.not_lt.2 h1] at h
          · intro h
            simp [Array.getD, h]
        · intro i o e ho hl2
          have : i < ops.size := (Array.getElem?_eq_some_iff.1 ho).1
          simp [Array.getD, this] at hl2
        · intro r hr n hn'
          rw [(a8 r hr).1] at hn'; cases hn'
        · intro K' ρ' a' w' s2 hS2 hR2 hsame hK2
          have hsm := hsame.trans a4
          refine hn K' ρ' a' w' ⟨step_congr (fun _ => rfl) hsm.2 hS2, fun i hi => ?_, hext.bd⟩ (hR2.congr hsm)
          rcases hK2 i hi with h | ⟨r, hr, hin⟩
          · exact .inl h
          · rw [(a8 r hr).1] at hin; cases hin
      · split at h
        · rename_i s1 rs he
          split at h
          · rename_i hma
            cases h
            obtain ⟨recs, a1, a2, a3, a4, a5, a6, a7, a8, a9⟩ := edraw_recs (N := N) (z := z) (rd := rd) (cn := cn) (Q := Q) (l := ops.toList) hc hp (by simp) hl he ht
            have hE := static_edges hst
            have hi_of : ∀ i, (∃ r ∈ recs, r.i = i) ↔ i < ops.size := by
              intro i
              have : (∃ r ∈ recs, r.i = i) ↔ i ∈ recs.map (·.i) := by simp
              rw [this, a6, List.mem_range']
              simp only [Nat.one_mul, Nat.zero_add, Array.length_toList]
              exact ⟨fun ⟨k, hk, e⟩ => by omega, fun h => ⟨i, h, rfl⟩⟩
            have hlt : recs.Pairwise (fun r q => r.i < q.i) := by
              have := List.pairwise_lt_range' (s := 0) (n := ops.toList.length) (step := 1)
              rw [← a6, List.pairwise_map] at this
              exact this
            have hmem : ∀ r ∈ recs, ∀ q ∈ recs, r.i ≠ q.i → befM (masks ops.toList []) r.i q.i = false → befM (masks ops.toList []) q.i r.i = false → ∀ n ∈ r.u.map (·.1), n ∉ q.reads ∧ n ∉ q.u.map (·.1) := by
              intro r hr q hq hne hb1 hb2 n hn
              obtain ⟨dr, e1, e2, e3, e4⟩ := a2 r hr
              obtain ⟨dq, f1, f2, f3, f4⟩ := a2 q hq
              unfold memApart at hma
              have h1 := List.all_eq_true.1 hma dr e1
              simp only [Bool.or_eq_true] at h1
              rcases h1 with h1 | h1
              · rw [e3, List.isEmpty_iff] at h1
                rw [h1] at hn; cases hn
              · have h2 := List.all_eq_true.1 h1 dq f1
                rw [f2, e2, hb1, hb2] at h2
                simp only [Bool.or_eq_true, Bool.false_eq_true, or_false, Bool.and_eq_true] at h2
                rcases h2 with (h2 | h2) | h2
                · unfold quietR at h2
                  split at h2
                  · rename_i hrd
                    have h5 := f4 _ hrd
                    rw [h5]
                    rw [f3, List.isEmpty_iff] at h2
                    rw [h2]
                    exact ⟨by simp, by simp⟩
                  · cases h2
                · exact absurd (Nat.eq_of_beq_eq_true h2).symm hne
                · obtain ⟨h3, h4⟩ := h2
                  refine ⟨?_, ?_⟩
                  · unfold noneOf at h3
                    cases hrd : dq.reads with
                    | some F =>
                      rw [hrd] at h3
                      have := List.all_eq_true.1 h3 n (by rw [e3]; exact hn)
                      rw [f4 F hrd]
                      rw [hasN_eq] at this
                      simpa using this
                    | none =>
                      rw [hrd] at h3
                      simp only [List.isEmpty_iff] at h3
                      rw [e3] at h3
                      rw [h3] at hn; cases hn
                  · intro hn'
                    rw [f3] at h4
                    have := List.all_eq_true.1 h4 n hn'
                    rw [hasN_eq, e3] at this
                    simp at this
                    obtain ⟨p, hp, rfl⟩ := List.mem_map.1 hn
                    exact this _ hp
            have hpair : recs.Pairwise (fun r q => (Bef ops r.i q.i ∨ Indep r q) ∧ ∀ n ∈ r.new, n ∉ q.new) := by
              have hall : recs.Pairwise (fun r q => r.i < q.i ∧ ∀ n ∈ r.new, n ∉ q.new) := List.pairwise_and_iff.2 ⟨hlt, a9⟩
              refine List.Pairwise.imp_of_mem ?_ hall
              rintro r q hr hq ⟨hlt, hnew⟩
              refine ⟨?_, hnew⟩
              by_cases hb : befM (masks ops.toList []) r.i q.i = true
              · exact .inl (befM_ok hb)
              · right
                have hb1 : befM (masks ops.toList []) r.i q.i = false := by simpa using hb
                have hb2 : befM (masks ops.toList []) q.i r.i = false := by
                  cases hq2 : befM (masks ops.toList []) q.i r.i with
                  | false => rfl
                  | true =>
                    exfalso
                    have hbef := befM_ok hq2
                    have key : ∀ j i, Bef ops j i → j < i := by
                      intro j i hb
                      induction hb with
                      | one ho he hb => exact edgesOk_lt hE ho he hb
                      | more hj ho he hb ih => have := edgesOk_lt hE ho he hb; omega
                    have := key _ _ hbef
                    omega
                obtain ⟨o, o1, o2, o3⟩ := a7 r hr
                obtain ⟨o', p1, p2, p3⟩ := a7 q hq
                have hsl := (static_slots hst o1 p1 hlt).resolve_left hb
                obtain ⟨s1, s2⟩ := slotsApart_ok hsl
                refine ⟨fun d hd => ?_, fun d hd => ?_, hmem r hr q hq (by omega) hb1 hb2, fun n hn => (hmem q hq r hr (by omega) hb2 hb1 n hn).1⟩
                · rw [p3, p2]; exact s1 d (o2 ▸ hd)
                · rw [o3]; exact s2 d (p2 ▸ hd)
            have hR' : Rel0 P N z K ρ a { w with drawn := w.drawn + 1 } ⟨s.fr, s.e.m⟩ := ⟨hR.size, hR.tm, sat_drawn hR.sat _, hR.defs⟩
            refine wpIn_region_any hm (any_core hE K ρ w s.e.m ops.size recs _ ⟨s.fr, s.e.m⟩ K ρ a _ ?_ (by simp) ?_ hlt ?_ hpair a5 a3 (step_drawn _ _ _ _ _) hR' ?_ ?_)
            · have : recs.length = ops.size := by
                have := congrArg List.length a6
                simpa using this
              omega
            · intro i
              rw [hi_of i]
              constructor
              · intro h
                rcases Nat.lt_or_ge i ops.size with h1 | h1
                · exact h1
                · simp [Array.getD, Nat.not_lt.2 h1] at h
              · intro h
                simp [Array.getD, h]
            · intro i o e ho hl2
              have : i < ops.size := (Array.getElem?_eq_some_iff.1 ho).1
              simp [Array.getD, this] at hl2
            · intro r hr n hn'
              have := a8 r hr n hn'
              exact hf n this.1 (by omega)
            · intro K' ρ' a' w' s2 hS2 hR2 hsame hK2
              have hsm := hsame.trans a4
              refine hn K' ρ' a' w' ⟨step_congr (fun _ => rfl) hsm.2 hS2, fun i hi => ?_, hext.bd⟩ (hR2.congr hsm)
              rcases hK2 i hi with h | ⟨r, hr, hin⟩
              · exact .inl h
              · exact .inr (a8 r hr i hin)
          · cases h
        · cases h
    · cases h
end
end Go.Fw
