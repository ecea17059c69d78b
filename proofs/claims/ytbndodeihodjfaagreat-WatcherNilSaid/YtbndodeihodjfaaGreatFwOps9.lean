/- The operations' soundness: one theorem. -/
import Derived.Test.YtbndodeihodjfaaGreatFwOps8b
namespace Go.Fw
set_option linter.unusedVariables false
set_option linter.unusedSimpArgs false

theorem execOp_call {re : Operand → Value} {o : Oper} {c : Call} (ho : o.op = .call c) : execOp re o = (do let d ← resolve re c o.type; invoke d.target d.args) := by
  unfold execOp; rw [ho]

theorem callee_builtin_ok {P : Program} {K ρ w m} (h : Sat P.globals.size K ρ w m) {nf : Nat} (hn : ¬ K nf) {re : Operand → Value} {evf : Operand → AV} {o : Oper} {c : Call} (ho : o.op = .call c)
    (hev : ∀ x ∈ c.args.toList, Evs K ρ re evf x) {b : Builtin} (hb : c.callee = .builtin b) {v : AV} {u} (ha : (abuiltin P m nf b (c.args.toList.map evf) c.argTypes.toList).ok v u) :
    Good P.globals.size K ρ w m ((execOp re o).run P w) v u := by
  obtain ⟨hvs, hsc⟩ := evs_list c.args.toList hev
  have hargs : c.args.map re = ⟨AV.vals ρ (c.args.toList.map evf)⟩ := by
    apply Array.ext'
    rw [hvs]; simp
  have hts : c.argTypes = ⟨c.argTypes.toList⟩ := by simp
  generalize hA : c.args.toList.map evf = A at *
  generalize hT : c.argTypes.toList = ts at *
  rw [execOp_call ho]
  simp only [resolve, hb, hargs, Sem.run_bind, run_sem_pure, Result.andThen_ok, invoke]
  generalize (c.args.map fun | .const _ => true | _ => false) = consts
  rw [hts]
  unfold abuiltin at ha
  split at ha
  · rename_i x
    split at ha
    · rename_i t
      have hx : x.sc K := hsc.1
      split at ha
      · rename_i _ n e h1
        obtain ⟨_, rfl, rfl⟩ := ha
        have hu := tk_slice h1 rfl
        refine good_pure h (by simp [AV.sc]) ?_
        simp [builtin, Builtin.len_, AV.vals, AV.val, run_underlying hu, goInt]
      · rename_i h1
        obtain ⟨_, rfl, rfl⟩ := ha
        have hu := tk_slice h1 rfl
        refine good_pure h (by simp [AV.sc]) ?_
        simp [builtin, Builtin.len_, AV.vals, AV.val, run_underlying hu, goInt]
      · rename_i _ e h1
        obtain ⟨_, rfl, rfl⟩ := ha
        have hu := tk_slice h1 rfl
        refine good_pure h (by simp [AV.sc]) ?_
        simp [builtin, Builtin.len_, AV.vals, AV.val, run_underlying hu, goInt]
      · rename_i _ s h1
        obtain ⟨_, rfl, rfl⟩ := ha
        have hu := tk_str h1 rfl
        refine good_pure h (by simp [AV.sc]) ?_
        simp [builtin, Builtin.len_, AV.vals, AV.val, run_underlying hu, goInt]
      · exact ha.elim
    · exact ha.elim
  · rename_i x l
    split at ha
    · rename_i v' hv
      obtain ⟨_, rfl, rfl⟩ := ha
      refine good_pure h (aminL_sc l x _ hv hsc.1) ?_
      have := aminL_ok (P := P) (w := w) (ρ := ρ) l x _ hv
      simp [builtin, Builtin.min_, AV.vals, this]
    · exact ha.elim
  · rename_i x l
    split at ha
    · rename_i v' hv
      obtain ⟨_, rfl, rfl⟩ := ha
      refine good_pure h (aminL_sc l x _ hv hsc.1) ?_
      have := amaxL_ok (P := P) (w := w) (ρ := ρ) l x _ hv
      simp [builtin, Builtin.max_, AV.vals, this]
    · exact ha.elim
  · rename_i x
    split at ha
    · rename_i t
      have hx : x.sc K := hsc.1
      split at ha
      · rename_i e nm len h1
        have hu := tk_slice h1 rfl
        obtain ⟨w', ρ', g1, g2, g3, g4⟩ := aclear_ok h ha hu (ty := o.type) (x := (AV.slice nm len).val ρ) (c := (ρ nm).cap) (fun _ sz L _ _ => by simp [AV.val]) (fun h0 => ⟨some ⟨(ρ nm).b, (ρ nm).off, none⟩, by simp only [AV.val, h0]⟩)
        exact ⟨w', ρ', g1, g2, g3, .inl (by simp only [builtin, AV.vals, Sem.run_bind, g4]; rfl)⟩
      · rename_i e nm sz lo len h1
        split at ha
        · rename_i hsz
          have hu := tk_slice h1 rfl
          obtain ⟨w', ρ', g1, g2, g3, g4⟩ := aclear_ok h ha hu (ty := o.type) (x := (AV.sub nm sz lo len).val ρ) (c := (ρ nm).cap - lo) (fun _ sz' L _ hs => by simp [AV.val, hsz, hs]) (fun h0 => ⟨some ⟨(ρ nm).b, (ρ nm).off + lo * sz, none⟩, by simp only [AV.val, h0]⟩)
          exact ⟨w', ρ', g1, g2, g3, .inl (by simp only [builtin, AV.vals, Sem.run_bind, g4]; rfl)⟩
        · exact ha.elim
      · rename_i h1
        obtain ⟨_, rfl, rfl⟩ := ha
        have hu := tk_slice h1 rfl
        refine good_pure h (by simp [undefA, AV.sc, AV.scs]) ?_
        simp [builtin, Builtin.clear_, AV.vals, AV.val, run_underlying hu, undefA]
      · exact ha.elim
    · exact ha.elim
  · rename_i s x
    split at ha
    · rename_i t t'
      split at ha
      · rename_i e
        subst e
        obtain ⟨w', ρ', g1, g2, g3, g4⟩ := aappend_ok (ty := o.type) h hn hsc.1 ha
        refine ⟨w', ρ', g1, g2, g3, .inl ?_⟩
        simp only [builtin, AV.vals, Sem.run_bind]
        rw [show (Builtin.append_ ⟨[t, t]⟩ o.type ⟨[s.val ρ, x.val ρ]⟩).run P w = .ok (v.val ρ') w' from g4]
        rfl
      · exact ha.elim
    · exact ha.elim
  · exact ha.elim

theorem aaddr_ok {ρ : Env} {K : Nat → Prop} {a v : AV} {off : Nat} (h : aaddr a off = some v) (hs : a.sc K) :
    v.sc K ∧ ∃ b o, a.val ρ = .pointer (some ⟨b, o, none⟩) ∧ v.val ρ = .pointer (some ⟨b, o + off, none⟩) := by
  unfold aaddr at h
  split at h
  · cases h
    exact ⟨by simpa [AV.sc] using hs, _, _, by simp only [AV.val]; rfl, by simp [AV.val, Nat.add_assoc]⟩
  · cases h
    exact ⟨by simpa [AV.sc] using hs, _, _, by simp only [AV.val]; rfl, by simp [AV.val, Nat.add_assoc]⟩
  · cases h

theorem run_sizeOf_t {P : Program} {w : World} {t : TypeId} {n : Nat} (h : tsize P t = n) (hn : n ≠ 0) : (sizeOf t).run P w = .ok n w := by
  unfold tsize at h
  cases hi : P.info? t with
  | none => rw [hi] at h; exact absurd h.symm hn
  | some i => rw [hi] at h; simp [sizeOf, typeInfo, hi, h]

theorem aindexAddr_ok {P : Program} {w : World} {ρ : Env} {K : Nat → Prop} {t : TypeId} {x i v : AV} {u} (hs : x.sc K) (ha : (aindexAddr P t x i).ok v u) :
    (Instr.indexAt t (x.val ρ) (i.val ρ)).run P w = .ok (v.val ρ) w ∧ v.sc K ∧ u = [] := by
  unfold aindexAddr at ha
  split at ha
  · rename_i k n
    split at ha
    · rename_i len e h1
      have hu := tk_array h1 rfl
      split at ha
      · rename_i _ E nm o h2
        split at ha
        · rename_i hlen
          obtain ⟨⟨hp1, hp2⟩, rfl, rfl⟩ := ha
          refine ⟨?_, by simpa [AV.sc] using hs, rfl⟩
          simp [Instr.indexAt, asIntOf, AV.val, run_underlying hu, Instr.sureAddr, hp1, hp2, run_sizeOf h2, Addr.add_lit, Nat.add_assoc]
        · exact ha.elim
      · rename_i _ E nm sz j k' h2
        split at ha
        · rename_i hlen
          obtain ⟨⟨hp1, hp2⟩, rfl, rfl⟩ := ha
          refine ⟨?_, by simpa [AV.sc] using hs, rfl⟩
          simp [Instr.indexAt, asIntOf, AV.val, run_underlying hu, Instr.sureAddr, hp1, hp2, run_sizeOf h2, Addr.add_lit, Nat.add_assoc]
        · exact ha.elim
      · exact ha.elim
    · rename_i e h1
      have hu := tk_slice h1 rfl
      split at ha
      · rename_i _ E nm len h2
        obtain ⟨⟨hp1, hp2⟩, rfl, rfl⟩ := ha
        refine ⟨?_, by simpa [AV.sc] using hs, rfl⟩
        simp [Instr.indexAt, asIntOf, AV.val, run_underlying hu, hp1, hp2, run_sizeOf h2, Addr.add_lit]
      · rename_i _ E nm sz lo len h2
        split at ha
        · rename_i hsz
          obtain ⟨⟨hp1, hp2⟩, rfl, rfl⟩ := ha
          refine ⟨?_, by simpa [AV.sc] using hs, rfl⟩
          simp [Instr.indexAt, asIntOf, AV.val, run_underlying hu, hp1, hp2, run_sizeOf h2, Addr.add_lit, hsz, Nat.add_assoc, Nat.add_mul]
        · exact ha.elim
      · exact ha.elim
    · exact ha.elim
  · exact ha.elim

/-- Operations that are no calls of functions. -/
def Op.noCall : Op → Prop
  | .call c => ∃ b, c.callee = .builtin b
  | _ => True

theorem run_vskip {P : Program} {s : Sem Unit} {w w' : World} (h : s.run P w = .ok () w') : (do s; pure Next.skip : Sem Next).run P w = .ok .skip w' := by
  simp [h]

theorem scs_take {K : Nat → Prop} {l : List AV} (h : AV.scs K l) (n : Nat) : AV.scs K (l.take n) := (scs_iff K _).2 fun v hv => (scs_iff K l).1 h v (List.mem_of_mem_take hv)
theorem scs_drop {K : Nat → Prop} {l : List AV} (h : AV.scs K l) (n : Nat) : AV.scs K (l.drop n) := (scs_iff K _).2 fun v hv => (scs_iff K l).1 h v (List.mem_of_mem_drop hv)

theorem methA_spec {P : Program} {t : TypeId} {name : String} {f : FuncId} (h : methA P t name = some f) :
    ∃ i mt e, P.info? t = some i ∧ i.methods.find? (·.name == name) = some mt ∧ mt.path = #[] ∧ mt.func = some (f, true) ∧ P.underlying t = some (.pointer e) := by
  unfold methA at h
  split at h
  · rename_i i hi
    split at h
    · rename_i mt hm
      split at h
      · rename_i h1 h2 h3
        cases h
        exact ⟨i, mt, _, hi, hm, by simpa using h1, h2, h3⟩
      · cases h
    · cases h
  · cases h
theorem run_nilAhead {P : Program} {w : World} {t : TypeId} {name : String} {f : FuncId} (h : methA P t name = some f) (n : Nat) (v : Value) : (nilAhead (n + 1) t v name).run P w = .ok (some false) w := by
  obtain ⟨i, mt, e, hi, hm, hp, hf, hu⟩ := methA_spec h
  simp [nilAhead, typeInfo, hi, hm, hp, followBlind, hf]
theorem run_method {P : Program} {w : World} {t : TypeId} {name : String} {f : FuncId} (h : methA P t name = some f) (n : Nat) (v : Value) : (method (n + 1) t v name).run P w = .ok (f, v) w := by
  obtain ⟨i, mt, e, hi, hm, hp, hf, hu⟩ := methA_spec h
  simp [method, typeInfo, hi, hm, hp, follow, hf, receiverAt, run_underlying hu, Place.get]

theorem run_mapM {P : Program} {w : World} {α β : Type} (f : α → Sem β) (g : α → β) : ∀ (l : List α), (∀ x ∈ l, (f x).run P w = .ok (g x) w) → (l.mapM f).run P w = .ok (l.map g) w
  | [], _ => by simp
  | x :: l, h => by
    have h1 := h x (by simp)
    have h2 := run_mapM f g l (fun y hy => h y (by simp [hy]))
    simp [List.mapM_cons, h1, h2]
theorem run_mapA {P : Program} {w : World} {α β : Type} (f : α → Sem β) (g : α → β) (xs : Array α) (h : ∀ x ∈ xs.toList, (f x).run P w = .ok (g x) w) : (xs.mapM f).run P w = .ok ⟨xs.toList.map g⟩ w := by
  have := run_mapM f g xs.toList h
  rw [Array.mapM_eq_mapM_toList]
  simp [this]

theorem aop_ok {P : Program} {K ρ w m} (h : Sat P.globals.size K ρ w m) {nf : Nat} (hn : ¬ K nf) {re : Operand → Value} {evf : Operand → AV} {o : Oper}
    (hev : ∀ x ∈ o.op.operands.toList, Evs K ρ re evf x) (hno : Op.noCall o.op) {v : AV} {u} (ha : (aop P evf m nf o.op).ok v u) : Good P.globals.size K ρ w m ((execOp re o).run P w) v u := by
  cases ho : o.op <;> simp only [ho, aop] at ha <;> (try exact ha.elim)
  all_goals simp only [ho, Op.operands] at hev
  case move x =>
    have hx := hev x (by simp)
    have he : execOp re o = pure (.value (re x)) := by unfold execOp; rw [ho]
    exact ok_pure h ha (fun _ => hx.sc) (fun _ => by rw [he, hx.val]; rfl)
  case assign x =>
    have hx := hev x (by simp)
    have he : execOp re o = pure (.value (re x)) := by unfold execOp; rw [ho]
    exact ok_pure h ha (fun _ => hx.sc) (fun _ => by rw [he, hx.val]; rfl)
  case pick c a b =>
    have hc := hev c (by simp)
    have hxa := hev a (by simp)
    have hxb := hev b (by simp)
    have he : execOp re o = (do pure (.value (if ← asBool (re c) then re a else re b))) := by unfold execOp; rw [ho]
    split at ha
    · rename_i t ht
      have hre : re c = .bool t := by rw [← hc.val, ht]; simp [AV.val]
      refine ok_pure h ha (fun _ => ?_) (fun _ => ?_)
      · cases t
        · simpa [pickA] using hxb.sc
        · simpa [pickA] using hxa.sc
      · rw [he, hre]
        cases t
        · simp [asBool, pickA, hxb.val]
        · simp [asBool, pickA, hxa.val]
    · exact ha.elim
  case alloc t =>
    have he : execOp re o = (do pure (.value (← Instr.alloc t true (.tuple #[])))) := by unfold execOp; rw [ho]
    split at ha
    · rename_i T hT
      obtain ⟨_, rfl, rfl⟩ := ha
      obtain ⟨z, hz, hzc⟩ := run_zeroValue hT w
      obtain ⟨ρ', g1, g2, g3, g4⟩ := fbox (P := P) h hn t (zero_sc hT K)
      refine ⟨_, ρ', g3, g4, .inr (by simp), .inl ?_⟩
      rw [he, ev_ptr g1]
      refine run_v ?_
      simp [Instr.alloc, hz, newVar, newRow, hzc ρ]
    · exact ha.elim
  case box t x =>
    have hx := hev x (by simp)
    have he : execOp re o = (do pure (.value (← Instr.box t (re x)))) := by unfold execOp; rw [ho]
    obtain ⟨_, rfl, rfl⟩ := ha
    obtain ⟨ρ', g1, g2, g3, g4⟩ := fbox (P := P) h hn t ((sc_cells K _).2 hx.sc)
    refine ⟨_, ρ', g3, g4, .inr (by simp), .inl ?_⟩
    rw [he, ev_ptr g1]
    refine run_v ?_
    rw [← hx.val]
    simp [Instr.box, newVar, newRow, val_cells]
  case build t parts =>
    have he : execOp re o = (do pure (.value (← Instr.build t (parts.map fun (i, x) => (i, re x))))) := by unfold execOp; rw [ho]
    obtain ⟨hp1, hp2⟩ := evs_pairs (re := re) (evf := evf) parts.toList (K := K) (ρ := ρ) (fun p hp => hev p.2 (by simp; exact ⟨p.1, by simpa using hp⟩))
    have hparts : (parts.map fun (p : Nat × Operand) => (p.1, re p.2)).toList = (parts.toList.map fun p => (p.1, evf p.2)).map (fun p => (p.1, p.2.val ρ)) := by rw [hp1]; simp
    split at ha
    · rename_i sz by0 ag z fs hT
      split at ha
      · rename_i l hl
        obtain ⟨_, rfl, rfl⟩ := ha
        obtain ⟨gs, hu, hfs⟩ := tk_struct hT rfl
        obtain ⟨zv, hz, hzc⟩ := run_zeroValue hT w
        refine good_pure h (by simp only [AV.sc]; exact fill_sc _ _ _ hl (zero_sc hT K) hp2) ?_
        rw [he]
        refine run_v ?_
        have hpo := TY_parts hT _ hu
        have hmap := run_mapA (P := P) (w := w) (fun f : Field => (do pure (f.offset, ← sizeOf f.type) : Sem (Nat × Nat))) (fun f => (f.offset, tsize P f.type)) gs (fun f hf => by
          have h1 := List.all_eq_true.1 hpo f hf
          rw [Bool.and_eq_true] at h1
          obtain ⟨i, hi⟩ := Option.isSome_iff_exists.1 h1.1
          simp [sizeOf, typeInfo, hi, tsize])
        have hfill := fill_ok (ρ := ρ) _ _ _ hl
        rw [← hparts] at hfill
        simp only [Instr.build, Sem.run_bind, hz, Result.andThen_ok, run_underlying hu, hmap, hzc ρ]
        have hpl : (fun x => (⟨gs.toList.map fun f => (f.offset, tsize P f.type)⟩ : Array (Nat × Nat))[x]?) = fun (i : Nat) => Option.map (fun f : Nat × Nat × Bool => (f.1, f.2.1)) fs[i]? := by
          funext i
          subst hfs
          simp [List.getElem?_map]
          cases gs[i]? <;> rfl
        rw [hpl, hfill]
        simp [AV.val]
      · exact ha.elim
    · rename_i sz by0 ag z n e hT
      split at ha
      · rename_i E hE
        split at ha
        · rename_i l hl
          obtain ⟨_, rfl, rfl⟩ := ha
          have hu := tk_array hT rfl
          obtain ⟨zv, hz, hzc⟩ := run_zeroValue hT w
          refine good_pure h (by simp only [AV.sc]; exact fill_sc _ _ _ hl (zero_sc hT K) hp2) ?_
          rw [he]
          refine run_v ?_
          have hfill := fill_ok (ρ := ρ) _ _ _ hl
          rw [← hparts] at hfill
          simp only [Instr.build, Sem.run_bind, hz, Result.andThen_ok, run_underlying hu, run_sizeOf hE, hzc ρ, hfill]
          simp [AV.val]
        · exact ha.elim
      · exact ha.elim
    · exact ha.elim
  case buildSlice t len parts =>
    have he : execOp re o = (do pure (.value (← Instr.buildSlice t len (parts.map fun (i, x) => (i, re x))))) := by unfold execOp; rw [ho]
    obtain ⟨hp1, hp2⟩ := evs_pairs (re := re) (evf := evf) parts.toList (K := K) (ρ := ρ) (fun p hp => hev p.2 (by simp; exact ⟨p.1, by simpa using hp⟩))
    have hparts : (parts.map fun (p : Nat × Operand) => (p.1, re p.2)).toList = (parts.toList.map fun p => (p.1, evf p.2)).map (fun p => (p.1, p.2.val ρ)) := by rw [hp1]; simp
    split at ha
    · rename_i e hT
      split at ha
      · rename_i E hE
        split at ha
        · rename_i L hL
          split at ha
          · rename_i hc
            obtain ⟨hlen, hall, hsmall, hsmall2⟩ := hc
            obtain ⟨_, rfl, rfl⟩ := ha
            have hu := tk_slice hT rfl
            have hLl : ∀ l ∈ L, l.length = E.size := fun l hl => by simpa using (List.all_eq_true.1 hall) l hl
            have hLs := inOrder_sc _ _ _ hL hp2
            obtain ⟨zv, hz, hzc⟩ := run_zeroValue hE w
            have hfill := fun cs : Array Value => fill_order (ρ := ρ) (sz := E.size) _ 0 L (((Array.range (len * E.size)).map (cs[· % cs.size]!)).toList) hL hLl (by simp [hlen])
            rw [← hparts] at hfill
            have hrun : (Instr.buildSlice t len (parts.map fun (p : Nat × Operand) => (p.1, re p.2))).run P w = .ok (.slice (some ⟨w.heap.size, 0, none⟩) len len) (w.alloc (.cells ⟨AV.vals ρ L.flatten⟩ e)) := by
              have hns : ¬ (len * E.size > 2 ^ 24) := by omega
              have e1 : ∀ cs : Array Value, Array.map (fun x => cs[x % cs.size]!) (Array.range (len * E.size)) = ⟨(Array.map (fun x => cs[x % cs.size]!) (Array.range (len * E.size))).toList⟩ := fun cs => rfl
              simp only [Instr.buildSlice, Sem.run_bind, run_underlying hu, Result.andThen_ok, run_sizeOf hE, hns, if_false]
              by_cases h0 : len * E.size = 0
              · simp only [h0, if_true, Sem.run_bind, run_sem_pure, Result.andThen_ok]
                have h1 := hfill #[]
                rw [h0] at h1
                rw [show Array.map (fun x => (#[] : Array Value)[x % (#[] : Array Value).size]!) (Array.range 0) = ⟨(Array.map (fun x => (#[] : Array Value)[x % (#[] : Array Value).size]!) (Array.range 0)).toList⟩ from rfl, h1]
                simp [newRow]
              · simp only [h0, if_false, Sem.run_bind, hz, run_sem_pure, Result.andThen_ok]
                rw [e1, hfill]
                simp [newRow]
            obtain ⟨ρ', g2, g3, g4⟩ := sat_new h hn (b := ⟨true, .arr E.size L⟩) hLs (p := ⟨w.heap.size, 0, len⟩) (o := .cells ⟨AV.vals ρ L.flatten⟩ e) rfl (w' := w.alloc (.cells ⟨AV.vals ρ L.flatten⟩ e)) rfl
              (fun ρ' he _ => ⟨rfl, by show L.length ≤ len; omega, by
                  show len ≤ maxLen
                  have : maxLen = 9223372036854775807 := rfl
                  omega, hLl, ⟨AV.vals ρ L.flatten⟩, e, heap_alloc_new w _, by simp [vals_length, flatten_len _ _ hLl, hlen], by
                  rw [AV.vals_congr he _ ((scs_iff K _).2 fun v hv => by
                    obtain ⟨l, hl, hv⟩ := List.mem_flatten.1 hv
                    exact (scs_iff K l).1 (hLs l hl) v hv)]
                  rw [← flatten_len _ _ hLl, ← vals_length ρ]
                  simp⟩)
            refine ⟨_, ρ', g3, g4, .inr (by simp), .inl ?_⟩
            rw [he]
            simp only [AV.val, g2]
            exact run_v hrun
          · exact ha.elim
        · exact ha.elim
      · exact ha.elim
    · exact ha.elim
  case load t a =>
    have hx := hev a (by simp)
    have he : execOp re o = (do pure (.value (← Instr.loadAt t (re a)))) := by unfold execOp; rw [ho]
    split at ha
    · rename_i T hT
      split at ha
      · rename_i cs hl
        obtain ⟨l1, l2, l3⟩ := ok_load h hx hT hl
        split at ha
        · rename_i hag
          obtain ⟨_, rfl, rfl⟩ := ha
          exact good_pure h (by simpa [AV.sc] using l3) (by rw [he]; exact run_v (l1 hag))
        · rename_i hag
          split at ha
          · obtain ⟨_, rfl, rfl⟩ := ha
            exact good_pure h l3.1 (by rw [he]; exact run_v (l2 (by simpa using hag) _ rfl))
          · exact ha.elim
      · exact ha.elim
    · exact ha.elim
  case store t a x =>
    have hxa := hev a (by simp)
    have hx := hev x (by simp)
    have he : execOp re o = (do Instr.storeAt t (re a) (re x); pure .skip) := by unfold execOp; rw [ho]
    split at ha
    · rename_i T hT
      split at ha
      · rename_i hc
        split at ha
        · rename_i nm b hs
          obtain ⟨_, rfl, rfl⟩ := ha
          obtain ⟨w', g1, g2, g3⟩ := storeN_ok h hT hs hc.1 hc.2 hx.sc
          refine ⟨w', ρ, g2, g3, by simp [undefA, AV.sc, AV.scs], .inr ⟨?_, rfl⟩⟩
          rw [he, ← hxa.val, ← hx.val]
          exact run_vskip g1
        · exact ha.elim
      · exact ha.elim
    · exact ha.elim
  case nilCheck x =>
    have hx := hev x (by simp)
    have key : ∀ (y : Value), re x = y → (∀ q, execOp re o = q → q = execOp re o) := fun _ _ _ h => h.symm
    split at ha
    · rename_i nm o' hv
      obtain ⟨_, rfl, rfl⟩ := ha
      have hre := hx.val; rw [hv] at hre
      refine good_pure h (by rw [← hv]; exact hx.sc) ?_
      unfold execOp; rw [ho]; simp only [← hre, AV.val]; rfl
    · rename_i nm sz i k hv
      obtain ⟨_, rfl, rfl⟩ := ha
      have hre := hx.val; rw [hv] at hre
      refine good_pure h (by rw [← hv]; exact hx.sc) ?_
      unfold execOp; rw [ho]; simp only [← hre, AV.val]; rfl
    · rename_i f caps hv
      obtain ⟨_, rfl, rfl⟩ := ha
      have hre := hx.val; rw [hv] at hre
      refine good_pure h (by rw [← hv]; exact hx.sc) ?_
      unfold execOp; rw [ho]; simp only [← hre, AV.val]; rfl
    · rename_i nm hv
      obtain ⟨_, rfl, rfl⟩ := ha
      have hre := hx.val; rw [hv] at hre
      refine good_pure h (by rw [← hv]; exact hx.sc) ?_
      unfold execOp; rw [ho]; simp only [← hre, AV.val]; rfl
    · rename_i name t r hv
      split at ha
      · rename_i f hm
        obtain ⟨_, rfl, rfl⟩ := ha
        have hre := hx.val; rw [hv] at hre
        refine good_pure h (by rw [← hv]; exact hx.sc) ?_
        unfold execOp; rw [ho]; simp only [← hre, AV.val]
        have hd : ∃ n, P.types.size + Made.depth = n + 1 := ⟨P.types.size + 99, rfl⟩
        obtain ⟨n, hd⟩ := hd
        have := run_nilAhead (P := P) (w := w) hm n (r.val ρ)
        simp only [List.getElem?_toArray, List.getElem?_cons_zero, Sem.run_bind, run_program, Result.andThen_ok, hd, this]
        rfl
      · exact ha.elim
    · exact ha.elim
  case binOp op t x y yt =>
    have hxx := hev x (by simp)
    have hy := hev y (by simp)
    have he : execOp re o = (do pure (.value (← (do eqGuard op t x y (re x) (re y); binOp op t (re x) (re y))))) := by unfold execOp; rw [ho]
    obtain ⟨g1, g2, rfl⟩ := abin_ok (P := P) (w := w) ha ρ x y
    refine good_pure h (g2 K) ?_
    rw [he, ← hxx.val, ← hy.val]
    exact run_v g1
  case unOp op t x =>
    have hx := hev x (by simp)
    have he : execOp re o = (do pure (.value (← Op.unary op (re x)))) := by unfold execOp; rw [ho]
    rw [← hx.val] at he
    unfold aun at ha
    split at ha
    · rename_i b hv
      obtain ⟨_, rfl, rfl⟩ := ha
      refine good_pure h (by simp [AV.sc]) ?_
      rw [he, hv]; exact run_v (by simp [Op.unary, AV.val])
    · rename_i k n hv
      obtain ⟨_, rfl, rfl⟩ := ha
      refine good_pure h (by simp [AV.sc]) ?_
      rw [he, hv]; exact run_v (by simp [Op.unary, AV.val, Op.intArith])
    · rename_i k n hv
      obtain ⟨_, rfl, rfl⟩ := ha
      refine good_pure h (by simp [AV.sc]) ?_
      rw [he, hv]; exact run_v (by simp [Op.unary, AV.val, Op.intBits, bitsA])
    · exact ha.elim
  case convert s d x =>
    have hx := hev x (by simp)
    have he : execOp re o = (do pure (.value (← convert s d (re x)))) := by unfold execOp; rw [ho]
    obtain ⟨w', ρ', g1, g2, g3, g4⟩ := aconvB_ok h hn ha
    exact ⟨w', ρ', g1, g2, g3, .inl (by rw [he, ← hx.val]; exact run_v g4)⟩
  case makeSlice t l c =>
    have hl := hev l (by simp)
    have hc := hev c (by simp)
    have he : execOp re o = (do pure (.value (← Instr.makeSlice t (re l) (re c)))) := by unfold execOp; rw [ho]
    obtain ⟨w', ρ', g1, g2, g3, g4⟩ := amake_ok h hn ha
    exact ⟨w', ρ', g1, g2, g3, .inl (by rw [he, ← hl.val, ← hc.val]; exact run_v g4)⟩
  case makeInterface t x =>
    have hx := hev x (by simp)
    have he : execOp re o = (do pure (.value (← Instr.makeInterface t (re x)))) := by unfold execOp; rw [ho]
    split at ha
    · rename_i T hT
      obtain ⟨i, d, z, hi, hd, hz, hl, hs, hb, hag, hk⟩ := TY_spec hT
      split at ha
      · exact ha.elim
      · rename_i hni
        obtain ⟨_, rfl, rfl⟩ := ha
        refine good_pure h (by simpa [AV.sc] using hx.sc) ?_
        rw [he, ← hx.val]
        refine run_v ?_
        simp only [Instr.makeInterface, Sem.run_bind, run_underlying hd, Result.andThen_ok, AV.val]
        cases d <;> first | rfl | (simp [tkOf] at hk; exact absurd hk hni)
    · exact ha.elim
  case makeFunc fn first caps =>
    have he : execOp re o = (do pure (.value (← Instr.makeFunc fn (first.map re) (caps.map re)))) := by unfold execOp; rw [ho]
    split at ha
    · rename_i f hf
      obtain ⟨_, rfl, rfl⟩ := ha
      obtain ⟨e1, e2⟩ := evs_list (re := re) (evf := evf) (K := K) (ρ := ρ) caps.toList (fun x hx => hev x (by simp; exact .inr (by simpa using hx)))
      refine good_pure h (by simpa [AV.sc] using e2) ?_
      rw [he]
      have hfe : first = #[] := by apply Array.ext'; simpa using hf
      have hce : caps.map re = ⟨AV.vals ρ (caps.toList.map evf)⟩ := by apply Array.ext'; rw [e1]; simp
      rw [hfe, hce]
      simp [Instr.makeFunc, AV.val]
    · rename_i name r hf
      split at ha
      · rename_i hc0
        obtain ⟨_, rfl, rfl⟩ := ha
        have hr := hev r (by simp; exact .inl (by have : r ∈ first.toList := by rw [hf]; simp
                                                  simpa using this))
        refine good_pure h (by simpa [AV.sc] using hr.sc) ?_
        rw [he]
        have hfe : first = #[r] := by apply Array.ext'; simpa using hf
        have hce : caps = #[] := by apply Array.ext'; simpa using List.eq_nil_of_length_eq_zero hc0
        rw [hfe, hce]
        simp [Instr.makeFunc, AV.val, hr.val]
      · exact ha.elim
    · exact ha.elim
  case slice t x lo hi mx =>
    split at ha
    · split at ha
      · rename_i T hT
        have hx := hev x (by simp)
        have hlo : lo.map re = (lo.map evf).map (AV.val ρ) := by
          cases lo with
          | none => rfl
          | some l => simp [(hev l (by simp)).val]
        have hhi : hi.map re = (hi.map evf).map (AV.val ρ) := by
          cases hi with
          | none => rfl
          | some l => simp [(hev l (by simp)).val]
        have he : execOp re o = (do pure (.value (← Instr.sliceAt t (re x) (lo.map re) (hi.map re) none))) := by unfold execOp; rw [ho]; rfl
        obtain ⟨w', ρ', g1, g2, g3, g4⟩ := aslice_ok h hn hT hx.sc ha
        refine ⟨w', ρ', g1, g2, g3, .inl ?_⟩
        rw [he, hlo, hhi, ← hx.val]
        exact run_v g4
      · exact ha.elim
    · exact ha.elim
  case fieldAddr t x f =>
    have hx := hev x (by simp)
    have he : execOp re o = (do pure (.value (← Instr.fieldAt t (re x) f))) := by unfold execOp; rw [ho]
    split at ha
    · rename_i fs hT
      obtain ⟨gs, hu, hfs⟩ := tk_struct hT rfl
      split at ha
      · rename_i off size agg hf
        split at ha
        · rename_i hsz
          split at ha
          · rename_i a haa
            obtain ⟨_, rfl, rfl⟩ := ha
            obtain ⟨hs, b, o', e1, e2⟩ := aaddr_ok (ρ := ρ) haa hx.sc
            refine good_pure h hs ?_
            rw [he, ← hx.val, e1, e2]
            refine run_v ?_
            subst hfs
            rw [List.getElem?_map] at hf
            cases hg : gs[f]? with
            | none => rw [Array.getElem?_toList, hg] at hf; cases hf
            | some fd =>
              rw [Array.getElem?_toList, hg] at hf
              simp only [Option.map_some, Option.some.injEq, Prod.mk.injEq] at hf
              obtain ⟨rfl, rfl, rfl⟩ := hf
              simp [Instr.fieldAt, run_underlying hu, hg, Instr.sureAddr, fieldPlace, run_sizeOf_t rfl hsz, hsz, Addr.add_lit]
          · exact ha.elim
        · exact ha.elim
      · exact ha.elim
    · exact ha.elim
  case field t x f =>
    have hx := hev x (by simp)
    have he : execOp re o = (do pure (.value (← Instr.field t (re x) f))) := by unfold execOp; rw [ho]
    split at ha
    · rename_i fs hT
      obtain ⟨gs, hu, hfs⟩ := tk_struct hT rfl
      split at ha
      · rename_i off size agg l hf hv
        have hre := hx.val; rw [hv] at hre
        have hsc := hx.sc; rw [hv] at hsc; simp only [AV.sc] at hsc
        subst hfs
        rw [List.getElem?_map] at hf
        cases hg : gs[f]? with
        | none => rw [Array.getElem?_toList, hg] at hf; cases hf
        | some fd =>
          rw [Array.getElem?_toList, hg] at hf
          simp only [Option.map_some, Option.some.injEq, Prod.mk.injEq] at hf
          obtain ⟨rfl, rfl, rfl⟩ := hf
          have hpo := TY_parts hT _ hu
          have h1 := List.all_eq_true.1 hpo fd (List.mem_of_getElem? (by rw [Array.getElem?_toList]; exact hg))
          rw [Bool.and_eq_true] at h1
          obtain ⟨i, hi⟩ := Option.isSome_iff_exists.1 h1.1
          have hsz : (sizeOf fd.type).run P w = .ok (tsize P fd.type) w := by simp [sizeOf, typeInfo, hi, tsize]
          have hud : ∃ d, P.underlying fd.type = some d := Option.isSome_iff_exists.1 h1.2
          obtain ⟨d, hud⟩ := hud
          have hag : (isAgg fd.type).run P w = .ok (tagg P fd.type) w := by
            simp only [isAgg, Sem.run_bind, run_underlying hud, Result.andThen_ok, tagg, hud]
            cases d <;> rfl
          split at ha
          · rename_i hagg
            obtain ⟨_, rfl, rfl⟩ := ha
            refine good_pure h (by simp only [AV.sc]; exact scs_take (scs_drop hsc _) _) ?_
            rw [he, ← hre]
            refine run_v ?_
            simp [Instr.field, run_underlying hu, hg, part, hag, hagg, hsz, asAgg, AV.val]
            rw [vals_take, vals_drop]
          · rename_i hagg
            split at ha
            · rename_i v' hl
              obtain ⟨_, rfl, rfl⟩ := ha
              refine good_pure h ((scs_iff K _).1 hsc _ (List.mem_of_getElem? hl)) ?_
              rw [he, ← hre]
              refine run_v ?_
              simp [Instr.field, run_underlying hu, hg, part, hag, hagg, asAgg, AV.val, vals_get, hl]
            · exact ha.elim
      · exact ha.elim
    · exact ha.elim
  case indexAddr t x i =>
    have hx := hev x (by simp)
    have hi := hev i (by simp)
    have he : execOp re o = (do pure (.value (← Instr.indexAt t (re x) (re i)))) := by unfold execOp; rw [ho]
    obtain ⟨g1, g2, rfl⟩ := aindexAddr_ok (P := P) (w := w) (ρ := ρ) hx.sc ha
    exact good_pure h g2 (by rw [he, ← hx.val, ← hi.val]; exact run_v g1)
  case index t x i =>
    have hx := hev x (by simp)
    have hi := hev i (by simp)
    have he : execOp re o = (do pure (.value (← Instr.index t (re x) (re i)))) := by unfold execOp; rw [ho]
    split at ha
    · rename_i l hv1
      have hsc := hx.sc; rw [hv1] at hsc; simp only [AV.sc] at hsc
      obtain ⟨w', ρ', g1, g2, g3, g4⟩ := aidx_ok h hsc ha
      exact ⟨w', ρ', g1, g2, g3, .inl (by rw [he, ← hx.val, ← hi.val, hv1]; exact run_v g4)⟩
    · rename_i s k n hv1 hv2
      split at ha
      · rename_i hT
        obtain ⟨⟨hp1, hp2⟩, rfl, rfl⟩ := ha
        have hu := tk_str hT rfl
        refine good_pure h (by simp [AV.sc]) ?_
        rw [he, ← hx.val, ← hi.val, hv1, hv2]
        refine run_v ?_
        have hlt : n.toNat < s.size := by omega
        have hb := bytesGet s n.toNat hlt
        have hb2 : s.data.toList[n.toNat]? = some (s.data.toList[n.toNat]'(by simpa using hlt)) := List.getElem?_eq_getElem _
        simp only [Instr.index, Sem.run_bind, asIntOf, AV.val, run_sem_pure, Result.andThen_ok, run_underlying hu, hp1, if_true, hb, sb, hb2, Option.getD_some]
      · exact ha.elim
    · exact ha.elim
  case extract x i =>
    have hx := hev x (by simp)
    have he : execOp re o = (do pure (.value (← Instr.extract (re x) i))) := by unfold execOp; rw [ho]
    split at ha
    · rename_i l hv
      split at ha
      · rename_i v' hl
        obtain ⟨_, rfl, rfl⟩ := ha
        have hre := hx.val; rw [hv] at hre
        have hsc := hx.sc; rw [hv] at hsc; simp only [AV.sc] at hsc
        refine good_pure h ((scs_iff K _).1 hsc _ (List.mem_of_getElem? hl)) ?_
        rw [he, ← hre]
        refine run_v ?_
        simp [Instr.extract, AV.val, vals_get, hl]
      · exact ha.elim
    · exact ha.elim
  case call c =>
    simp only [ho, Op.noCall] at hno
    obtain ⟨b, hb⟩ := hno
    simp only [acallee, hb] at ha
    refine callee_builtin_ok h hn ho (fun x hx => hev x ?_) hb ha
    simp only [Call.operands, hb]
    simpa using hx

end Go.Fw
