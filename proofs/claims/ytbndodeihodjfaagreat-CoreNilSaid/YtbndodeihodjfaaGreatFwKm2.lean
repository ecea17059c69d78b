/- The quick machine: operations. -/
import Derived.Test.YtbndodeihodjfaaGreatFwKm1
namespace Go.Fw
set_option linter.unusedVariables false
set_option linter.unusedSimpArgs false

section
variable {P : Program} {call : CallF} {evf : Operand → AV} {e e' : EM} {v : AV}

theorem eopE_of_get {o : Op} (h : (aop P evf e.m e.nb o).get? = some (v, [])) : eopE P call evf e o = some (v, e) := by
  unfold eopE
  rw [aopF_eq]
  split
  · rename_i hr; rw [hr] at h; simp [Res.get?] at h
  · rename_i hr; rw [hr] at h; simp [Res.get?] at h
  · rw [h]; rfl
theorem eopE_of_put {o : Op} {u : List (Nat × Option Blk)} (h : (aop P evf e.m e.nb o).get? = some (v, u)) (hp : e.puts u = some e') : eopE P call evf e o = some (v, e') := by
  unfold eopE
  rw [aopF_eq]
  split
  · rename_i hr; rw [hr] at h; simp [Res.get?] at h
  · rename_i hr; rw [hr] at h; simp [Res.get?] at h
  · rw [h]; simp only [hp]
theorem eopE_ev {evf' : Operand → AV} {o : Op} (h : ∀ x ∈ o.operands.toList, evf x = evf' x) : eopE P call evf e o = eopE P call evf' e o := by
  unfold eopE
  rw [aopF_eq, aopF_eq, aop_ev o h]
theorem eop_eq {fr : Tr} {o : Op} : eop P call fr e o = eopE P call (ev fr) e o := by
  unfold eop eopE
  rw [evF_eq]
  cases aopF P (ev fr) e.m e.nb o <;> rfl

theorem slowB_ok {op : BinOp} {t : TypeId} {x y : AV} (h : slowB P op t x y = some v) : (abin P op t x y).get? = some (v, []) := by
  unfold slowB at h
  split at h
  · rename_i w hw; rw [tightA_eq] at h; cases h; exact hw
  · cases h
theorem slowO_ok {o : Op} (hs : silentOp o = true) (hc : calmOp o = true) (h : slowO P o evf = some v) (m : Mem) (nf : Nat) : (aop P evf m nf o).get? = some (v, []) := by
  unfold slowO at h
  rw [aopF_eq] at h
  split at h
  · rename_i w hw
    rw [tightA_eq] at h
    cases h
    rw [← hw, calm_nf (nf' := 0) hc, aop_silent (m' := ⟨fun _ => none, 0, []⟩) o hs]
  · cases h

theorem toI_ok {x : AV} {k : IntKind} {n : Int} (h : x.toI = some (k, n)) : x = .int k n := by
  cases x <;> simp [AV.toI] at h
  obtain ⟨rfl, rfl⟩ := h; rfl
theorem toB_ok {x : AV} {b : Bool} (h : x.toB = some b) : x = .bool b := by
  cases x <;> simp [AV.toB] at h
  rw [h]
theorem toT_ok {x : AV} {l : List AV} (h : x.toT = some l) : x = .tuple l := by
  cases x <;> simp [AV.toT] at h
  rw [h]

theorem int2_ok {op : BinOp} {t : TypeId} {f : IntKind → Int → Int → Option AV} {x y : AV} (h : int2 P op t f x y = some v)
    (hf : ∀ k a b, f k a b = some v → (abin P op t (.int k a) (.int k b)).get? = some (v, [])) : (abin P op t x y).get? = some (v, []) := by
  unfold int2 at h
  split at h
  · rename_i k a hx
    split at h
    · rename_i k' b hy
      split at h
      · rename_i hk
        have := ikEq_eq hk
        subst this
        rw [toI_ok hx, toI_ok hy]
        exact hf k a b h
      · exact slowB_ok h
    · exact slowB_ok h
  · exact slowB_ok h

theorem abin_int {op : BinOp} {t : TypeId} {k : IntKind} {a b : Int} (h1 : op ≠ .shl) (h2 : op ≠ .shr) : abin P op t (.int k a) (.int k b) = abinI op k a b := by
  unfold abin
  cases op <;> first | (exact absurd rfl h1) | (exact absurd rfl h2) | simp
theorem get_val {x : AV} : (Res.val True x []).get? = some (x, []) := by simp [Res.get?]

theorem get_val' {x : AV} {u : List (Nat × Option Blk)} : (Res.val True x u).get? = some (x, u) := by simp [Res.get?]

theorem isNil_ok {x : AV} (h : x.isNil = true) : x = .nil := by cases x <;> first | rfl | (simp [AV.isNil] at h)
theorem toP_ptr {x : AV} {nm o : Nat} (h : x.toP = .ptr nm o) : x = .ptr nm o := by
  cases x <;> simp [AV.toP] at h
  obtain ⟨rfl, rfl⟩ := h; rfl
theorem toP_eptr {x : AV} {nm sz i k : Nat} (h : x.toP = .eptr nm sz i k) : x = .eptr nm sz i k := by
  cases x <;> simp [AV.toP] at h
  obtain ⟨rfl, rfl, rfl, rfl⟩ := h; rfl
theorem isPtr_ok {t : TypeId} (h : isPtr P t = true) : ∃ T, TY P t = some T ∧ T.tk = .ptr := by
  unfold isPtr at h
  split at h
  · rename_i hT; exact ⟨_, hT, rfl⟩
  · cases h
theorem nilB_ok {op : BinOp} {t : TypeId} {same differ x y : AV} (ht : isPtr P t = true) (hs : ∀ T, TY P t = some T → T.tk = .ptr → anilEq P op t true true = .val True same [] ∧ anilEq P op t true false = .val True differ [])
    (h : nilB P op t same differ x y = some v) : (abin P op t x y).get? = some (v, []) := by
  obtain ⟨T, h1, h2⟩ := isPtr_ok ht
  obtain ⟨h3, h4⟩ := hs T h1 h2
  unfold nilB at h
  split at h
  · rename_i hy
    rw [isNil_ok hy]
    split at h
    · split at h
      · rename_i hx
        cases h
        rw [isNil_ok hx]
        simp only [abin, h3, get_val]
      · exact slowB_ok (by rw [isNil_ok hy] at h; exact h)
    · rename_i nm o hp
      cases h
      rw [toP_ptr hp]
      simp only [abin, h4, get_val]
    · rename_i nm sz i k hp
      cases h
      rw [toP_eptr hp]
      simp only [abin, h4, get_val]
  · exact slowB_ok h
theorem remK_ok {t : TypeId} {k : IntKind} {a b : Int} (h : remK P t k a b = some v) : (abin P .rem t (.int k a) (.int k b)).get? = some (v, []) := by
  unfold remK at h
  split at h
  · rename_i m
    split at h
    · rename_i n
      split at h
      · cases h
      · rename_i hn
        rw [tightN_eq] at h
        cases h
        have hn' : n ≠ 0 := fun e => by rw [e] at hn; simp at hn
        rw [abin_int (by simp) (by simp)]
        simp only [abinI]
        have hne : (Int.ofNat n) ≠ 0 := by intro e; exact hn' (by cases e; rfl)
        simp only [Res.get?, hne, ne_eq, not_false_eq_true, if_true]
        rfl
    · exact slowB_ok h
  · exact slowB_ok h

theorem binK_ok {op : BinOp} {t : TypeId} {x y : AV} (h : (binK P op t).un x y = some v) : (abin P op t x y).get? = some (v, []) := by
  unfold binK at h
  split at h
  · refine int2_ok h fun k a b hf => ?_
    rw [tightI_eq, wrapF_eq] at hf
    cases hf
    rw [abin_int (by simp) (by simp)]; simp only [abinI, get_val]; rfl
  · refine int2_ok h fun k a b hf => ?_
    rw [tightI_eq, wrapF_eq] at hf
    cases hf
    rw [abin_int (by simp) (by simp)]; simp only [abinI, get_val]; rfl
  · refine int2_ok h fun k a b hf => ?_
    rw [tightI_eq, wrapF_eq] at hf
    cases hf
    rw [abin_int (by simp) (by simp)]; simp only [abinI, get_val]; rfl
  · refine int2_ok h fun k a b hf => ?_
    rw [abin_int (by simp) (by simp)]; simp only [abinI, get_val, ← iLt_eq]
    split at hf <;> (rename_i hb; cases hf; rw [hb])
  · refine int2_ok h fun k a b hf => ?_
    rw [abin_int (by simp) (by simp)]; simp only [abinI, get_val]
    rw [show decide (a > b) = iLt b a from (iLt_eq b a).symm]
    split at hf <;> (rename_i hb; cases hf; rw [hb])
  · refine int2_ok h fun k a b hf => ?_
    rw [abin_int (by simp) (by simp)]; simp only [abinI, get_val]
    rw [show decide (a ≤ b) = !iLt b a from by rw [iLt_eq]; by_cases hh : b < a <;> simp [hh] <;> omega]
    split at hf <;> (rename_i hb; cases hf; rw [hb]; rfl)
  · refine int2_ok h fun k a b hf => ?_
    rw [abin_int (by simp) (by simp)]; simp only [abinI, get_val]
    rw [show decide (a ≥ b) = !iLt a b from by rw [iLt_eq]; by_cases hh : a < b <;> simp [hh] <;> omega]
    split at hf <;> (rename_i hb; cases hf; rw [hb]; rfl)
  · exact int2_ok h fun k a b hf => remK_ok hf
  · split at h
    · rename_i ht
      exact nilB_ok ht (fun T h1 h2 => ⟨by simp only [anilEq, h1, h2]; try rfl, by simp only [anilEq, h1, h2]; try rfl⟩) h
    · refine int2_ok h fun k a b hf => ?_
      rw [abin_int (by simp) (by simp)]; simp only [abinI, get_val, ← iEq_eq]
      split at hf <;> (rename_i hb; cases hf; rw [hb])
  · split at h
    · rename_i ht
      exact nilB_ok ht (fun T h1 h2 => ⟨by simp only [anilEq, h1, h2]; try rfl, by simp only [anilEq, h1, h2]; try rfl⟩) h
    · refine int2_ok h fun k a b hf => ?_
      rw [abin_int (by simp) (by simp)]; simp only [abinI, get_val]
      rw [show (a != b) = !iEq a b from by rw [iEq_eq]; rfl]
      split at hf <;> (rename_i hb; cases hf; rw [hb]; rfl)
  · exact slowB_ok h

theorem one_drop {l : List AV} {o : Nat} {v : AV} (h : l[o]? = some v) : o + 1 ≤ l.length ∧ (l.drop o).take 1 = [v] := by
  have hlt := (List.getElem?_eq_some_iff.1 h).1
  refine ⟨by omega, ?_⟩
  have h2 : l[o] = v := (List.getElem?_eq_some_iff.1 h).2
  rw [List.drop_eq_getElem_cons hlt, h2]
  rfl

theorem load1_ok {a : AV} (ht : e.tidy) (h : load1 a e = some (v, e')) : e' = e ∧ e.m.loadN a 1 = some [v] := by
  unfold load1 at h
  split at h
  · rename_i nm o hp
    rw [toP_ptr hp]
    split at h
    · rename_i l hg
      split at h
      · rename_i w hn
        cases h
        rw [nthF_eq] at hn
        obtain ⟨h1, h2⟩ := one_drop hn
        refine ⟨rfl, ?_⟩
        simp only [Mem.loadN, em_get _ ht, hg, h1, if_true, h2]
      · cases h
    · cases h
  · rename_i nm sz i k hp
    rw [toP_eptr hp]
    split at h
    · rename_i sz' L hg
      split at h
      · rename_i hsz
        have hsz' := Nat.eq_of_beq_eq_true hsz
        split at h
        · rename_i cs hr
          rw [rowF_eq] at hr
          split at h
          · rename_i hk
            have hk' : k < sz := by simpa [Nat.blt_eq] using hk
            split at h
            · rename_i w hn
              cases h
              rw [nthF_eq] at hn
              obtain ⟨h1, h2⟩ := one_drop hn
              refine ⟨rfl, ?_⟩
              simp only [Mem.loadN, em_get _ ht, hg]
              rw [if_pos ⟨hsz', by omega⟩, hr]
              simp only [h2]
            · cases h
          · cases h
        · cases h
      · cases h
    · cases h
  · cases h
theorem loadA_ok {a : AV} {s : Nat} (h0 : 0 < s) (ht : e.tidy) (h : loadA s a e = some (v, e')) : e' = e ∧ ∃ cs, e.m.loadN a s = some cs ∧ v = .agg cs := by
  have hlen : ∀ (l : List AV) (o : Nat), s ≤ (l.drop o).length → o + s ≤ l.length := fun l o h => by rw [List.length_drop] at h; omega
  unfold loadA at h
  split at h
  · rename_i nm o hp
    rw [toP_ptr hp]
    split at h
    · rename_i l hg
      split at h
      · rename_i cs hn
        cases h
        rw [takeF_eq, dropF_eq] at hn
        split at hn
        · rename_i hle
          cases hn
          refine ⟨rfl, _, ?_, rfl⟩
          simp only [Mem.loadN, em_get _ ht, hg, hlen l o hle, if_true]
        · cases hn
      · cases h
    · cases h
  · rename_i nm sz i k hp
    rw [toP_eptr hp]
    split at h
    · rename_i sz' L hg
      split at h
      · rename_i hsz
        have hsz' := Nat.eq_of_beq_eq_true hsz
        split at h
        · rename_i cs hr
          rw [rowF_eq] at hr
          split at h
          · rename_i hk
            have hk' : k + s ≤ sz := by have := Nat.le_of_ble_eq_true hk; exact this
            split at h
            · rename_i w hn
              cases h
              rw [takeF_eq, dropF_eq] at hn
              split at hn
              · cases hn
                refine ⟨rfl, _, ?_, rfl⟩
                simp only [Mem.loadN, em_get _ ht, hg]
                rw [if_pos ⟨hsz', hk'⟩, hr]
              · cases hn
            · cases h
          · cases h
        · cases h
      · cases h
    · cases h
  · cases h

theorem slowM_ok {o : Op} {fr : Fr8} (h : (slowM P o).run call fr e = some (v, e')) : eopE P call (evK fr) e o = some (v, e') := h

theorem co_opt {f : Fr8 → Option AV} {fr : Fr8} {o : Op} (h : (CO.opt f).run call fr e = some (v, e')) (hf : f fr = some v → (aop P (evK fr) e.m e.nb o).get? = some (v, [])) : eopE P call (evK fr) e o = some (v, e') := by
  simp only [CO.run] at h
  split at h
  · rename_i w hw
    cases h
    exact eopE_of_get (hf hw)
  · cases h

theorem cLoad_ok {t : TypeId} {x : Operand} {fr : Fr8} (ht : e.tidy) (h : (cLoad P t x).run call fr e = some (v, e')) : eopE P call (evK fr) e (.load t x) = some (v, e') := by
  unfold cLoad at h
  split at h
  · rename_i T hT
    simp only [Bx.to_eq] at h
    split at h
    · rename_i hagg
      split at h
      · rename_i hsz
        simp only [CO.run, cEv_un] at h
        obtain ⟨rfl, cs, h1, rfl⟩ := loadA_ok (by simpa [Nat.blt_eq] using hsz) ht h
        refine eopE_of_get ?_
        simp only [aop, hT, h1, hagg, if_true, get_val]
      · exact h
    · rename_i hagg
      split at h
      · rename_i hsz
        have hsz' : T.size = 1 := Nat.eq_of_beq_eq_true hsz
        simp only [CO.run, cEv_un] at h
        obtain ⟨rfl, h1⟩ := load1_ok ht h
        refine eopE_of_get ?_
        simp only [aop, hT, hsz', h1, hagg, Bool.false_eq_true, if_false, get_val]
      · exact h
  · exact h

theorem one_cells {v : AV} (h : v.one = true) : v.cells = [v] := by cases v <;> first | rfl | (simp [AV.one] at h)
theorem cStore_ok {t : TypeId} {x y : Operand} {fr : Fr8} (ht : e.tidy) (h : (cStore P t x y).run call fr e = some (v, e')) : eopE P call (evK fr) e (.store t x y) = some (v, e') := by
  unfold cStore at h
  split at h
  · rename_i T hT
    split at h
    · rename_i hsz
      have hsz' : T.size = 1 := Nat.eq_of_beq_eq_true hsz
      simp only [Bx.to_eq] at h
      simp only [CO.run, cEv_un] at h
      unfold store1 at h
      split at h
      · rename_i hone
        split at h
        · rename_i nm o hp
          split at h
          · rename_i l hg
            split at h
            · rename_i l' hs
              split at h
              · rename_i e2 hput
                cases h
                rw [setF_eq] at hs
                split at hs
                · rename_i hlt
                  cases hs
                  refine eopE_of_put (u := [(nm, some ⟨true, .fin (l.take o ++ [evK fr y] ++ l.drop (o + 1))⟩)]) ?_ (by simp only [EM.puts, hput])
                  have hle : o + 1 ≤ l.length := by omega
                  simp only [aop, hT, one_cells hone, hsz', toP_ptr hp, Mem.storeN, em_get _ ht, hg, List.length_cons, List.length_nil, Nat.zero_add, hle, if_true, List.all_cons, List.all_nil, hone, Bool.and_true, and_self]
                  exact get_val'
                · cases hs
              · cases h
            · cases h
          · cases h
        · exact h
      · exact h
    · exact h
  · exact h
end
end Go.Fw
