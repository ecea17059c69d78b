/- The operations' soundness. -/
import Derived.Test.YtbndodeihodjfaaGreatFwMemLaws
namespace Go.Fw
set_option linter.unusedVariables false
set_option linter.unusedSimpArgs false

theorem TY_spec {P : Program} {t : TypeId} {T : TyI} (h : TY P t = some T) :
    ∃ i d z, P.info? t = some i ∧ P.underlying t = some d ∧ i.zero = some z ∧ ofSs z.cells.toList = some T.zero ∧ T.size = i.size ∧ T.bytes = i.bytes ∧ T.agg = isA d ∧ T.tk = tkOf P d := by
  unfold TY at h
  split at h
  · rename_i i d hi hd
    split at h
    · rename_i z hz
      split at h
      · rename_i l hl
        split at h
        · cases h
          exact ⟨i, d, z, hi, hd, hz, hl, rfl, rfl, rfl, rfl⟩
        · cases h
      · cases h
    · cases h
  · cases h

theorem TY_zero {P : Program} {t : TypeId} {T : TyI} (h : TY P t = some T) : T.zero.length = T.size := by
  unfold TY at h
  split at h
  · split at h
    · split at h
      · split at h
        · rename_i hl
          cases h
          exact hl.1
        · cases h
      · cases h
    · cases h
  · cases h
theorem TY_parts {P : Program} {t : TypeId} {T : TyI} (h : TY P t = some T) : ∀ d, P.underlying t = some d → partsOk P d = true := by
  unfold TY at h
  split at h
  · rename_i hd
    split at h
    · split at h
      · split at h
        · rename_i hl
          cases h
          intro d' hd'
          rw [hd] at hd'
          cases hd'
          exact hl.2
        · cases h
      · cases h
    · cases h
  · cases h

theorem ofS_val {v : Value} {x : AV} (h : ofS v = some x) (ρ : Env) : x.val ρ = v := by
  unfold ofS at h
  split at h <;> cases h <;> simp [AV.val, AV.vals]
theorem ofS_sc {v : Value} {x : AV} (h : ofS v = some x) (K : Nat → Prop) : x.sc K := by
  unfold ofS at h
  split at h <;> cases h <;> simp [AV.sc, AV.scs]
theorem ofSs_val : ∀ {l : List Value} {x : List AV}, ofSs l = some x → ∀ ρ : Env, AV.vals ρ x = l
  | [], x, h, ρ => by simp [ofSs] at h; subst h; simp [AV.vals]
  | v :: l, x, h, ρ => by
    simp only [ofSs] at h
    split at h
    · rename_i a b ha hb
      cases h
      simp [AV.vals, ofS_val ha, ofSs_val hb]
    · cases h
theorem ofSs_sc : ∀ {l : List Value} {x : List AV}, ofSs l = some x → ∀ K : Nat → Prop, AV.scs K x
  | [], x, h, K => by simp [ofSs] at h; subst h; simp [AV.scs]
  | v :: l, x, h, K => by
    simp only [ofSs] at h
    split at h
    · rename_i a b ha hb
      cases h
      simp only [AV.scs]
      exact ⟨ofS_sc ha K, ofSs_sc hb K⟩
    · cases h
theorem ofV_val {v : Value} {x : AV} (h : ofV v = some x) (ρ : Env) : x.val ρ = v := by
  unfold ofV at h
  split at h
  · rename_i cs
    cases hc : ofSs cs.toList with
    | none => rw [hc] at h; cases h
    | some l => rw [hc] at h; cases h; simp [AV.val, ofSs_val hc]
  · rename_i cs
    cases hc : ofSs cs.toList with
    | none => rw [hc] at h; cases h
    | some l => rw [hc] at h; cases h; simp [AV.val, ofSs_val hc]
  · exact ofS_val h ρ
theorem ofV_sc {v : Value} {x : AV} (h : ofV v = some x) (K : Nat → Prop) : x.sc K := by
  unfold ofV at h
  split at h
  · rename_i cs
    cases hc : ofSs cs.toList with
    | none => rw [hc] at h; cases h
    | some l => rw [hc] at h; cases h; simp only [AV.sc]; exact ofSs_sc hc K
  · rename_i cs
    cases hc : ofSs cs.toList with
    | none => rw [hc] at h; cases h
    | some l => rw [hc] at h; cases h; simp only [AV.sc]; exact ofSs_sc hc K
  · exact ofS_sc h K

section
variable {P : Program} {t : TypeId} {T : TyI} (h : TY P t = some T) (w : World)
include h
theorem run_sizeOf : (sizeOf t).run P w = .ok T.size w := by
  obtain ⟨i, d, z, hi, hd, hz, hl, hs, hb, ha, hk⟩ := TY_spec h
  simp [sizeOf, typeInfo, hi, hs]
theorem run_isAgg : (isAgg t).run P w = .ok T.agg w := by
  obtain ⟨i, d, z, hi, hd, hz, hl, hs, hb, ha, hk⟩ := TY_spec h
  simp only [isAgg, Sem.run_bind, run_underlying hd, Result.andThen_ok, ha]
  cases d <;> rfl
theorem run_zeroValue : ∃ z, (zeroValue t).run P w = .ok z w ∧ ∀ ρ : Env, z.cells = ⟨AV.vals ρ T.zero⟩ := by
  obtain ⟨i, d, z, hi, hd, hz, hl, hs, hb, ha, hk⟩ := TY_spec h
  exact ⟨z, by simp [zeroValue, typeInfo, hi, hz], fun ρ => by rw [ofSs_val hl ρ]⟩
theorem zero_sc (K : Nat → Prop) : AV.scs K T.zero := by
  obtain ⟨i, d, z, hi, hd, hz, hl, hs, hb, ha, hk⟩ := TY_spec h
  exact ofSs_sc hl K
end

theorem tk_slice {P : Program} {t : TypeId} {T : TyI} {e : TypeId} (h : TY P t = some T) (hk : T.tk = .slice e) : P.underlying t = some (.slice e) := by
  obtain ⟨i, d, z, hi, hd, hz, hl, hs, hb, ha, hk'⟩ := TY_spec h
  rw [hk] at hk'
  cases d <;> simp [tkOf] at hk'
  rw [hd, hk']
theorem tk_array {P : Program} {t : TypeId} {T : TyI} {n : Nat} {e : TypeId} (h : TY P t = some T) (hk : T.tk = .array n e) : P.underlying t = some (.array n e) := by
  obtain ⟨i, d, z, hi, hd, hz, hl, hs, hb, ha, hk'⟩ := TY_spec h
  rw [hk] at hk'
  cases d <;> simp [tkOf] at hk'
  rw [hd, hk'.1, hk'.2]
theorem tk_bool {P : Program} {t : TypeId} {T : TyI} (h : TY P t = some T) (hk : T.tk = .bool) : P.underlying t = some .bool := by
  obtain ⟨i, d, z, hi, hd, hz, hl, hs, hb, ha, hk'⟩ := TY_spec h
  rw [hk] at hk'
  cases d <;> simp [tkOf] at hk'
  exact hd
theorem tk_ptr {P : Program} {t : TypeId} {T : TyI} (h : TY P t = some T) (hk : T.tk = .ptr) : ∃ e, P.underlying t = some (.pointer e) := by
  obtain ⟨i, d, z, hi, hd, hz, hl, hs, hb, ha, hk'⟩ := TY_spec h
  rw [hk] at hk'
  cases d <;> simp [tkOf] at hk'
  exact ⟨_, hd⟩
theorem tk_str {P : Program} {t : TypeId} {T : TyI} (h : TY P t = some T) (hk : T.tk = .str) : P.underlying t = some .string := by
  obtain ⟨i, d, z, hi, hd, hz, hl, hs, hb, ha, hk'⟩ := TY_spec h
  rw [hk] at hk'
  cases d <;> simp [tkOf] at hk'
  exact hd
theorem tk_int {P : Program} {t : TypeId} {T : TyI} {k : IntKind} (h : TY P t = some T) (hk : T.tk = .int k) : P.underlying t = some (.int k) := by
  obtain ⟨i, d, z, hi, hd, hz, hl, hs, hb, ha, hk'⟩ := TY_spec h
  rw [hk] at hk'
  cases d <;> simp [tkOf] at hk'
  rw [hd, hk']
theorem tk_struct {P : Program} {t : TypeId} {T : TyI} {fs : List (Nat × Nat × Bool)} (h : TY P t = some T) (hk : T.tk = .struct fs) :
    ∃ gs, P.underlying t = some (.struct gs) ∧ fs = gs.toList.map fun f => (f.offset, tsize P f.type, tagg P f.type) := by
  obtain ⟨i, d, z, hi, hd, hz, hl, hs, hb, ha, hk'⟩ := TY_spec h
  rw [hk] at hk'
  cases d <;> simp [tkOf] at hk'
  exact ⟨_, hd, hk'⟩

/-- What an operation comes to. -/
def Good (G : Nat) (K : Nat → Prop) (ρ : Env) (w : World) (m : Mem) (r : Result Next) (v : AV) (u : List (Nat × Option Blk)) : Prop :=
  ∃ w' ρ', Step K ρ w m (addK K u) ρ' w' (m.upds u) ∧ Sat G (addK K u) ρ' w' (m.upds u) ∧ v.sc (addK K u) ∧
    (r = .ok (.value (v.val ρ')) w' ∨ (r = .ok .skip w' ∧ v = undefA))

theorem good_pure {G K ρ w m} (h : Sat G K ρ w m) {r : Result Next} {v : AV} (hs : v.sc K) (hr : r = .ok (.value (v.val ρ)) w) : Good G K ρ w m r v [] :=
  ⟨w, ρ, by rw [addK_nil]; exact Step.refl _ _ _ _, by rw [addK_nil]; exact h, by rw [addK_nil]; exact hs, .inl hr⟩

/-- The operands' values. -/
structure Evs (K : Nat → Prop) (ρ : Env) (re : Operand → Value) (evf : Operand → AV) (x : Operand) : Prop where
  val : (evf x).val ρ = re x
  sc : (evf x).sc K

/-! ### Loads -/
theorem loadN_cells {G K ρ w m} (h : Sat G K ρ w m) {a : AV} {s : Nat} {cs : List AV} (hl : m.loadN a s = some cs) :
    ∃ b o, a.val ρ = .pointer (some ⟨b, o, none⟩) ∧ cs.length = s ∧ (∀ (j : Nat) v, cs[j]? = some v → w.cell? ⟨b, o + j, none⟩ = some (v.val ρ)) ∧ AV.scs K cs := by
  unfold Mem.loadN at hl
  split at hl
  · rename_i nm o
    split at hl
    · rename_i wr l hg
      split at hl
      · rename_i hle
        cases hl
        have hok := h.ok _ _ hg
        have hsc := (h.known _ _ hg).2
        refine ⟨(ρ nm).b, (ρ nm).off + o, by simp [AV.val], by simp; omega, fun j v hv => ?_, ?_⟩
        · have hv' : l[o + j]? = some v := by
            rw [List.getElem?_take] at hv
            split at hv
            · rw [List.getElem?_drop] at hv; exact hv
            · cases hv
          have := Blk.ok_cell hok (o + j) v hv'
          rwa [Nat.add_assoc]
        · rw [scs_iff]
          intro v hv
          exact (scs_iff K l).1 hsc v (List.mem_of_mem_drop (List.mem_of_mem_take hv))
      · cases hl
    · cases hl
  · rename_i nm sz i k
    split at hl
    · rename_i wr sz' L hg
      split at hl
      · rename_i hle
        obtain ⟨rfl, hle⟩ := hle
        split at hl
        · rename_i c hc
          cases hl
          have hok := h.ok _ _ hg
          have hsc := (h.known _ _ hg).2
          have hlen : ∀ l ∈ L, l.length = sz := by
            cases wr
            · exact hok.2.2.2.1
            · exact hok.2.2.2.1
          have hcl := hlen c (List.mem_of_getElem? hc)
          refine ⟨(ρ nm).b, (ρ nm).off + (i * sz + k), by simp [AV.val], by simp; omega, fun j v hv => ?_, ?_⟩
          · rw [List.getElem?_take] at hv
            split at hv
            · rename_i hj
              rw [List.getElem?_drop] at hv
              have := Blk.ok_cell hok (i * sz + (k + j)) v (by simp only [Cont.flat]; rw [flatten_get sz L hlen i (k + j) c hc (by omega)]; exact hv)
              rwa [Nat.add_assoc, Nat.add_assoc]
            · cases hv
          · rw [scs_iff]
            intro v hv
            exact (scs_iff K c).1 (hsc c (List.mem_of_getElem? hc)) v (List.mem_of_mem_drop (List.mem_of_mem_take hv))
        · cases hl
      · cases hl
    · cases hl
  · cases hl

theorem ok_load {P : Program} {K ρ w m} (h : Sat P.globals.size K ρ w m) {re : Operand → Value} {evf : Operand → AV} {t : TypeId} {x : Operand} (hx : Evs K ρ re evf x)
    {T : TyI} (hT : TY P t = some T) {cs : List AV} (hl : m.loadN (evf x) T.size = some cs) :
    (T.agg = true → (Instr.loadAt t (re x)).run P w = .ok ((AV.agg cs).val ρ) w) ∧ (T.agg = false → ∀ v, cs = [v] → (Instr.loadAt t (re x)).run P w = .ok (v.val ρ) w) ∧ AV.scs K cs := by
  obtain ⟨b, o, hv, hlen, hc, hsc⟩ := loadN_cells h hl
  have hre : re x = .pointer (some ⟨b, o, none⟩) := by rw [← hx.val, hv]
  refine ⟨fun ha => ?_, fun ha v hcs => ?_, hsc⟩
  · have hcells := run_loadCells_list (P := P) (w := w) ⟨b, o, none⟩ (AV.vals ρ cs) (fun j v hj => by
      rw [vals_get] at hj
      cases hq : cs[j]? with
      | none => rw [hq] at hj; cases hj
      | some u => rw [hq] at hj; cases hj; rw [Addr.add_lit]; exact hc j u hq)
    rw [vals_length, hlen] at hcells
    simp [Instr.loadAt, hre, Instr.sureAddr, loadVar, run_isAgg hT, ha, run_sizeOf hT, hcells, AV.val]
  · subst hcs
    have h0 := hc 0 v rfl
    simp only [Nat.add_zero] at h0
    simp [Instr.loadAt, hre, Instr.sureAddr, loadVar, run_isAgg hT, ha, load, Sem.run, h0]

end Go.Fw
