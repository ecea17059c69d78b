/- The quick machine: code and calls. -/
import Derived.Test.YtbndodeihodjfaaGreatFwKm3
namespace Go.Fw
set_option linter.unusedVariables false
set_option linter.unusedSimpArgs false

section
variable {P : Program} {N : Nat} {call : CallF} {top : Bool}

theorem exec_mono : ∀ {n : Nat} {c : Code} {s : ES} {r : Exit × ES}, exec P call top N n c s = some r → exec P call top N (n + 1) c s = some r
  | 0, _, _, _, h => by simp [exec] at h
  | n + 1, c, s, r, h => by
    cases c with
    | seq a b =>
      rw [exec] at h ⊢
      split at h
      · rename_i s1 h1
        rw [exec_mono h1]
        exact exec_mono h
      · rename_i hno
        rw [exec_mono h]
        split
        · rename_i s1 h2; cases h2; exact absurd h (hno _)
        · rfl
    | cond c a b =>
      rw [exec] at h ⊢
      split at h
      · exact exec_mono h
      · exact exec_mono h
      · cases h
    | block id c =>
      rw [exec] at h ⊢
      split at h
      · rename_i h1
        rw [exec_mono h1]
        exact h
      · rename_i hno
        rw [exec_mono h]
        split
        · rename_i h2; cases h2; exact absurd h (hno _ _)
        · rfl
    | loop c =>
      rw [exec] at h ⊢
      split at h
      · rename_i s1 h1
        rw [exec_mono h1]
        exact exec_mono h
      · rename_i hno
        rw [exec_mono h]
        split
        · rename_i s1 h2; cases h2; exact absurd h (hno _)
        · rfl
    | _ => simpa only [exec] using h
theorem exec_le {n m : Nat} (hnm : n ≤ m) {c : Code} {s : ES} {r : Exit × ES} (h : exec P call top N n c s = some r) : exec P call top N m c s = some r := by
  obtain ⟨d, rfl⟩ := Nat.exists_eq_add_of_le hnm
  clear hnm
  induction d with
  | zero => exact h
  | succ d ih => exact exec_mono ih

theorem wantK_eq {full : Array Oper} {fr : Fr8} {tr : Tr} (hfr : FrK N fr tr) {o : Oper} (ho : operOk P N full o = true) : wantK full fr o = want full tr o := by
  obtain ⟨_, _, ho3⟩ := operOk_ops ho
  unfold wantK want
  cases hg : o.guard with
  | none => rfl
  | some g =>
    obtain ⟨j, w⟩ := g
    simp only []
    cases hs : gslot full j with
    | none => rfl
    | some t =>
      simp only [Tr.getF_eq]
      rw [(hfr.eq t (ho3 j w t hg hs)).2]
      cases tr.get t <;> rfl

theorem edraw1E_eq {b : Bool} {tr : Tr} {e : EM} {o : Op} {evf : Operand → AV} (h : ∀ x ∈ o.operands.toList, evf x = ev tr x) : edraw1E P call b evf e o = edraw1 P call b ⟨tr, e⟩ o := by
  have hf : foot evf o = foot (ev tr) o := by
    unfold foot
    generalize o.operands.toList = l at h
    induction l with
    | nil => rfl
    | cons x l ih =>
      simp only [List.flatMap_cons]
      rw [h x (by simp), ih (fun y hy => h y (by simp [hy]))]
  unfold edraw1E edraw1
  rw [evF_eq, aopF_eq, aopF_eq, aop_ev o h, hf]
  cases aop P (ev tr) e.m e.nb o <;> rfl

theorem edraw1_calm {b : Bool} {tr : Tr} {e e1 : EM} {o : Op} {v : AV} (hc : calmOp o = true) (h : eopE P call (ev tr) e o = some (v, e1)) :
    edraw1 P call b ⟨tr, e⟩ o = some (v, ⟨e.t, Nat.succ e.nb, e.fl, e.ws⟩, some (match silentOp o with | true => [] | false => foot (ev tr) o), []) := by
  unfold eopE at h
  rw [aopF_eq] at h
  unfold edraw1
  simp only [evF_eq, aopF_eq]
  split at h
  · rename_i hr; exact ((calm_call hc).1 _ _ hr).elim
  · rename_i hr; exact ((calm_call hc).2 _ _ hr).elim
  · split at h
    · rename_i v1 u hg
      have hu := calm_nil hc (get?_ok hg)
      subst hu
      simp only [EM.puts] at h
      cases h
      split
      · rename_i hr; exact ((calm_call hc).1 _ _ hr).elim
      · rw [hg]
        simp only [EM.puts, List.map_nil, Nat.beq_refl]
        cases silentOp o <;> rfl
    · cases h

theorem edrawK_ok (hp : CallPure call) {full : Array Oper} {ms : List Nat} : ∀ {l : List Oper} {i : Nat} {fr : Fr8} {e : EM} {rs : List DR} {fr' : Fr8} {e' : EM} {rs' : List DR}, (l.all (operOk P N full)) = true →
    edrawK P call full ms l i fr e rs = some (fr', e', rs') → e.tidy → ∀ {tr : Tr}, FrK N fr tr → ∃ tr', edraw P call full ms l i ⟨tr, e⟩ rs = some (⟨tr', e'⟩, rs') ∧ FrK N fr' tr'
  | [], i, fr, e, rs, fr', e', rs', hl, h, ht, tr, hfr => by
    simp only [edrawK] at h; cases h
    exact ⟨tr, rfl, hfr⟩
  | o :: l, i, fr, e, rs, fr', e', rs', hl, h, ht, tr, hfr => by
    simp only [List.all_cons, Bool.and_eq_true] at hl
    obtain ⟨ho1, ho2, ho3⟩ := operOk_ops hl.1
    have hev : ∀ x ∈ o.op.operands.toList, evK fr x = ev tr x := fun x hx => hfr.ev (ho1 x hx)
    simp only [edrawK] at h
    rw [wantK_eq hfr hl.1] at h
    simp only [edraw]
    split at h
    · rename_i hw
      split at h
      · rename_i hc
        split at h
        · rename_i v e1 he
          have h1 := cOp_ok ht he
          rw [eopE_ev hev] at h1
          have h2 := edraw1_calm (b := solo ms full.toList i) hc h1
          have hfoot : foot (evK fr) o.op = foot (ev tr) o.op := by
            unfold foot
            generalize o.op.operands.toList = l at hev
            clear ho1
            induction l with
            | nil => rfl
            | cons x l ih =>
              simp only [List.flatMap_cons]
              rw [hev x (by simp), ih (fun y hy => hev y (by simp [hy]))]
          rw [hfoot] at h
          have t2 : EM.tidy ⟨e.t, Nat.succ e.nb, e.fl, e.ws⟩ := ⟨fun j hj => ht.out j (Nat.le_of_succ_le hj), Nat.le_succ_of_le ht.fl⟩
          obtain ⟨tr', h4, h5⟩ := edrawK_ok hp hl.2 h t2 (hfr.putD ho2 v)
          exact ⟨tr', by simp only [hw, h2, putF_eq]; exact h4, h5⟩
        · cases h
      · rw [edraw1E_eq hev] at h
        split at h
        · rename_i v e1 F ws he
          rw [tightA_eq] at h
          have hx := edraw1_ext hp he ht
          obtain ⟨tr', h4, h5⟩ := edrawK_ok hp hl.2 h (hx.tidy ht) (hfr.putD ho2 v)
          exact ⟨tr', by simp only [hw, he, putF_eq]; exact h4, h5⟩
        · cases h
    · rename_i hw
      obtain ⟨tr', h4, h5⟩ := edrawK_ok hp hl.2 h ht (hfr.putD ho2 undefA)
      exact ⟨tr', by simp only [hw, putF_eq]; exact h4, h5⟩
    · cases h

theorem drawK_ok (hp : CallPure call) {ops : Array Oper} {fr : Fr8} {e : EM} {fr' : Fr8} {e' : EM} (hl : (ops.toList.all (operOk P N ops)) = true) (h : drawK P ops call fr e = .ok fr' e') (ht : e.tidy) {tr : Tr} (hfr : FrK N fr tr) :
    ∃ tr', region P call ops true ⟨tr, e⟩ = some ⟨tr', e'⟩ ∧ FrK N fr' tr' := by
  unfold drawK at h
  split at h
  · rename_i hs
    simp only [Bool.and_eq_true, Bool.not_eq_true'] at hs
    split at h
    · rename_i fr1 e1 rs he
      split at h
      · rename_i hm
        cases h
        obtain ⟨tr', h1, h2⟩ := edrawK_ok hp hl he ht hfr
        exact ⟨tr', by unfold region; simp only [hs.1, hs.2, h1, hm], h2⟩
      · cases h
    · cases h
  · cases h

theorem rangeK_ok {fr : Fr8} {e : EM} {g : AV} {ps : List Tmp} {asg bd : Code} {x : Exit} {fr' : Fr8} {e' : EM} (h : rangeK call N fr e g ps asg bd = .ok x fr' e') {tr : Tr} (hfr : FrK N fr tr) :
    rangeF call N ⟨tr, e⟩ g ps asg bd = some (x, ⟨tr, e'⟩) ∧ fr' = fr := by
  have hm : (List.range N).map fr.get = (List.range N).map tr.getF := List.map_congr_left fun t ht => by rw [Tr.getF_eq]; exact (hfr.eq t (List.mem_range.1 ht)).2
  unfold rangeK at h
  rw [hm] at h
  unfold rangeF
  split at h
  · split at h
    · rename_i e1 h1
      split at h
      · rename_i v e2 h2
        split at h
        · rename_i h3
          split at h
          · rename_i e3 ex h4 h5
            cases h
            simp only [h1, h2, h3, h4, h5]
            exact ⟨trivial, trivial⟩
          · cases h
        · cases h
      · cases h
    · cases h
  · cases h

theorem cCode_ok (hp : CallPure call) (k : Nat) : ∀ (c : Code) {fr : Fr8} {e : EM} {x : Exit} {fr' : Fr8} {e' : EM}, fits P N c = true → (cCode P top N c).un call k fr e = .ok x fr' e' → e.tidy →
    ∀ {tr : Tr}, FrK N fr tr → ∃ n tr', exec P call top N n c ⟨tr, e⟩ = some (x, ⟨tr', e'⟩) ∧ FrK N fr' tr'
  | .skip, fr, e, x, fr', e', hf, h, ht, tr, hfr => by
    have h' : RE.ok .normal fr e = RE.ok x fr' e' := h
    cases h'
    exact ⟨1, tr, by simp only [exec], hfr⟩
  | .region id ops any, fr, e, x, fr', e', hf, h, ht, tr, hfr => by
    simp only [fits] at hf
    have fin : ∀ {s : ES}, x = .normal → region P call ops any ⟨tr, e⟩ = some s → ∃ n, exec P call top N n (.region id ops any) ⟨tr, e⟩ = some (x, s) := by
      intro s hx hr
      refine ⟨1, ?_⟩
      simp only [exec, hr, hx]
    cases any with
    | false =>
      simp only [cCode, Bx.to_eq] at h
      have h' : (match (cOps P ops ops.toList).un call fr e with | .ok fr' e' => RE.ok .normal fr' e' | .stuck => .stuck) = RE.ok x fr' e' := h
      split at h'
      · rename_i h1
        cases h'
        obtain ⟨tr', h2, h3⟩ := cOps_ok hp hf h1 ht hfr
        obtain ⟨n, hn⟩ := fin (s := ⟨tr', e'⟩) rfl (by unfold region; exact h2)
        exact ⟨n, tr', hn, h3⟩
      · cases h'
    | true =>
      simp only [cCode] at h
      split at h
      · rename_i hs
        simp only [Bool.and_eq_true] at hs
        simp only [Bx.to_eq] at h
        have h' : (match (cOps P ops ops.toList).un call fr e with | .ok fr' e' => RE.ok .normal fr' e' | .stuck => .stuck) = RE.ok x fr' e' := h
        split at h'
        · rename_i h1
          cases h'
          obtain ⟨tr', h2, h3⟩ := cOps_ok hp hf h1 ht hfr
          obtain ⟨n, hn⟩ := fin (s := ⟨tr', e'⟩) rfl (by unfold region; simp only [hs.1, hs.2]; exact h2)
          exact ⟨n, tr', hn, h3⟩
        · cases h'
      · have h' : (match drawK P ops call fr e with | .ok fr' e' => RE.ok .normal fr' e' | .stuck => .stuck) = RE.ok x fr' e' := h
        split at h'
        · rename_i h1
          cases h'
          obtain ⟨tr', h2, h3⟩ := drawK_ok hp hf h1 ht hfr
          obtain ⟨n, hn⟩ := fin (s := ⟨tr', e'⟩) rfl h2
          exact ⟨n, tr', hn, h3⟩
        · cases h'
  | .seq a b, fr, e, x, fr', e', hf, h, ht, tr, hfr => by
    simp only [fits, Bool.and_eq_true] at hf
    have h' : (match (cCode P top N a).un call k fr e with | .ok .normal fr' e' => (cCode P top N b).un call k fr' e' | r => r) = RE.ok x fr' e' := h
    split at h'
    · rename_i fr1 e1 h1
      obtain ⟨n1, tr1, h2, h3⟩ := cCode_ok hp k a hf.1 h1 ht hfr
      have hx := exec_ext hp h2 ht
      obtain ⟨n2, tr2, h4, h5⟩ := cCode_ok hp k b hf.2 h' (hx.tidy ht) h3
      refine ⟨max n1 n2 + 1, tr2, ?_, h5⟩
      rw [exec, exec_le (Nat.le_max_left n1 n2) h2]
      exact exec_le (Nat.le_max_right n1 n2) h4
    · rename_i hno
      obtain ⟨n1, tr1, h2, h3⟩ := cCode_ok hp k a hf.1 h' ht hfr
      refine ⟨n1 + 1, tr1, ?_, h3⟩
      rw [exec, h2]
      split
      · rename_i hq; cases hq; exact absurd h' (hno _ _)
      · rfl
  | .cond c a b, fr, e, x, fr', e', hf, h, ht, tr, hfr => by
    simp only [fits, Bool.and_eq_true] at hf
    simp only [cCode, Bx.to_eq] at h
    have h' : (match ((cEv c).un fr).toB with | some true => (cCode P top N a).un call k fr e | some false => (cCode P top N b).un call k fr e | none => .stuck) = RE.ok x fr' e' := h
    rw [cEv_un, hfr.ev hf.1.1] at h'
    split at h'
    · rename_i hb
      obtain ⟨n1, tr1, h2, h3⟩ := cCode_ok hp k a hf.1.2 h' ht hfr
      refine ⟨n1 + 1, tr1, ?_, h3⟩
      rw [exec, evF_eq, toB_ok hb]; exact h2
    · rename_i hb
      obtain ⟨n1, tr1, h2, h3⟩ := cCode_ok hp k b hf.2 h' ht hfr
      refine ⟨n1 + 1, tr1, ?_, h3⟩
      rw [exec, evF_eq, toB_ok hb]; exact h2
    · cases h'
  | .block id c, fr, e, x, fr', e', hf, h, ht, tr, hfr => by
    simp only [fits] at hf
    have h' : (match (cCode P top N c).un call k fr e with | .ok (.exit id') fr' e' => (match Nat.beq id' id with | true => RE.ok .normal fr' e' | false => .ok (.exit id') fr' e') | r => r) = RE.ok x fr' e' := h
    split at h'
    · rename_i id' fr1 e1 h1
      obtain ⟨n1, tr1, h2, h3⟩ := cCode_ok hp k c hf h1 ht hfr
      split at h'
      · rename_i hb
        cases h'
        exact ⟨n1 + 1, tr1, by rw [exec, h2]; simp only [hb], h3⟩
      · rename_i hb
        cases h'
        exact ⟨n1 + 1, tr1, by rw [exec, h2]; simp only [hb], h3⟩
    · rename_i hno
      obtain ⟨n1, tr1, h2, h3⟩ := cCode_ok hp k c hf h' ht hfr
      refine ⟨n1 + 1, tr1, ?_, h3⟩
      rw [exec, h2]
      split
      · rename_i hq; cases hq; exact absurd h' (hno _ _ _)
      · rfl
  | .exit id, fr, e, x, fr', e', hf, h, ht, tr, hfr => by
    have h' : RE.ok (.exit id) fr e = RE.ok x fr' e' := h
    cases h'
    exact ⟨1, tr, by simp only [exec], hfr⟩
  | .ret, fr, e, x, fr', e', hf, h, ht, tr, hfr => by
    have h' : RE.ok .ret fr e = RE.ok x fr' e' := h
    cases h'
    exact ⟨1, tr, by simp only [exec], hfr⟩
  | .loop c, fr, e, x, fr', e', hf, h, ht, tr, hfr => by
    simp only [fits] at hf
    have h' : loopK ((cCode P top N c).un call k) k fr e = RE.ok x fr' e' := h
    have key : ∀ (m : Nat) (fr : Fr8) (e : EM) (tr : Tr), loopK ((cCode P top N c).un call k) m fr e = RE.ok x fr' e' → e.tidy → FrK N fr tr → ∃ n tr', exec P call top N n (.loop c) ⟨tr, e⟩ = some (x, ⟨tr', e'⟩) ∧ FrK N fr' tr' := by
      intro m
      induction m with
      | zero => intro fr e tr h; have h0 : RE.stuck = RE.ok x fr' e' := h; cases h0
      | succ m ih =>
        intro fr e tr h ht hfr
        have h0 : (match (cCode P top N c).un call k fr e with | .ok .normal fr' e' => loopK ((cCode P top N c).un call k) m fr' e' | r => r) = RE.ok x fr' e' := h
        split at h0
        · rename_i fr1 e1 h1
          obtain ⟨n1, tr1, h2, h3⟩ := cCode_ok hp k c hf h1 ht hfr
          have hx := exec_ext hp h2 ht
          obtain ⟨n2, tr2, h4, h5⟩ := ih fr1 e1 tr1 h0 (hx.tidy ht) h3
          refine ⟨max n1 n2 + 1, tr2, ?_, h5⟩
          rw [exec, exec_le (Nat.le_max_left n1 n2) h2]
          exact exec_le (Nat.le_max_right n1 n2) h4
        · rename_i hno
          obtain ⟨n1, tr1, h2, h3⟩ := cCode_ok hp k c hf h0 ht hfr
          refine ⟨n1 + 1, tr1, ?_, h3⟩
          rw [exec, h2]
          split
          · rename_i hq; cases hq; exact absurd h0 (hno _ _)
          · rfl
    exact key k fr e tr h' ht hfr
  | .rangeFunc g ps asg bd, fr, e, x, fr', e', hf, h, ht, tr, hfr => by
    simp only [fits, Bool.and_eq_true] at hf
    cases top with
    | true =>
      have h' : rangeK call N fr e (evK fr g) ps.toList asg bd = RE.ok x fr' e' := h
      obtain ⟨h1, rfl⟩ := rangeK_ok h' hfr
      refine ⟨1, tr, ?_, hfr⟩
      rw [hfr.ev hf.1.1] at h1
      simp only [exec, evF_eq]
      exact h1
    | false =>
      have h' : RE.stuck = RE.ok x fr' e' := h
      cases h'
  | .scope c, fr, e, x, fr', e', hf, h, ht, tr, hfr => by
    have h' : RE.stuck = RE.ok x fr' e' := h
    cases h'
  | .goto _, fr, e, x, fr', e', hf, h, ht, tr, hfr => by
    have h' : RE.stuck = RE.ok x fr' e' := h
    cases h'
  | .label _, fr, e, x, fr', e', hf, h, ht, tr, hfr => by
    have h' : RE.stuck = RE.ok x fr' e' := h
    cases h'
  | .refuse _, fr, e, x, fr', e', hf, h, ht, tr, hfr => by
    have h' : RE.stuck = RE.ok x fr' e' := h
    cases h'

theorem frk_start {d : Nat} (hN : N ≤ 512) (hd : memAll (Tr.full d) N = true) : FrK N Fr8.empty (Tr.full d) :=
  ⟨hN, fun t ht => ⟨memAll_mem hd ht, by rw [Fr8.get_empty, Tr.get_full]⟩⟩
theorem frk_putAll : ∀ {args : List AV} {i : Nat} {fr : Fr8} {tr : Tr}, FrK N fr tr → i + args.length ≤ N → FrK N (putAllK fr i args) (putAllF tr i args)
  | [], _, _, _, h, _ => h
  | v :: args, i, fr, tr, h, hl => by
    simp only [List.length_cons] at hl
    simp only [putAllK, putAllF, Tr.putF_eq]
    exact frk_putAll (h.put (by omega) v) (by simp only [Nat.succ_eq_add_one]; omega)
theorem frk_putPs : ∀ {ps : List Tmp} {args : List AV} {fr : Fr8} {tr : Tr}, FrK N fr tr → (ps.all fun t => Nat.blt t N) = true → FrK N (putPsK fr ps args) (putPsF tr ps args)
  | [], _, _, _, h, _ => by simpa [putPsK, putPsF] using h
  | p :: ps, [], _, _, h, _ => by simpa [putPsK, putPsF] using h
  | p :: ps, v :: args, fr, tr, h, hp => by
    simp only [List.all_cons, Bool.and_eq_true, Nat.blt_eq] at hp
    simp only [putPsK, putPsF, Tr.putF_eq]
    exact frk_putPs (h.put hp.1 v) hp.2

theorem resK_ok {fr : Fr8} {tr : Tr} (hfr : FrK N fr tr) {e : EM} (ht : e.tidy) : ∀ {l : List ResultVar} {vs : List AV}, l.all (rvOk N) = true → resK P fr e l = some vs → resAll P ⟨tr, e.m⟩ l = some vs
  | [], vs, _, h => by simp only [resK] at h; cases h; rfl
  | r :: l, vs, hl, h => by
    simp only [List.all_cons, Bool.and_eq_true] at hl
    simp only [resK] at h
    split at h
    · rename_i v vs' h1 h2
      cases h
      have hr : resOne P ⟨tr, e.m⟩ r = some v := by
        cases r with
        | tmp t =>
          simp only [rvOk, decide_eq_true_eq] at hl
          simp only at h1
          cases h1
          simp only [resOne, (hfr.eq t hl.1).2]
        | cell a t =>
          simp only [rvOk, decide_eq_true_eq] at hl
          simp only at h1
          rw [(hfr.eq a hl.1).2] at h1
          simp only [resOne]
          split at h1
          · rename_i T hT
            rw [hT]
            split at h1
            · rename_i hagg
              split at h1
              · rename_i hsz
                split at h1
                · rename_i v1 e1 hload
                  cases h1
                  obtain ⟨_, cs, h3, rfl⟩ := loadA_ok (by simpa [Nat.blt_eq] using hsz) ht hload
                  simp only [h3, hagg, if_true]
                · cases h1
              · cases h1
            · rename_i hagg
              split at h1
              · rename_i hsz
                have hsz' : T.size = 1 := Nat.eq_of_beq_eq_true hsz
                split at h1
                · rename_i v1 e1 hload
                  cases h1
                  obtain ⟨_, h3⟩ := load1_ok ht hload
                  simp only [hsz', h3, hagg, Bool.false_eq_true, if_false]
                · cases h1
              · cases h1
          · cases h1
      simp only [resAll, hr, resK_ok hfr ht hl.2 h2]
    · cases h
end

section
variable {P : Program} {call : CallF} {k : Nat}
theorem kcallF_ok (hp : CallPure call) {fn : Func} {c : Code} {args : List AV} {e e' : EM} {v : AV} (h : kcallF P call k fn c args e = some (v, e')) (ht : e.tidy) : ∃ k', ecallF P call k' fn c args e = some (v, e') := by
  unfold kcallF at h
  split at h
  · rename_i hok
    simp only [Bool.and_eq_true] at hok
    obtain ⟨hok, hN⟩ := hok
    have hN' : fn.ntmps ≤ 512 := Nat.le_of_ble_eq_true hN
    have hok0 := hok
    simp only [fnOk, Bool.and_eq_true, decide_eq_true_eq] at hok0
    obtain ⟨⟨⟨hfit, hd⟩, hl⟩, hres⟩ := hok0
    have hstart := frk_putAll (args := args) (i := 0) (frk_start hN' hd) (by omega)
    have main : ∀ {x : Exit} {fr' : Fr8} {e1 : EM}, (cCode P true fn.ntmps c).un call k (putAllK Fr8.empty 0 args) e = .ok x fr' e1 → (x = .normal ∨ x = .ret) →
        (match resK P fr' e1 fn.results.toList with | some vs => some (oneOf vs, e1) | none => none) = some (v, e') → ∃ k', ecallF P call k' fn c args e = some (v, e') := by
      intro x fr' e1 hx hxx hr
      obtain ⟨n, tr', h1, h2⟩ := cCode_ok hp k c hfit hx ht hstart
      have hext := exec_ext hp h1 ht
      split at hr
      · rename_i vs hvs
        cases hr
        refine ⟨n, ?_⟩
        unfold ecallF
        rw [hok]
        simp only [h1]
        have hra := resK_ok h2 (hext.tidy ht) hres hvs
        rcases hxx with rfl | rfl <;> simp only [hra]
      · cases hr
    split at h
    · rename_i hx; exact main hx (.inl rfl) h
    · rename_i hx; exact main hx (.inr rfl) h
    · cases h
  · cases h

theorem kcallR_ok (hp : CallPure call) {nm : Nat} {args : List AV} {e e' : EM} {v : AV} {fr : List AV} {ps : List Tmp} {asg bd : Code} (h : kcallR P call k nm args e fr ps asg bd = some (v, e')) (ht : e.tidy) :
    ∃ k', ecallR P call k' nm args e fr ps asg bd = some (v, e') := by
  unfold kcallR at h
  rw [tightN_eq] at h
  split at h
  · rename_i hok
    simp only [Bool.and_eq_true] at hok
    obtain ⟨⟨hok1, hlen⟩, hN⟩ := hok
    have hN' : fr.length ≤ 512 := Nat.le_of_ble_eq_true hN
    have hok0 := hok1
    simp only [roundOk, Bool.and_eq_true] at hok0
    obtain ⟨⟨⟨hfa, hfb⟩, hd⟩, hps⟩ := hok0
    split at h
    · rename_i e1 h1
      obtain ⟨p1, _⟩ := put1_spec h1
      have t1 := p1.tidy ht
      have hstart := frk_putPs (ps := ps) (args := args) (frk_putAll (args := fr) (i := 0) (frk_start hN' hd) (by omega)) hps
      split at h
      · rename_i fr1 e2 h2
        obtain ⟨n1, tr1, g1, g2⟩ := cCode_ok hp k asg hfa h2 t1 hstart
        have x2 := exec_ext hp g1 t1
        split at h
        · rename_i x frx e3 h3
          obtain ⟨n2, tr2, g3, g4⟩ := cCode_ok hp k bd hfb h3 (x2.tidy t1) g2
          split at h
          · rename_i j hj
            split at h
            · rename_i e4 h4
              cases h
              refine ⟨max n1 n2, ?_⟩
              unfold ecallR
              rw [tightN_eq]
              simp only [hok1, hlen, Bool.and_self, h1, exec_le (Nat.le_max_left n1 n2) g1, exec_le (Nat.le_max_right n1 n2) g3, hj, h4]
            · cases h
          · cases h
        · cases h
      · cases h
    · cases h
  · cases h

theorem kcall_pure (P : Program) (k : Nat) : ∀ n, CallPure (kcall P k n)
  | 0 => fun f args e v e' h => by simp [kcall] at h
  | n + 1 => fun f args e v e' h ht => by
    cases f with
    | inl f =>
      simp only [kcall] at h
      split at h
      · obtain ⟨k', h'⟩ := kcallF_ok (kcall_pure P k n) h ht
        exact ecallF_ext (kcall_pure P k n) h' ht
      · cases h
    | inr nm =>
      simp only [kcall] at h
      split at h
      · obtain ⟨k', h'⟩ := kcallR_ok (kcall_pure P k n) h ht
        exact ecallR_ext (kcall_pure P k n) h' ht
      · cases h

theorem kcall_ok {P : Program} (hm : P.follows .mixedOrders = true) (hng : noNum P = true) (k : Nat) : ∀ n, CallOk P (kcall P k n)
  | 0 => ⟨fun f args e v e' h => by simp [kcall] at h, fun f args e v e' h => by simp [kcall] at h⟩
  | n + 1 => by
    have ih := kcall_ok hm hng k n
    have hp := kcall_pure P k n
    refine ⟨fun f args e v e' h ht => ?_, fun nm args e v e' h ht K ρ w hS ha hfree => ?_⟩
    · simp only [kcall] at h
      split at h
      · rename_i fn c hfnd
        obtain ⟨hf, hb, hen⟩ := fnd_spec hng hfnd
        obtain ⟨k', h'⟩ := kcallF_ok hp h ht
        exact ⟨hen, fun K ρ w hS ha hfree => ecallF_ok hm ih hp hf hb h' ht hS ha hfree⟩
      · cases h
    · simp only [kcall] at h
      split at h
      · rename_i hg
        obtain ⟨k', h'⟩ := kcallR_ok hp h ht
        exact ecallR_ok hm ih hp hg h' ht hS ha hfree
      · cases h

/-- What the kernel's quick machine answers is what the call comes to. -/
theorem calls_of_kcall {P : Program} (hm : P.follows .mixedOrders = true) (hng : noNum P = true) {k n : Nat} {f : FuncId} {args : List AV} {v : AV} {e e' : EM} (h : kcall P k n (.inl f) args e = some (v, e')) (ht : e.tidy)
    {K : Nat → Prop} {ρ : Env} {w : World} (hS : Sat P.globals.size K ρ w e.m) (ha : AV.scs K args) (hf : Free K e (e'.nb + 1)) : Calls P f ⟨AV.vals ρ args⟩ w (Came P K ρ w e v e') :=
  ((kcall_ok hm hng k n).fn f args e v e' h ht).2 K ρ w hS ha hf
end
end Go.Fw
