/- Eights: frames and memories that the kernel reads and writes quickly. -/
import Derived.Test.YtbndodeihodjfaaGreatFwEntry
namespace Go.Fw
set_option linter.unusedVariables false

inductive Bx (α : Type) where
  | mk (a : α)
noncomputable def Bx.un {α : Type} (b : Bx α) : α := Bx.rec (motive := fun _ => α) (fun a => a) b
noncomputable def Bx.to {α β : Type} (b : Bx α) (f : α → β) : β := Bx.rec (motive := fun _ => β) f b
theorem Bx.to_eq {α β : Type} (b : Bx α) (f : α → β) : b.to f = f b.un := by cases b; rfl
noncomputable def Bx.bind {α β : Type} (b : Bx α) (f : α → Bx β) : Bx β := Bx.rec (motive := fun _ => Bx β) f b

structure N8 (α : Type) where
  a0 : α
  a1 : α
  a2 : α
  a3 : α
  a4 : α
  a5 : α
  a6 : α
  a7 : α
def N8.all {α : Type} (v : α) : N8 α := ⟨v, v, v, v, v, v, v, v⟩
section
variable {α : Type}
def g8 (i : Nat) : Bx (N8 α → α) :=
  match i with
  | 0 => .mk fun s => s.a0
  | 1 => .mk fun s => s.a1
  | 2 => .mk fun s => s.a2
  | 3 => .mk fun s => s.a3
  | 4 => .mk fun s => s.a4
  | 5 => .mk fun s => s.a5
  | 6 => .mk fun s => s.a6
  | _ => .mk fun s => s.a7
noncomputable def u8 (i : Nat) : Bx (N8 α → (α → α) → N8 α) :=
  match i with
  | 0 => .mk fun s f => N8.rec (motive := fun _ => N8 α) (fun a b c d e g h i => ⟨f a, b, c, d, e, g, h, i⟩) s
  | 1 => .mk fun s f => N8.rec (motive := fun _ => N8 α) (fun a b c d e g h i => ⟨a, f b, c, d, e, g, h, i⟩) s
  | 2 => .mk fun s f => N8.rec (motive := fun _ => N8 α) (fun a b c d e g h i => ⟨a, b, f c, d, e, g, h, i⟩) s
  | 3 => .mk fun s f => N8.rec (motive := fun _ => N8 α) (fun a b c d e g h i => ⟨a, b, c, f d, e, g, h, i⟩) s
  | 4 => .mk fun s f => N8.rec (motive := fun _ => N8 α) (fun a b c d e g h i => ⟨a, b, c, d, f e, g, h, i⟩) s
  | 5 => .mk fun s f => N8.rec (motive := fun _ => N8 α) (fun a b c d e g h i => ⟨a, b, c, d, e, f g, h, i⟩) s
  | 6 => .mk fun s f => N8.rec (motive := fun _ => N8 α) (fun a b c d e g h i => ⟨a, b, c, d, e, g, f h, i⟩) s
  | _ => .mk fun s f => N8.rec (motive := fun _ => N8 α) (fun a b c d e g h i => ⟨a, b, c, d, e, g, h, f i⟩) s
theorem gu_same (i : Nat) (hi : i < 8) (s : N8 α) (f : α → α) : (g8 i).un ((u8 i).un s f) = f ((g8 i).un s) := by
  match i, hi with
  | 0, _ | 1, _ | 2, _ | 3, _ | 4, _ | 5, _ | 6, _ | 7, _ => rfl
theorem gu_other (i j : Nat) (hi : i < 8) (hj : j < 8) (h : i ≠ j) (s : N8 α) (f : α → α) : (g8 j).un ((u8 i).un s f) = (g8 j).un s := by
  match i, hi with
  | 0, _ => match j, hj with
    | 0, _ => exact absurd rfl h
    | 1, _ | 2, _ | 3, _ | 4, _ | 5, _ | 6, _ | 7, _ => rfl
  | 1, _ => match j, hj with
    | 1, _ => exact absurd rfl h
    | 0, _ | 2, _ | 3, _ | 4, _ | 5, _ | 6, _ | 7, _ => rfl
  | 2, _ => match j, hj with
    | 2, _ => exact absurd rfl h
    | 0, _ | 1, _ | 3, _ | 4, _ | 5, _ | 6, _ | 7, _ => rfl
  | 3, _ => match j, hj with
    | 3, _ => exact absurd rfl h
    | 0, _ | 1, _ | 2, _ | 4, _ | 5, _ | 6, _ | 7, _ => rfl
  | 4, _ => match j, hj with
    | 4, _ => exact absurd rfl h
    | 0, _ | 1, _ | 2, _ | 3, _ | 5, _ | 6, _ | 7, _ => rfl
  | 5, _ => match j, hj with
    | 5, _ => exact absurd rfl h
    | 0, _ | 1, _ | 2, _ | 3, _ | 4, _ | 6, _ | 7, _ => rfl
  | 6, _ => match j, hj with
    | 6, _ => exact absurd rfl h
    | 0, _ | 1, _ | 2, _ | 3, _ | 4, _ | 5, _ | 7, _ => rfl
  | 7, _ => match j, hj with
    | 7, _ => exact absurd rfl h
    | 0, _ | 1, _ | 2, _ | 3, _ | 4, _ | 5, _ | 6, _ => rfl
theorem g8_all (i : Nat) (v : α) : (g8 i).un (N8.all v) = v := by
  match i with
  | 0 | 1 | 2 | 3 | 4 | 5 | 6 => rfl
  | _ + 7 => rfl
end

/-! ### Towers: a shelf of eights on a shelf -/
/-- How a place is read and turned. -/
structure Sh (A B : Type) where
  get : Nat → Bx (A → B)
  upd : Nat → Bx (A → (B → B) → A)
structure Sh.Ok {A B : Type} (s : Sh A B) (n : Nat) : Prop where
  same : ∀ i, i < n → ∀ (x : A) (f : B → B), (s.get i).un ((s.upd i).un x f) = f ((s.get i).un x)
  other : ∀ i j, i < n → j < n → i ≠ j → ∀ (x : A) (f : B → B), (s.get j).un ((s.upd i).un x f) = (s.get j).un x
noncomputable def sh8 {B : Type} : Sh (N8 B) B := ⟨g8, u8⟩
theorem sh8_ok {B : Type} : (sh8 (B := B)).Ok 8 := ⟨fun i hi x f => gu_same i hi x f, fun i j hi hj h x f => gu_other i j hi hj h x f⟩
noncomputable def Sh.up {A B : Type} (s : Sh A B) (n : Nat) : Sh (N8 A) B :=
  ⟨fun i => (g8 (Nat.div i n)).bind fun g => (s.get (Nat.mod i n)).bind fun h => .mk fun x => h (g x),
   fun i => (u8 (Nat.div i n)).bind fun g => (s.upd (Nat.mod i n)).bind fun h => .mk fun x f => g x fun y => h y f⟩
theorem bind_un {α β γ : Type} (b : Bx α) (c : Bx β) (f : α → β → γ) : (b.bind fun g => c.bind fun h => Bx.mk (f g h)).un = f b.un c.un := by
  cases b; cases c; rfl
theorem Sh.up_ok {A B : Type} {s : Sh A B} {n : Nat} (hn : 0 < n) (h : s.Ok n) : (s.up n).Ok (8 * n) := by
  have hd : ∀ i, i < 8 * n → Nat.div i n < 8 := fun i hi => (Nat.div_lt_iff_lt_mul hn).2 (by omega)
  have hm : ∀ i, Nat.mod i n < n := fun i => Nat.mod_lt _ hn
  refine ⟨fun i hi x f => ?_, fun i j hi hj hij x f => ?_⟩
  · simp only [Sh.up, bind_un]
    rw [gu_same _ (hd i hi), h.same _ (hm i)]
  · simp only [Sh.up, bind_un]
    by_cases e : Nat.div i n = Nat.div j n
    · rw [← e, gu_same _ (hd i hi)]
      refine h.other _ _ (hm i) (hm j) (fun e2 => hij ?_) _ _
      have h1 : n * (i / n) + i % n = i := Nat.div_add_mod i n
      have h2 : n * (j / n) + j % n = j := Nat.div_add_mod j n
      have e' : i / n = j / n := e
      have e2' : i % n = j % n := e2
      rw [← h1, ← h2, e', e2']
    · rw [gu_other _ _ (hd i hi) (hd j hj) e]

noncomputable def sh3 {B : Type} : Sh (N8 (N8 (N8 B))) B := (sh8.up 8).up 64
noncomputable def sh5 {B : Type} : Sh (N8 (N8 (N8 (N8 (N8 B))))) B := ((sh3 (B := B)).up 512).up 4096
theorem sh3_ok {B : Type} : (sh3 (B := B)).Ok 512 := Sh.up_ok (by decide) (Sh.up_ok (by decide) sh8_ok)
theorem sh5_ok {B : Type} : (sh5 (B := B)).Ok 32768 := Sh.up_ok (by decide) (Sh.up_ok (by decide) sh3_ok)

/-! ### Memories -/
structure MT where
  t : N8 (N8 (N8 (N8 (N8 (Option Blk)))))
noncomputable def MT.mem (t : MT) (i : Nat) : Bool := Nat.blt i 32768
noncomputable def MT.get (t : MT) (i : Nat) : Option Blk := match Nat.blt i 32768 with
  | true => (sh5.get i).un t.t
  | false => none
noncomputable def MT.put (t : MT) (i : Nat) (b : Option Blk) : MT := match Nat.blt i 32768 with
  | true => ⟨(sh5.upd i).un t.t fun _ => b⟩
  | false => t
def MT.empty : MT := ⟨N8.all (N8.all (N8.all (N8.all (N8.all none))))⟩
theorem MT.get_put_same (t : MT) (i : Nat) (v : Option Blk) (h : t.mem i = true) : (t.put i v).get i = v := by
  have h' : Nat.blt i 32768 = true := h
  have hi : i < 32768 := by simpa [Nat.blt_eq] using h'
  simp only [MT.get, MT.put, h']
  exact sh5_ok.same i hi t.t _
theorem MT.get_put_other (t : MT) (i j : Nat) (v : Option Blk) (h : i ≠ j) : (t.put i v).get j = t.get j := by
  simp only [MT.get, MT.put]
  cases hj : Nat.blt j 32768 with
  | false => rfl
  | true =>
    have hj' : j < 32768 := by simpa [Nat.blt_eq] using hj
    cases hi : Nat.blt i 32768 with
    | false => rfl
    | true =>
      have hi' : i < 32768 := by simpa [Nat.blt_eq] using hi
      exact sh5_ok.other i j hi' hj' h t.t _
theorem MT.get_put_out (t : MT) (i : Nat) (v : Option Blk) (h : t.mem i = false) : (t.put i v).get i = t.get i := by
  have h' : Nat.blt i 32768 = false := h
  simp only [MT.put, h']
theorem MT.get_empty (i : Nat) : MT.empty.get i = none := by
  unfold MT.get
  split
  · simp only [MT.empty, sh5, sh3, sh8, Sh.up, bind_un, g8_all]
  · rfl
end Go.Fw
