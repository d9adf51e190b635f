/- F1: a text of a symbolic executor that is proved sound, and contracts that are proved with it. -/
import Derived.Test.YtaplihoeephbeaaR5
import Derived.Test.YtaplihoeephbeaaD6
set_option linter.unusedVariables false
set_option linter.unusedSimpArgs false
namespace Go.Proofs.Ytaplihoeephbeaa.V
open Go Go.Proofs
set_option maxRecDepth 100000
/-! The steps between states, with what they ask found where they are used. -/
theorem Weak.on {n0 : Nat} {m : List (Nat × D)} {os : Objs} (sl : List (Nat × D)) (os' : Objs) (ho : os = os' := by kernel_rfl) (h : told m sl := by repeat (first | exact trivial | refine And.intro (by first | rfl | exact congrArg (fun n => D.sl _ _ _ _ n none) List.length_append | exact congrArg _ (by omega)) ?_)) : Weak n0 { m := m, objs := os } { m := sl, objs := os' } := Weak.only sl os' ho h
theorem Pt.on {n0 : Nat} {m : List (Nat × D)} {os : Objs} {K : St → Prop} (sl : List (Nat × D)) (os' : Objs) (hk : Pt n0 { m := sl, objs := os' } K) (ho : os = os' := by kernel_rfl) (h : told m sl := by repeat (first | exact trivial | refine And.intro (by first | rfl | exact congrArg (fun n => D.sl _ _ _ _ n none) List.length_append | exact congrArg _ (by omega)) ?_)) : Pt n0 { m := m, objs := os } K := Pt.weak (Weak.only sl os' ho h) hk
theorem Weak.fin {n0 : Nat} {m0 sl : List (Nat × D)} {os0 os : Objs} (n : Nat) (ho' : os0.take n = os := by kernel_rfl) (hn : n0 ≤ n := by simp) (ho : (os0.take n).all (fun F => F.lt n) = true := by kernel_rfl) (hl : n ≤ os0.length := by exact Nat.le_of_ble_eq_true rfl)
    (hsl : told (trimM n m0) sl := by repeat (first | exact trivial | refine And.intro (by first | rfl | exact congrArg (fun n => D.sl _ _ _ _ n none) List.length_append | exact congrArg _ (by omega)) ?_)) : Weak n0 { m := m0, objs := os0 } { m := sl, objs := os } :=
  Weak.trans (Weak.trim n hn ho hl) (Weak.only sl os ho' hsl)
theorem Weak.shf {n0 : Nat} {m : List (Nat × D)} {os : Objs} {u : St} (a b : Nat) (hk : Weak n0 { m := renM a b (forgetM b m), objs := ((os.map (Fam.ren a b)).set b ((os.getD a (.one .gone)).ren a b)).set a (.one .gone) } u)
    (hab : a ≠ b := by decide) (hb0 : n0 ≤ b := by simp) (ha : a < os.length := by exact Nat.le_of_ble_eq_true rfl) (hb : b < os.length := by exact Nat.le_of_ble_eq_true rfl) (hgone : ∀ j, os.at b j = .gone := by intro j; cases j <;> rfl) (ho : os.all (fun F => !F.names b) = true := by rfl) : Weak n0 { m := m, objs := os } u :=
  Weak.trans (Weak.shift a b hab hb0 ha hb hgone ho) hk
/-- What one that may come early asks. -/
theorem erC {τ : Tau} {l : List Oper} {s : St} {j : Nat} {b : Prop} (hb : b) (ha : earlyC τ l s j := by ((conv => whnf); refine ⟨⟨by first | omega | (simp; omega), by first | omega | (simp; omega)⟩, by first | omega | (simp; omega), by first | omega | (simp; omega)⟩)) : earlyC τ l s j ∧ b := ⟨ha, hb⟩
theorem itP {c : Prop} {i : Decidable c} {A : ¬ c → Prop} {B : c → Prop} (h : c) (b : B h) : @Decidable.rec c (fun _ => Prop) A B i := by
  cases i with
  | isTrue _ => exact b
  | isFalse h' => exact absurd h h'
theorem itN {c : Prop} {i : Decidable c} {A : ¬ c → Prop} {B : c → Prop} (h : ¬ c) (a : A h) : @Decidable.rec c (fun _ => Prop) A B i := by
  cases i with
  | isTrue h' => exact absurd h' h
  | isFalse _ => exact a
end Go.Proofs.Ytaplihoeephbeaa.V
