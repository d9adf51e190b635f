/- S3: a text of a symbolic executor that is proved sound, and contracts that are proved with it. -/
import Derived.Test.YtaplihoeephbeaaS2
set_option linter.unusedVariables false
set_option linter.unusedSimpArgs false
namespace Go.Proofs.Ytaplihoeephbeaa.V
open Go Go.Proofs
set_option maxRecDepth 100000
structure Fm where
  fn : Int
  pc : Int
  ls : List Int
deriving DecidableEq
structure Th where
  st : Int
  on : Int
  fr : List Fm
  sk : List Int
  code : Int
deriving DecidableEq
@[reducible] def frD (f : Fm) : D := .agg [.int .i64 f.fn, .int .i64 f.pc, ints f.ls]
@[reducible] def frs (l : List Fm) : D := .lst 3 false (l.map frD)
@[reducible] def thD (t : Th) : D := .agg [.int .i64 t.st, .int .i64 t.on, frs t.fr, ints t.sk, .int .i64 t.code]
def Fm.ok (f : Fm) : Prop := f.ls.length ≤ 9223372036854775806
theorem fm_eq (f g : Fm) : f = g ↔ f.fn = g.fn ∧ f.pc = g.pc ∧ f.ls = g.ls := by cases f; cases g; simp
theorem same128 (f g : Fm) (hf : f.ok) : Spec Try.prog 128 [frD f, frD g] [] (fun d os' => d = .bool (decide (f = g)) ∧ os' = []) := by
  unfold Fm.ok at hf
  refine Spec.by Try.func128 rfl (by decide) (by decide +kernel) rfl ?_
  (refine goA ?_)
  refine Br.dec (fun h1 => ?_) (fun h1 => ?_)
  · (refine goA ?_)
    refine Br.dec (fun h2 => ?_) (fun h2 => ?_)
    · (refine goA ?_)
      refine Call.mk ((same129 f.ls g.ls hf).read (ViewL.same _) rfl (by rintro d rfl; exact ⟨rfl, rfl⟩)) ?_
      rintro d os' ⟨rfl, rfl⟩
      (refine goA ?_)
      refine Ret.trim 0 (by simp) rfl (Nat.le_of_ble_eq_true rfl) ?_
      refine Ret.mk [.tmp _] rfl ?_; refine And.intro ?_ rfl
      simp [fm_eq, h1, h2]
    · (refine goA ?_)
      refine Ret.trim 0 (by simp) rfl (Nat.le_of_ble_eq_true rfl) ?_
      refine Ret.mk [.tmp _] rfl ?_; refine And.intro ?_ rfl
      simp [fm_eq, h1, h2]
  · (refine goA ?_)
    refine Ret.trim 0 (by simp) rfl (Nat.le_of_ble_eq_true rfl) ?_
    refine Ret.mk [.tmp _] rfl ?_; refine And.intro ?_ rfl
    simp [fm_eq, h1]
theorem eqf127 (xs ys : List Fm) (hl : xs.length ≤ 9223372036854775806) (hok : ∀ f ∈ xs, f.ok) : Spec Try.prog 127 [frs xs, frs ys, .fn (.func 128) [] []] [] (fun d os' => d = .bool (decide (xs = ys)) ∧ os' = []) := by
  refine Spec.by Try.func127 rfl (by decide) (by decide +kernel) rfl ?_
  (refine goA ?_)
  refine Br.cs (fun hb => ?_) (fun hb => ?_)
  · (refine goA ?_)
    refine Ret.mk [.tmp _] rfl ?_; refine And.intro ?_ rfl
    have : ¬ xs = ys := fun e => by subst e; simp at hb
    simp [this]
  · simp only [List.length_map, Bool.not_eq_false', decide_eq_true_eq] at hb
    have hlen : xs.length = ys.length := by omega
    (refine goA ?_)
    refine Loop.inv (A := Nat) [] (fun i => [(17, .int .i64 (i : Int))]) (fun _ => []) (fun i => i ≤ xs.length ∧ xs.take i = ys.take i) (fun i => xs.length - i) 0 ⟨Nat.zero_le _, by simp⟩ (Weak.start tld) ?_
    intro i ⟨hi, hf⟩
    (refine goA ?_)
    refine Br.dec (fun h => ?_) (fun h => ?_)
    · simp only [List.length_map] at h
      (refine goA ?_)
      refine Opt.of (get_map (List.getElem?_eq_getElem (l := xs) (i := i) (by omega))) ?_
      (refine goA ?_)
      refine Opt.of (get_map (List.getElem?_eq_getElem (l := ys) (i := i) (by omega))) ?_
      (refine goA ?_)
      refine Call.mk ((same128 xs[i] ys[i] (hok _ (List.getElem_mem _))).read (ViewL.same _) rfl (by rintro d rfl; exact ⟨rfl, rfl⟩)) ?_
      rintro d os' ⟨rfl, rfl⟩
      (refine goA ?_)
      refine Br.cs (fun hb => ?_) (fun hb => ?_)
      · simp at hb
        (refine goA ?_)
        refine Ret.trim 0 (by simp) rfl (Nat.le_of_ble_eq_true rfl) ?_
        refine Ret.mk [.tmp _] rfl ?_; refine And.intro ?_ rfl
        have : ¬ xs = ys := fun e => by subst e; exact hb rfl
        simp [this]
      · simp at hb
        (refine goA ?_)
        refine Loop.next (i + 1) ?_ ?_ (Weak.backT 0 (by simp) rfl rfl (Nat.le_of_ble_eq_true rfl) tld rfl rfl)
        · exact ⟨by omega, by rw [List.take_add_one, List.take_add_one, hf, List.getElem?_eq_getElem (by omega), List.getElem?_eq_getElem (by omega), hb]⟩
        · omega
    · simp only [List.length_map] at h
      (refine goA ?_)
      refine Ret.mk [.tmp _] rfl ?_; refine And.intro ?_ rfl
      have : xs = ys := by
        rw [List.take_of_length_le (by omega), List.take_of_length_le (by omega)] at hf
        exact hf
      simp [this]
end Go.Proofs.Ytaplihoeephbeaa.V
