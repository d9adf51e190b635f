/- S8: a text of a symbolic executor that is proved sound, and contracts that are proved with it. -/
import Derived.Test.YtaplihoeephbeaaS7
set_option linter.unusedVariables false
set_option linter.unusedSimpArgs false
namespace Go.Proofs.Ytaplihoeephbeaa.V
open Go Go.Proofs
set_option maxRecDepth 100000
set_option maxHeartbeats 4000000
def oddF (p : Pg) (f : Fm) : Bool := if f.fn < 0 ∨ (p.fu.length : Int) ≤ f.fn then true else match p.fu[f.fn.toNat]? with
  | none => true
  | some u => decide (f.pc < 0) || decide ((u.code.length : Int) < f.pc) || decide ((f.ls.length : Int) ≠ u.loc) || !kept f.ls
theorem odd112 (p : Pg) (f : Fm) (hl : f.ls.length ≤ 9223372036854775806) : Spec Try.prog 112 [frD f, .pel (pgD p) 0] [] (fun d os' => d = .bool (oddF p f) ∧ os' = []) := by
  refine Spec.by Try.func112 rfl (by decide) (by decide +kernel) rfl ?_
  (refine goA ?_)
  refine Br.dec (fun h1 => ?_) (fun h1 => ?_)
  · (refine goA ?_)
    refine Ret.trim 0 (by simp) rfl (Nat.le_of_ble_eq_true rfl) ?_
    refine Ret.mk [.tmp _] rfl ?_; refine And.intro ?_ rfl
    simp [oddF, h1]
  (refine goA ?_)
  refine Br.dec (fun h2 => ?_) (fun h2 => ?_)
  · (refine goA ?_)
    refine Ret.trim 0 (by simp) rfl (Nat.le_of_ble_eq_true rfl) ?_
    refine Ret.mk [.tmp _] rfl ?_; refine And.intro ?_ rfl
    simp at h2
    simp [oddF, h2]
  simp only [List.length_map] at h2
  have hget : p.fu[f.fn.toNat]? = some p.fu[f.fn.toNat] := List.getElem?_eq_getElem (by omega)
  have ho : oddF p f = (decide (f.pc < 0) || decide ((p.fu[f.fn.toNat].code.length : Int) < f.pc) || decide ((f.ls.length : Int) ≠ p.fu[f.fn.toNat].loc) || !kept f.ls) := by
    simp only [oddF]
    rw [if_neg (by omega), hget]
  (refine goA ?_)
  refine Opt.of (get_map hget) ?_
  (refine goA ?_)
  refine Br.dec (fun h3 => ?_) (fun h3 => ?_)
  · (refine goA ?_)
    refine Ret.trim 0 (by simp) rfl (Nat.le_of_ble_eq_true rfl) ?_
    refine Ret.mk [.tmp _] rfl ?_; refine And.intro ?_ rfl
    simp [ho, h3]
  (refine goA ?_)
  refine Br.dec (fun h4 => ?_) (fun h4 => ?_)
  · (refine goA ?_)
    refine Ret.trim 0 (by simp) rfl (Nat.le_of_ble_eq_true rfl) ?_
    refine Ret.mk [.tmp _] rfl ?_; refine And.intro ?_ rfl
    simp at h4
    simp [ho, h4]
  (refine goA ?_)
  refine Br.cs (fun h5_ => ?_) (fun h5_ => ?_) <;> have h5 := h5_ <;> simp at h5
  · (refine goA ?_)
    refine Ret.trim 0 (by simp) rfl (Nat.le_of_ble_eq_true rfl) ?_
    refine Ret.mk [.tmp _] rfl ?_; refine And.intro ?_ rfl
    simp [ho, h5]
  (refine goA ?_)
  refine Call.mk ((kept113 f.ls hl).only _ rfl (by rintro d rfl; rfl)) ?_
  rintro d os' ⟨rfl, rfl⟩
  (refine goA ?_)
  refine Ret.trim 0 (by simp) rfl (Nat.le_of_ble_eq_true rfl) ?_
  refine Ret.mk [.tmp _] rfl ?_; refine And.intro ?_ rfl
  simp at h4
  simp [ho, h3, h5]
  intro h; omega
theorem idx186 (xs : List Fm) (g : Nat) (b : List D) (q : Fm → Bool) (hl : xs.length ≤ 9223372036854775806) (hq : ∀ x ∈ xs, Spec Try.prog g ([] ++ ([frD x] ++ b)) [] (fun d os' => d = .bool (q x) ∧ os' = [])) :
    Spec Try.prog 186 [frs xs, .fn (.func g) [] b] [] (fun d os' => d = idxD (xs.findIdx? q) ∧ os' = []) := by
  refine Spec.by Try.func186 rfl (by decide) (by decide +kernel) rfl ?_
  (refine goA ?_)
  refine Loop.inv (A := Nat) [] (fun i => [(8, .int .i64 (i : Int))]) (fun _ => []) (fun i => i ≤ xs.length ∧ ∀ x ∈ xs.take i, q x = false) (fun i => xs.length - i) 0 ⟨Nat.zero_le _, by simp⟩ (Weak.start tld) ?_
  intro i ⟨hi, hf⟩
  (refine goA ?_)
  refine Br.dec (fun h => ?_) (fun h => ?_)
  · simp only [List.length_map] at h
    (refine goA ?_)
    refine Opt.of (get_map (List.getElem?_eq_getElem (l := xs) (i := i) (by omega))) ?_
    (refine goA ?_)
    rw [forceL_eq]
    refine Call.mk (hq _ (List.getElem_mem (by omega))) ?_
    rintro d os' ⟨rfl, rfl⟩
    (refine goA ?_)
    refine Br.cs (fun hb => ?_) (fun hb => ?_)
    · (refine goA ?_)
      refine Ret.mk [.tmp _] rfl ?_; refine And.intro ?_ rfl
      rw [find_at (by omega) hb hf]
    · (refine goA ?_)
      refine Loop.next (i + 1) ?_ ?_ (Weak.back rfl tld rfl rfl)
      · exact ⟨by omega, take_more (by omega) hb hf⟩
      · omega
  · (refine goA ?_)
    refine Ret.mk [.tmp _] rfl ?_; refine And.intro ?_ rfl
    rw [find_none (by simpa using h) hf]
theorem con114 (xs : List Fm) (g : Nat) (b : List D) (q : Fm → Bool) (hl : xs.length ≤ 9223372036854775806) (hq : ∀ x ∈ xs, Spec Try.prog g ([] ++ ([frD x] ++ b)) [] (fun d os' => d = .bool (q x) ∧ os' = [])) :
    Spec Try.prog 114 [frs xs, .fn (.func g) [] b] [] (fun d os' => d = .bool (xs.any q) ∧ os' = []) := by
  refine Spec.by Try.func114 rfl (by decide) (by decide +kernel) rfl ?_
  (refine goA ?_)
  refine Call.mk (idx186 xs g b q hl hq) ?_
  rintro d os' ⟨rfl, rfl⟩
  (refine goA ?_)
  refine Ret.mk [.tmp _] rfl ?_; refine And.intro ?_ rfl
  cases h : xs.findIdx? q with
  | none =>
    rw [List.findIdx?_eq_none_iff] at h
    have : xs.any q = false := by simpa using h
    rw [this]; rfl
  | some i =>
    rw [List.findIdx?_eq_some_iff_getElem] at h
    obtain ⟨hi, hb, _⟩ := h
    have : xs.any q = true := List.any_eq_true.2 ⟨_, List.getElem_mem hi, hb⟩
    rw [this]; simp
def oneTh : Th := ⟨0, 0, [⟨0, 0, [0]⟩], [1073741824], 0⟩
theorem mayOne : Spec Try.prog 31 [pgD oneP, thD oneTh] [] (fun d os' => d = .bool true ∧ os' = []) := by
  refine Spec.by Try.func31 rfl (by decide) (by decide +kernel) rfl ?_
  (refine goA ?_)
  refine Call.mk ((kept113 oneTh.sk (by decide)).only _ rfl (by rintro d rfl; rfl)) ?_
  rintro d os' ⟨rfl, rfl⟩
  (refine goA ?_)
  refine App.only false rfl rfl ?_
  (refine goA ?_)
  refine Call.mk ((kept113 [0] (by decide)).only _ rfl (by rintro d rfl; rfl)) ?_
  rintro d os' ⟨rfl, rfl⟩
  (refine goA ?_)
  refine Call.mk ((con114 oneTh.fr 112 [.pel (pgD oneP) 0] (oddF oneP) (by decide) (fun x hx => odd112 oneP x (by simp [oneTh] at hx; subst hx; decide))).read (.cons (.same _) (.cons (.fn .nil (.cons (View.ptr rfl rfl rfl (.same _) rfl) .nil)) .nil)) rfl (by rintro d rfl; exact ⟨rfl, rfl⟩)) ?_
  rintro d os' ⟨rfl, rfl⟩
  (refine goA ?_)
  refine Ret.trim 0 (by simp) rfl (Nat.le_of_ble_eq_true rfl) ?_
  refine Ret.mk [.tmp _] rfl ?_; refine And.intro ?_ rfl
  exact congrArg D.bool (by decide : (!oneTh.fr.any (oddF oneP)) = true)
theorem lives37 : Spec Try.prog 37 [] [] (fun d os' => d = .bool true ∧ os' = []) := by
  refine Spec.by Try.func37 rfl (by decide) (by decide +kernel) rfl ?_
  (refine goA ?_)
  refine Call.mk (one117.only _ rfl (by rintro d rfl; rfl)) ?_
  rintro d os' ⟨rfl, rfl⟩
  (refine goA ?_)
  refine Call.mk ((new38 oneP 0 ⟨1, []⟩ rfl (by decide)).only _ rfl (by rintro d rfl; rfl)) ?_
  rintro d os' ⟨rfl, rfl⟩
  (refine goA ?_)
  refine Call.mk ((push40 ⟨0, 0, [⟨0, 0, [0]⟩], [], 0⟩ 2147483648 (by decide)).only _ rfl (by rintro d rfl; rfl)) ?_
  rintro d os' ⟨rfl, rfl⟩
  (refine goA ?_)
  refine Call.mk (one117.only _ rfl (by rintro d rfl; rfl)) ?_
  rintro d os' ⟨rfl, rfl⟩
  (refine goA ?_)
  refine Call.mk (mayOne.only _ rfl (by rintro d rfl; rfl)) ?_
  rintro d os' ⟨rfl, rfl⟩
  (refine goA ?_)
  refine Ret.trim 0 (by simp) rfl (Nat.le_of_ble_eq_true rfl) ?_
  refine Ret.mk [.tmp _] rfl ?_; refine And.intro ?_ rfl
  rfl
end Go.Proofs.Ytaplihoeephbeaa.V
