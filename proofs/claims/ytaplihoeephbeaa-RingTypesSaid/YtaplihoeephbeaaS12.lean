/- S12: a text of a symbolic executor that is proved sound, and contracts that are proved with it. -/
import Derived.Test.YtaplihoeephbeaaS10
set_option linter.unusedVariables false
set_option linter.unusedSimpArgs false
namespace Go.Proofs.Ytaplihoeephbeaa.V
open Go Go.Proofs
set_option maxRecDepth 100000
set_option maxHeartbeats 4000000
theorem keep36 (n : Int) (os : Objs) : Spec Try.prog 36 [.int .i64 n] os (fun d os' => d = .int .i64 (keep n) ∧ os' = os) := by
  refine Spec.by Try.func36 rfl (by decide) (by decide +kernel) rfl ?_
  (refine goA ?_)
  repeat' (refine Br.dec (fun _ => ?_) (fun _ => ?_) <;> ((refine goA ?_)))
  all_goals (refine Ret.mk [.tmp _] rfl (And.intro (congrArg (D.int .i64) ?_) rfl); simp [keep, *] <;> omega)
theorem keep_range (n : Int) : -1073741824 ≤ keep n ∧ keep n ≤ 1073741824 := by
  unfold keep; split <;> (try split) <;> omega
theorem keep_id (n : Int) : n = keep n ↔ -1073741824 ≤ n ∧ n ≤ 1073741824 := by
  unfold keep; split <;> (try split) <;> omega
theorem kept_iff (xs : List Int) : kept xs = true ↔ ∀ v ∈ xs, -1073741824 ≤ v ∧ v ≤ 1073741824 := by
  unfold kept
  simp only [Bool.not_eq_true', List.any_eq_false, decide_eq_true_eq, Decidable.not_not, keep_id]
theorem kept115 (xs : List Int) (hl : xs.length ≤ 9223372036854775806) : Spec Try.prog 115 [ints xs] [] (fun d os' => d = .bool (kept xs) ∧ os' = []) := by
  refine Spec.by Try.func115 rfl (by decide) (by decide +kernel) rfl ?_
  (refine goA ?_)
  refine Loop.inv (A := Nat) (List.range 30) (fun i => [(0, ints xs), (3, .int .i64 (i : Int))]) (fun _ => []) (fun i => i ≤ xs.length ∧ ∀ x ∈ xs.take i, (decide (x ≠ keep x)) = false) (fun i => xs.length - i) 0 ⟨Nat.zero_le _, by simp⟩ ?_ ?_
  · exact Weak.start' rfl rfl tld
  intro i ⟨hi, hf⟩
  (refine goA ?_)
  refine Br.dec (fun h => ?_) (fun h => ?_)
  · simp only [List.length_map] at h
    have hget : xs[i]? = some (xs[i]'(by omega)) := List.getElem?_eq_getElem (by omega)
    have hm := List.getElem_mem (l := xs) (n := i) (by omega)
    generalize hx : xs[i] = x at hget hm
    have bad : ¬ (-1073741824 ≤ x ∧ x ≤ 1073741824) → kept xs = false := fun hn => by
      rw [Bool.eq_false_iff, ne_eq, kept_iff]
      exact fun ha => hn (ha x hm)
    (refine goA ?_)
    refine Opt.of (get_map hget) ?_
    (refine goA ?_)
    refine Br.dec (fun h1 => ?_) (fun h1 => ?_)
    · (refine goA ?_)
      refine Ret.mk [.tmp _] rfl ?_; refine And.intro ?_ rfl
      rw [bad (by omega)]
    · (refine goA ?_)
      refine Opt.of (get_map hget) ?_
      (refine goA ?_)
      refine Br.dec (fun h2 => ?_) (fun h2 => ?_)
      · (refine goA ?_)
        refine Ret.mk [.tmp _] rfl ?_; refine And.intro ?_ rfl
        rw [bad (by omega)]
      · (refine goA ?_)
        refine ⟨_, _, _, ?_, ⟨i + 1, ?_, rfl, rfl, rfl⟩, ?_⟩
        · omega
        · refine ⟨by omega, take_more (by omega) ?_ hf⟩
          rw [hx]
          have : x = keep x := (keep_id x).2 (by omega)
          simp [← this]
        · refine Weak.backT 0 (by simp) (by first | rfl | kernel_rfl) (by kernel_rfl) (Nat.le_of_ble_eq_true rfl) tld (by kernel_rfl) (by kernel_rfl)
  · simp only [List.length_map] at h
    (refine goA ?_)
    refine Ret.mk [.tmp _] rfl ?_; refine And.intro ?_ rfl
    rw [List.take_of_length_le (by omega)] at hf
    have : kept xs = true := by
      unfold kept
      rw [Bool.not_eq_true', List.any_eq_false]
      intro x hx
      rw [hf x hx]; simp
    rw [this]
theorem frame116 (g : Pg) (f : Fm) (hl : f.ls.length ≤ 9223372036854775806) : Spec Try.prog 116 [pgD g, frD f] [] (fun d os' => d = .bool (!oddF g f) ∧ os' = []) := by
  have hl' : (f.ls.map (D.int .i64)).length ≤ 9223372036854775806 := by rw [List.length_map]; exact hl
  refine Spec.by Try.func116 rfl (by decide) (by decide +kernel) rfl ?_
  (refine goA ?_)
  refine Br.dec (fun h1 => ?_) (fun h1 => ?_)
  · (refine goA ?_)
    refine Ret.trim 0 (by simp) rfl (Nat.le_of_ble_eq_true rfl) ?_
    refine Ret.mk [.tmp _] rfl ?_; refine And.intro ?_ rfl
    simp [oddF, h1]
  (refine goA ?_)
  refine Br.dec (fun h2 => ?_) (fun h2 => ?_)
  · (refine goA ?_)
    refine Ret.trim 0 (by simp) rfl (Nat.le_of_ble_eq_true rfl) ?_
    refine Ret.mk [.tmp _] rfl ?_; refine And.intro ?_ rfl
    simp at h2
    simp [oddF, h2]
  simp only [List.length_map] at h2
  have hget : g.fu[f.fn.toNat]? = some g.fu[f.fn.toNat] := List.getElem?_eq_getElem (by omega)
  have ho : oddF g f = (decide (f.pc < 0) || decide ((g.fu[f.fn.toNat].code.length : Int) < f.pc) || decide ((f.ls.length : Int) ≠ g.fu[f.fn.toNat].loc) || !kept f.ls) := by
    simp only [oddF]
    rw [if_neg (by omega), hget]
  generalize g.fu[f.fn.toNat] = u at hget ho
  (refine goA ?_)
  refine Opt.of (get_map hget) ?_
  (refine goA ?_)
  refine Call.mk ((kept115 f.ls hl).only _ rfl (by rintro d rfl; rfl)) ?_
  rintro d os' ⟨rfl, rfl⟩
  (refine goA ?_)
  refine Br.dec (fun h3 => ?_) (fun h3 => ?_)
  · (refine goA ?_)
    refine Br.dec (fun h4 => ?_) (fun h4 => ?_)
    · (refine goA ?_)
      refine Br.dec (fun h5 => ?_) (fun h5 => ?_)
      · (refine goA ?_)
        refine Ret.trim 0 (by simp) rfl (Nat.le_of_ble_eq_true rfl) ?_
        refine Ret.mk [.tmp _] rfl ?_; refine And.intro ?_ rfl
        simp only [List.length_map] at h4 h5
        rw [ho]
        have e1 : decide (f.pc < 0) = false := decide_eq_false (by omega)
        have e2 : decide ((u.code.length : Int) < f.pc) = false := decide_eq_false (by omega)
        have e3 : decide ((f.ls.length : Int) ≠ u.loc) = false := decide_eq_false (by omega)
        rw [e1, e2, e3]; simp
      · (refine goA ?_)
        refine Ret.trim 0 (by simp) rfl (Nat.le_of_ble_eq_true rfl) ?_
        refine Ret.mk [.tmp _] rfl ?_; refine And.intro ?_ rfl
        simp only [List.length_map] at h4 h5
        rw [ho]
        have e3 : decide ((f.ls.length : Int) ≠ u.loc) = true := decide_eq_true (by omega)
        rw [e3]; simp
    · (refine goA ?_)
      refine Ret.trim 0 (by simp) rfl (Nat.le_of_ble_eq_true rfl) ?_
      refine Ret.mk [.tmp _] rfl ?_; refine And.intro ?_ rfl
      simp only [List.length_map] at h4
      rw [ho]
      have e2 : decide ((u.code.length : Int) < f.pc) = true := decide_eq_true (by omega)
      rw [e2]; simp
  · (refine goA ?_)
    refine Ret.trim 0 (by simp) rfl (Nat.le_of_ble_eq_true rfl) ?_
    refine Ret.mk [.tmp _] rfl ?_; refine And.intro ?_ rfl
    rw [ho]
    have e1 : decide (f.pc < 0) = true := decide_eq_true (by omega)
    rw [e1]; simp
/-- Which threads may be. -/
def mayP (st code : Int) (fl sl : Nat) : Prop := 0 ≤ st ∧ st ≤ 9 ∧ 0 ≤ code ∧ code ≤ 6 ∧ (st = 9 ↔ fl = 0) ∧ (st = 9 → sl = 0) ∧ (st ≠ 9 → code = 0) ∧ fl ≤ 8 ∧ sl ≤ 16
instance (st code : Int) (fl sl : Nat) : Decidable (mayP st code fl sl) := by unfold mayP; infer_instance
def mayT (g : Pg) (t : Th) : Bool := decide (mayP t.st t.code t.fr.length t.sk.length) && (kept t.sk && (decide (t.on = keep t.on) && !t.fr.any (oddF g)))
theorem mayT_no {g : Pg} {t : Th} (h : ¬ mayP t.st t.code t.fr.length t.sk.length) : mayT g t = false := by unfold mayT; rw [decide_eq_false h]; rfl
theorem may32 (g : Pg) (t : Th) (ht : t.okB) : Spec Try.prog 32 [pgD g, thD t] [] (fun d os' => d = .bool (mayT g t) ∧ os' = []) := by
  have hlf : (t.fr.map frD).length ≤ 9223372036854775806 := by rw [List.length_map]; have := ht.1; omega
  have hno : ∀ h : ¬ mayP t.st t.code t.fr.length t.sk.length, D.bool false = .bool (mayT g t) := fun h => by rw [mayT_no h]
  refine Spec.by Try.func32 rfl (by decide) (by decide +kernel) rfl ?_
  (refine goA ?_)
  refine Call.mk ((kept115 t.sk (by have := ht.2.1; omega)).only _ rfl (by rintro d rfl; rfl)) ?_
  rintro d os' ⟨rfl, rfl⟩
  (refine goA ?_)
  refine Br.dec (fun h1 => ?_) (fun h1 => ?_)
  · (refine goA ?_)
    refine Ret.trim 0 (by simp) rfl (Nat.le_of_ble_eq_true rfl) ?_
    refine Ret.mk [.tmp _] rfl ?_; refine And.intro ?_ rfl
    exact hno (fun h => by unfold mayP at h; omega)
  (refine goA ?_)
  refine Br.dec (fun h2 => ?_) (fun h2 => ?_)
  · (refine goA ?_)
    refine Ret.trim 0 (by simp) rfl (Nat.le_of_ble_eq_true rfl) ?_
    refine Ret.mk [.tmp _] rfl ?_; refine And.intro ?_ rfl
    exact hno (fun h => by unfold mayP at h; omega)
  (refine goA ?_)
  refine Br.dec (fun h3 => ?_) (fun h3 => ?_)
  · (refine goA ?_)
    refine Ret.trim 0 (by simp) rfl (Nat.le_of_ble_eq_true rfl) ?_
    refine Ret.mk [.tmp _] rfl ?_; refine And.intro ?_ rfl
    exact hno (fun h => by unfold mayP at h; omega)
  (refine goA ?_)
  refine Br.dec (fun h4 => ?_) (fun h4 => ?_)
  · (refine goA ?_)
    refine Ret.trim 0 (by simp) rfl (Nat.le_of_ble_eq_true rfl) ?_
    refine Ret.mk [.tmp _] rfl ?_; refine And.intro ?_ rfl
    exact hno (fun h => by unfold mayP at h; omega)
  (refine goA ?_)
  refine Br.dec (fun h5 => ?_) (fun h5 => ?_)
  · (refine goA ?_)
    refine Ret.trim 0 (by simp) rfl (Nat.le_of_ble_eq_true rfl) ?_
    refine Ret.mk [.tmp _] rfl ?_; refine And.intro ?_ rfl
    rw [List.length_map] at h5
    exact hno (fun h => by unfold mayP at h; omega)
  (refine goA ?_)
  refine Br.dec (fun h6 => ?_) (fun h6 => ?_)
  · (refine goA ?_)
    refine Ret.trim 0 (by simp) rfl (Nat.le_of_ble_eq_true rfl) ?_
    refine Ret.mk [.tmp _] rfl ?_; refine And.intro ?_ rfl
    rw [List.length_map] at h6
    exact hno (fun h => by unfold mayP at h; omega)
  have h5' := h5
  have h6' := h6
  rw [List.length_map] at h5' h6'
  (refine goA ?_)
  refine Br.cs (fun h7 => ?_) (fun h7 => ?_)
  · (refine goA ?_)
    refine Ret.trim 0 (by simp) rfl (Nat.le_of_ble_eq_true rfl) ?_
    refine Ret.mk [.tmp _] rfl ?_; refine And.intro ?_ rfl
    have : kept t.sk = false := by simpa using h7
    unfold mayT
    rw [this]; simp
  have hk : kept t.sk = true := by simpa using h7
  (refine goA ?_)
  refine Call.mk (keep36 t.on _) ?_
  rintro d os' ⟨rfl, rfl⟩
  (refine goA ?_)
  refine Br.cs (fun h8 => ?_) (fun h8 => ?_)
  · (refine goA ?_)
    refine Ret.trim 0 (by simp) rfl (Nat.le_of_ble_eq_true rfl) ?_
    refine Ret.mk [.tmp _] rfl ?_; refine And.intro ?_ rfl
    unfold mayT
    have h8' : ¬ t.on = keep t.on := by simpa using h8
    rw [decide_eq_false h8']; simp
  have hon : t.on = keep t.on := by simpa using h8
  have hfin : ∀ b, (b = true ↔ mayP t.st t.code t.fr.length t.sk.length) → t.fr.any (oddF g) = false → D.bool b = .bool (mayT g t) := fun b hb ha => by
    unfold mayT
    rw [hk, decide_eq_true hon, ha]
    have : decide (mayP t.st t.code t.fr.length t.sk.length) = b := by
      cases b with
      | true => exact decide_eq_true (hb.1 rfl)
      | false => exact decide_eq_false (fun h => by have := hb.2 h; simp at this)
    rw [this]; simp
  (refine goA ?_)
  refine Loop.inv (A := Nat) (List.range 91) (fun i => [(2, .ptr 0 0 7 0 0), (3, .ptr 1 0 5 0 0), (6, .int .i64 (i : Int))]) (fun _ => [one (.row 26 7 false [pgD g]), one (.row 29 5 false [thD t])]) (fun i => i ≤ t.fr.length ∧ ∀ x ∈ t.fr.take i, oddF g x = false) (fun i => t.fr.length - i) 0 ⟨Nat.zero_le _, by simp⟩ ?_ ?_
  · exact Weak.start' rfl rfl tld
  intro i ⟨hi, hf⟩
  (refine goA ?_)
  refine Br.dec (fun h => ?_) (fun h => ?_)
  · simp only [List.length_map] at h
    (refine goA ?_)
    refine Opt.of (get_map (List.getElem?_eq_getElem (l := t.fr) (i := i) (by omega))) ?_
    (refine goA ?_)
    refine Call.mk ((frame116 g t.fr[i] (by have := ht.2.2 _ (List.getElem_mem (l := t.fr) (n := i) (by omega)); omega)).only _ rfl (by rintro d rfl; rfl)) ?_
    rintro d os' ⟨rfl, rfl⟩
    (refine goA ?_)
    refine Br.cs (fun hb => ?_) (fun hb => ?_)
    · (refine goA ?_)
      refine Ret.trim 0 (by simp) rfl (Nat.le_of_ble_eq_true rfl) ?_
      refine Ret.mk [.tmp _] rfl ?_; refine And.intro ?_ rfl
      have : t.fr.any (oddF g) = true := List.any_eq_true.2 ⟨_, List.getElem_mem (l := t.fr) (n := i) (by omega), by simpa using hb⟩
      unfold mayT
      rw [this]; simp
    · (refine goA ?_)
      refine ⟨_, _, _, ?_, ⟨i + 1, ?_, rfl, rfl, rfl⟩, ?_⟩
      · omega
      · exact ⟨by omega, take_more (by omega) (by simpa using hb) hf⟩
      · refine Weak.backT 2 (by simp) (by first | rfl | kernel_rfl) (by kernel_rfl) (Nat.le_of_ble_eq_true rfl) tld (by kernel_rfl) (by kernel_rfl)
  · simp only [List.length_map] at h
    rw [List.take_of_length_le (by omega)] at hf
    have ha : t.fr.any (oddF g) = false := by rw [List.any_eq_false]; intro x hx; rw [hf x hx]; simp
    (refine goA ?_)
    refine Br.dec (fun h9 => ?_) (fun h9 => ?_)
    · (refine goA ?_)
      refine Br.dec (fun h10 => ?_) (fun h10 => ?_)
      · have h10' := h10
        rw [List.length_map] at h10'
        (refine goA ?_)
        refine Ret.trim 0 (by simp) rfl (Nat.le_of_ble_eq_true rfl) ?_
        refine Ret.mk [.tmp _] rfl ?_; refine And.intro ?_ rfl
        refine hfin _ ?_ ha
        rw [decide_eq_true_eq, List.length_map]
        unfold mayP
        omega
      · (refine goA ?_)
        refine Ret.trim 0 (by simp) rfl (Nat.le_of_ble_eq_true rfl) ?_
        refine Ret.mk [.tmp _] rfl ?_; refine And.intro ?_ rfl
        rw [List.length_map] at h10
        refine hfin _ ?_ ha
        unfold mayP
        constructor
        · intro hh; simp at hh
        · intro hh; omega
    · (refine goA ?_)
      refine Br.dec (fun h10 => ?_) (fun h10 => ?_)
      · have h10' := h10
        rw [List.length_map] at h10'
        (refine goA ?_)
        refine Ret.trim 0 (by simp) rfl (Nat.le_of_ble_eq_true rfl) ?_
        refine Ret.mk [.tmp _] rfl ?_; refine And.intro ?_ rfl
        refine hfin _ ?_ ha
        rw [decide_eq_true_eq]
        unfold mayP
        omega
      · (refine goA ?_)
        refine Ret.trim 0 (by simp) rfl (Nat.le_of_ble_eq_true rfl) ?_
        refine Ret.mk [.tmp _] rfl ?_; refine And.intro ?_ rfl
        rw [List.length_map] at h10
        refine hfin _ ?_ ha
        unfold mayP
        constructor
        · intro hh; simp at hh
        · intro hh; omega
end Go.Proofs.Ytaplihoeephbeaa.V
