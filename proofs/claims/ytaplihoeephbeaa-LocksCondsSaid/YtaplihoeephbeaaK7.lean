/- K7: a text of a symbolic executor that is proved sound, and contracts that are proved with it. -/
import Derived.Test.YtaplihoeephbeaaK6
set_option linter.unusedVariables false
set_option linter.unusedSimpArgs false
namespace Go.Proofs.Ytaplihoeephbeaa.V
open Go Go.Proofs
set_option maxRecDepth 100000
set_option maxHeartbeats 40000000
@[reducible] def rowN (n : Nat) (X : List (List Int)) : Fam := one (.row 23 1 true (X.map ints ++ List.replicate (n - X.length) .nils))
theorem rowN_splice (n : Nat) (X L : List (List Int)) (h : X.length + L.length ≤ n) : splice (X.map ints ++ List.replicate (n - X.length) .nils) X.length (L.map ints) = (X ++ L).map ints ++ List.replicate (n - (X ++ L).length) .nils := by
  have e1 : (X.map ints ++ List.replicate (n - X.length) D.nils).take X.length = X.map ints := List.take_left' (by simp)
  have e2 : (X.map ints ++ List.replicate (n - X.length) D.nils).drop (X.length + (L.map ints).length) = List.replicate (n - (X ++ L).length) D.nils := by
    rw [List.drop_append, List.drop_eq_nil_of_le (by simp)]
    simp
    omega
  rw [splice, e1, e2, List.map_append, List.append_assoc]
@[reducible] def cat3 (A B C : List (List Int)) (r : Objs) : Objs := rowC A :: rowC B :: rowC C :: one (.row 24 1 false [.sl 0 0 1 0 A.length none, .sl 1 0 1 0 B.length none, .sl 2 0 1 0 C.length none]) :: r
theorem concat155 (A B C : List (List Int)) (hA : A.length ≤ 1000) (hB : B.length ≤ 1000) (hC : C.length ≤ 1000) : Spec Try.prog 155 [.sl 3 0 1 0 3 none] (cat3 A B C []) (fun d os' => d = .lst 1 false ((A ++ B ++ C).map ints) ∧ os' = cat3 A B C []) := by
  have lA : (A.map ints).length = A.length := List.length_map ..
  have lB : (B.map ints).length = B.length := List.length_map ..
  have lC : (C.map ints).length = C.length := List.length_map ..
  have nA : ((A.map ints).drop 0).take A.length = A.map ints := by rw [List.drop_zero, List.take_of_length_le (by omega)]
  have nB : ((B.map ints).drop 0).take B.length = B.map ints := by rw [List.drop_zero, List.take_of_length_le (by omega)]
  have nC : ((C.map ints).drop 0).take C.length = C.map ints := by rw [List.drop_zero, List.take_of_length_le (by omega)]
  refine Spec.by Try.func155 rfl (by decide) (by decide +kernel) rfl ?_
  (refine goA ?_)
  have step1 : ∀ i : Nat, i ≤ 3 → i = 0 ∨ i = 1 ∨ i = 2 ∨ i = 3 := by omega
  refine Loop.inv (A := Nat × Nat) (List.range 36) (fun x => [(0, .sl 3 0 1 0 3 none), (9, .sl 3 0 1 0 3 none), (10, .int .i64 3), (11, .int .i64 (x.1 : Int)), (3, .int .i64 (x.2 : Int))]) (fun _ => cat3 A B C []) (fun x => (x.1 = 0 ∧ x.2 = 0) ∨ (x.1 = 1 ∧ x.2 = A.length) ∨ (x.1 = 2 ∧ x.2 = A.length + B.length) ∨ (x.1 = 3 ∧ x.2 = A.length + B.length + C.length)) (fun x => 3 - x.1) (0, 0) (.inl ⟨rfl, rfl⟩) ?_ ?_
  · exact Weak.start' rfl rfl tld
  rintro ⟨i, sm⟩ h
  dsimp only at h ⊢
  rcases h with ⟨rfl, rfl⟩ | ⟨rfl, rfl⟩ | ⟨rfl, rfl⟩ | ⟨rfl, rfl⟩
  · (refine goA ?_)
    refine ⟨_, _, _, ?_, ⟨(1, A.length), ?_, rfl, rfl, rfl⟩, ?_⟩
    · show 3 - 1 < 3 - 0; decide
    · exact .inr (.inl ⟨rfl, rfl⟩)
    · refine Weak.trans (Weak.on [(0, .sl 3 0 1 0 3 none), (9, .sl 3 0 1 0 3 none), (10, .int .i64 3), (11, .int .i64 1), (3, .int .i64 ((A.length : Nat) : Int))] (cat3 A B C [])) ?_
      refine Weak.backT 4 (by simp) (by first | rfl | kernel_rfl) (by kernel_rfl) (Nat.le_of_ble_eq_true rfl) tld (by kernel_rfl) (by kernel_rfl)
  · (refine goA ?_)
    refine ⟨_, _, _, ?_, ⟨(2, A.length + B.length), ?_, rfl, rfl, rfl⟩, ?_⟩
    · show 3 - 2 < 3 - 1; decide
    · exact .inr (.inr (.inl ⟨rfl, rfl⟩))
    · refine Weak.trans (Weak.on [(0, .sl 3 0 1 0 3 none), (9, .sl 3 0 1 0 3 none), (10, .int .i64 3), (11, .int .i64 2), (3, .int .i64 ((A.length + B.length : Nat) : Int))] (cat3 A B C [])) ?_
      refine Weak.backT 4 (by simp) (by first | rfl | kernel_rfl) (by kernel_rfl) (Nat.le_of_ble_eq_true rfl) tld (by kernel_rfl) (by kernel_rfl)
  · (refine goA ?_)
    refine ⟨_, _, _, ?_, ⟨(3, A.length + B.length + C.length), ?_, rfl, rfl, rfl⟩, ?_⟩
    · show 3 - 3 < 3 - 2; decide
    · exact .inr (.inr (.inr ⟨rfl, rfl⟩))
    · refine Weak.trans (Weak.on [(0, .sl 3 0 1 0 3 none), (9, .sl 3 0 1 0 3 none), (10, .int .i64 3), (11, .int .i64 3), (3, .int .i64 ((A.length + B.length + C.length : Nat) : Int))] (cat3 A B C [])) ?_
      refine Weak.backT 4 (by simp) (by first | rfl | kernel_rfl) (by kernel_rfl) (Nat.le_of_ble_eq_true rfl) tld (by kernel_rfl) (by kernel_rfl)
  · (refine goA ?_)
    obtain ⟨n, hn⟩ : ∃ n, A.length + B.length + C.length = n := ⟨_, rfl⟩
    rw [hn]
    refine Call.mk ((grow195 n (by omega)).onto _ rfl) ?_
    rintro d os' ⟨_, _, ⟨rfl, rfl⟩, rfl, rfl⟩
    (refine goA ?_)
    refine Loop.inv (A := Nat × List (List Int)) (List.range 36) (fun x => [(25, .sl 3 0 1 0 3 none), (26, .int .i64 3), (27, .int .i64 (x.1 : Int)), (6, .sl 4 0 1 0 x.2.length none)]) (fun x => cat3 A B C [rowN n x.2]) (fun x => (x.1 = 0 ∧ x.2 = []) ∨ (x.1 = 1 ∧ x.2 = A) ∨ (x.1 = 2 ∧ x.2 = A ++ B) ∨ (x.1 = 3 ∧ x.2 = A ++ B ++ C)) (fun x => 3 - x.1) (0, []) (.inl ⟨rfl, rfl⟩) ?_ ?_
    · exact Weak.start' rfl rfl tld
    rintro ⟨i, X⟩ h
    dsimp only at h ⊢
    have hes : X.length ≤ n → (X.map ints ++ List.replicate (n - X.length) D.nils).length = n := fun h => by rw [List.length_append, List.length_map, List.length_replicate]; omega
    obtain ⟨xl, hxl⟩ : ∃ k, X.length = k := ⟨_, rfl⟩
    rcases h with ⟨hi, hX⟩ | ⟨hi, hX⟩ | ⟨hi, hX⟩ | ⟨hi, hX⟩ <;> subst hi
    · have hxt : X.length = 0 := by simp [hX]
      have hsp := rowN_splice n X A (by omega)
      have hes := hes (by omega)
      have hnx : X ++ A = A := by simp [hX]
      (refine goA ?_)
      refine Ap.within ⟨by rw [hes, nA, lA]; omega, fun _ => by rw [nA]; exact pureL_rows _, fun hz => ?_, fun hz => ?_⟩
      · rw [nA] at hz
        have hz' : A = [] := List.map_eq_nil_iff.1 hz
        have hXX : X ++ A = X := by rw [hz', List.append_nil]
        (refine goA ?_)
        refine ⟨_, _, _, ?_, ⟨(1, X), ?_, rfl, rfl, rfl⟩, ?_⟩
        · show 3 - 1 < 3 - 0; decide
        · exact .inr (.inl ⟨rfl, by show X = _; rw [← hXX]; exact hnx⟩)
        · refine Weak.backT 5 (by simp) (by first | rfl | kernel_rfl) (by kernel_rfl) (Nat.le_of_ble_eq_true rfl) tld (by kernel_rfl) (by kernel_rfl)
      · (refine goA ?_)
        refine ⟨_, _, _, ?_, ⟨(1, X ++ A), ?_, rfl, rfl, rfl⟩, ?_⟩
        · show 3 - 1 < 3 - 0; decide
        · exact .inr (.inl ⟨rfl, hnx⟩)
        · rw [nA]
          refine Weak.trans (Weak.on [(25, .sl 3 0 1 0 3 none), (26, .int .i64 3), (27, .int .i64 1), (6, .sl 4 0 1 0 (X.length + (A.map ints).length) none)] (cat3 A B C [one (.row 23 1 true (splice (X.map ints ++ List.replicate (n - X.length) D.nils) X.length (A.map ints)))])) ?_
          rw [hsp, lA, ← List.length_append]
          refine Weak.backT 5 (by simp) (by first | rfl | kernel_rfl) (by kernel_rfl) (Nat.le_of_ble_eq_true rfl) tld (by kernel_rfl) (by kernel_rfl)
    · have hxt : X.length = A.length := by simp [hX]
      have hsp := rowN_splice n X B (by omega)
      have hes := hes (by omega)
      have hnx : X ++ B = A ++ B := by simp [hX]
      (refine goA ?_)
      refine Ap.within ⟨by rw [hes, nB, lB]; omega, fun _ => by rw [nB]; exact pureL_rows _, fun hz => ?_, fun hz => ?_⟩
      · rw [nB] at hz
        have hz' : B = [] := List.map_eq_nil_iff.1 hz
        have hXX : X ++ B = X := by rw [hz', List.append_nil]
        (refine goA ?_)
        refine ⟨_, _, _, ?_, ⟨(2, X), ?_, rfl, rfl, rfl⟩, ?_⟩
        · show 3 - 2 < 3 - 1; decide
        · exact .inr (.inr (.inl ⟨rfl, by show X = _; rw [← hXX]; exact hnx⟩))
        · refine Weak.backT 5 (by simp) (by first | rfl | kernel_rfl) (by kernel_rfl) (Nat.le_of_ble_eq_true rfl) tld (by kernel_rfl) (by kernel_rfl)
      · (refine goA ?_)
        refine ⟨_, _, _, ?_, ⟨(2, X ++ B), ?_, rfl, rfl, rfl⟩, ?_⟩
        · show 3 - 2 < 3 - 1; decide
        · exact .inr (.inr (.inl ⟨rfl, hnx⟩))
        · rw [nB]
          refine Weak.trans (Weak.on [(25, .sl 3 0 1 0 3 none), (26, .int .i64 3), (27, .int .i64 2), (6, .sl 4 0 1 0 (X.length + (B.map ints).length) none)] (cat3 A B C [one (.row 23 1 true (splice (X.map ints ++ List.replicate (n - X.length) D.nils) X.length (B.map ints)))])) ?_
          rw [hsp, lB, ← List.length_append]
          refine Weak.backT 5 (by simp) (by first | rfl | kernel_rfl) (by kernel_rfl) (Nat.le_of_ble_eq_true rfl) tld (by kernel_rfl) (by kernel_rfl)
    · have hxt : X.length = A.length + B.length := by simp [hX]
      have hsp := rowN_splice n X C (by omega)
      have hes := hes (by omega)
      have hnx : X ++ C = A ++ B ++ C := by simp [hX]
      (refine goA ?_)
      refine Ap.within ⟨by rw [hes, nC, lC]; omega, fun _ => by rw [nC]; exact pureL_rows _, fun hz => ?_, fun hz => ?_⟩
      · rw [nC] at hz
        have hz' : C = [] := List.map_eq_nil_iff.1 hz
        have hXX : X ++ C = X := by rw [hz', List.append_nil]
        (refine goA ?_)
        refine ⟨_, _, _, ?_, ⟨(3, X), ?_, rfl, rfl, rfl⟩, ?_⟩
        · show 3 - 3 < 3 - 2; decide
        · exact .inr (.inr (.inr ⟨rfl, by show X = _; rw [← hXX]; exact hnx⟩))
        · refine Weak.backT 5 (by simp) (by first | rfl | kernel_rfl) (by kernel_rfl) (Nat.le_of_ble_eq_true rfl) tld (by kernel_rfl) (by kernel_rfl)
      · (refine goA ?_)
        refine ⟨_, _, _, ?_, ⟨(3, X ++ C), ?_, rfl, rfl, rfl⟩, ?_⟩
        · show 3 - 3 < 3 - 2; decide
        · exact .inr (.inr (.inr ⟨rfl, hnx⟩))
        · rw [nC]
          refine Weak.trans (Weak.on [(25, .sl 3 0 1 0 3 none), (26, .int .i64 3), (27, .int .i64 3), (6, .sl 4 0 1 0 (X.length + (C.map ints).length) none)] (cat3 A B C [one (.row 23 1 true (splice (X.map ints ++ List.replicate (n - X.length) D.nils) X.length (C.map ints)))])) ?_
          rw [hsp, lC, ← List.length_append]
          refine Weak.backT 5 (by simp) (by first | rfl | kernel_rfl) (by kernel_rfl) (Nat.le_of_ble_eq_true rfl) tld (by kernel_rfl) (by kernel_rfl)
    · have hxt : X.length = A.length + B.length + C.length := by rw [hX]; simp; omega
      rw [← hX]
      (refine goA ?_)
      refine Ret.frz (fun i => Nat.beq i 4) [(2, .lst 1 false (X.map ints))] ⟨View.sl (t := 23) (pr := true) (es := X.map ints ++ List.replicate (n - X.length) D.nils) rfl rfl (by rw [List.length_append, List.length_map]; omega) (fun h => Bool.noConfusion h) (by rw [List.drop_zero, List.take_left' (List.length_map ..)]; exact ViewL.same _) (pureL_rows _), trivial⟩ ?_
      refine Ret.trim 4 (by simp) rfl (Nat.le_of_ble_eq_true rfl) ?_
      exact Ret.mk [.tmp _] rfl ⟨rfl, rfl⟩
/-- Nothing is held, or waited for. -/
def freeS (S : Lk) : Bool := !(S.ow.any fun v => !decide (v = -1)) && !((S.lk ++ S.wq ++ S.dq).any fun L => decide (0 < L.length))
theorem free69' {nm nw ns : Nat} {S : Lk} (h : LkL nm nw ns S) (hb : nm ≤ 1000 ∧ nw ≤ 1000 ∧ ns ≤ 1000) : Spec Try.prog 69 [lkD nm nw ns] (lkO nm nw ns S []) (fun d os' => d = .bool (freeS S) ∧ os' = lkO nm nw ns S []) := by
  obtain ⟨ow, co, lk, wq, dq⟩ := S
  have h1 := h.ow
  have h2 := h.lk
  have h3 := h.wq
  have h4 := h.dq
  dsimp only at h1 h2 h3 h4
  subst h2 h3 h4
  have hO : (ow.map (D.int .i64)).length = lk.length := by rw [List.length_map]; exact h1
  unfold freeS
  dsimp only
  obtain ⟨b1, hb1⟩ : ∃ b, (ow.any fun v => !decide (v = -1)) = b := ⟨_, rfl⟩
  obtain ⟨b2, hb2⟩ : ∃ b, ((lk ++ wq ++ dq).any fun L => decide (0 < L.length)) = b := ⟨_, rfl⟩
  rw [hb1, hb2]
  have hcat : Spec Try.prog 155 [.sl 7 0 1 0 3 none] (lkO lk.length wq.length dq.length ⟨ow, co, lk, wq, dq⟩ [one (.row 93 10 false [lkD lk.length wq.length dq.length]), one (.row 24 1 false [.sl 2 0 1 0 lk.length none, .sl 3 0 1 0 wq.length none, .sl 4 0 1 0 dq.length none])])
      (fun d os' => d = .lst 1 false ((lk ++ wq ++ dq).map ints) ∧ os' = lkO lk.length wq.length dq.length ⟨ow, co, lk, wq, dq⟩ [one (.row 93 10 false [lkD lk.length wq.length dq.length]), one (.row 24 1 false [.sl 2 0 1 0 lk.length none, .sl 3 0 1 0 wq.length none, .sl 4 0 1 0 dq.length none])]) := by
    have := (concat155 lk wq dq hb.1 hb.2.1 hb.2.2).frame (lkO lk.length wq.length dq.length ⟨ow, co, lk, wq, dq⟩ [one (.row 93 10 false [lkD lk.length wq.length dq.length]), one (.row 24 1 false [.sl 2 0 1 0 lk.length none, .sl 3 0 1 0 wq.length none, .sl 4 0 1 0 dq.length none])]) [(2, 0), (3, 0), (4, 0), (7, 0)] rfl (by decide) (fun k p hk => by
      match k, hk with
      | 0, hk => cases hk; exact ⟨by simp, rfl, rfl, fun j hj => one_pos _ hj⟩
      | 1, hk => cases hk; exact ⟨by simp, rfl, rfl, fun j hj => one_pos _ hj⟩
      | 2, hk => cases hk; exact ⟨by simp, rfl, rfl, fun j hj => one_pos _ hj⟩
      | 3, hk => cases hk; exact ⟨by simp, rfl, rfl, fun j hj => one_pos _ hj⟩
      | k + 4, hk => simp at hk) rfl
    refine this.mono ?_
    rintro d os' ⟨d1, os1, ⟨rfl, rfl⟩, rfl, rfl⟩
    exact ⟨rfl, rfl⟩
  refine Spec.by Try.func69 rfl (by decide) (by decide +kernel) rfl ?_
  (refine goA ?_)
  refine Call.mk ((con152 ow 153 [] (fun v => !decide (v = -1)) (by omega) (fun v _ => fn153 v)).read (.cons (View.slAll rfl rfl hO (by simp) (ViewL.same _) (pureL_map (fun _ => rfl) _)) (.cons (View.same _) .nil)) rfl (by rintro d rfl; exact ⟨rfl, rfl⟩)) ?_
  rw [hb1]
  rintro d os' ⟨rfl, rfl⟩
  cases b1 with
  | true =>
    (refine goA ?_)
    refine Ret.trim 6 (by simp) rfl (Nat.le_of_ble_eq_true rfl) ?_
    exact Ret.mk [.tmp 2] rfl ⟨rfl, rfl⟩
  | false =>
    (refine goA ?_)
    refine App.own ?_
    (refine goA ?_)
    refine Call.mk hcat ?_
    rintro d os' ⟨rfl, rfl⟩
    (refine goA ?_)
    refine Call.mk ((con154 (lk ++ wq ++ dq) 151 (fun L => decide (0 < L.length)) (by simp; omega) (fun L _ => fn151 L)).read (ViewL.same _) rfl (by rintro d rfl; exact ⟨rfl, rfl⟩)) ?_
    rw [hb2]
    rintro d os' ⟨rfl, rfl⟩
    cases b2 with
    | true =>
      (refine goA ?_)
      refine Ret.trim 6 (by simp) rfl (Nat.le_of_ble_eq_true rfl) ?_
      exact Ret.mk [.tmp 2] rfl ⟨rfl, rfl⟩
    | false =>
      (refine goA ?_)
      refine Ret.trim 6 (by simp) rfl (Nat.le_of_ble_eq_true rfl) ?_
      exact Ret.mk [.tmp 2] rfl ⟨rfl, rfl⟩
/-- A new state of locks: its rows. -/
def newS (nm nw : Nat) (se : List Int) : Lk := ⟨List.replicate nm (-1), se, List.replicate nm [], List.replicate nw [], List.replicate se.length []⟩
@[reducible] def lkR (S : Lk) : Objs := [rowI S.ow, rowI S.co, rowC S.lk, rowC S.wq, rowC S.dq]
end Go.Proofs.Ytaplihoeephbeaa.V
