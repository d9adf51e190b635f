/- C1: a text of a symbolic executor that is proved sound, and contracts that are proved with it. -/
import Derived.Test.YtaplihoeephbeaaVA
import Derived.Test.YtaplihoeephbeaaVB
import Derived.Test.YtaplihoeephbeaaVT
import Derived.Test.YtaplihoeephbeaaVC
import Derived.Test.YtaplihoeephbeaaC0
import Derived.Shelf.Slices.Delete
import Derived.ChangeArms
import Derived.ChangeSlices
import Derived.ChangeShapes
import Derived.WideShapes
import Derived.SizedLaws
import Derived.Carry
import Derived.OpenShut
import Derived.Test.YtaplihoeephbeaaRows
import Derived.WalkKit
import Derived.ProofKit
import Derived.ShutString
import Derived.ChangeOld
import Derived.Below
set_option linter.unusedVariables false
set_option linter.unusedSimpArgs false
section
namespace Go.Proofs.Ytaplihoeephbeaa.V
open Go Go.Proofs
set_option maxRecDepth 100000
set_option maxHeartbeats 40000000
/-- The reference's pool. -/
@[reducible] def poV (m : Int) (L : List (List Int)) (G : List Int) : D := .agg [.int .i64 m, lists L, ints G]
theorem is219 (m : Int) (L : List (List Int)) (G : List Int) (w : Int) : Spec Try.prog 219 [poV m L G, .int .i64 w] [] (fun d os' => d = .bool (decide (0 ≤ w ∧ w < L.length)) ∧ os' = []) := by
  have hlm : (L.map ints).length = L.length := List.length_map ..
  refine Spec.by Try.func219 rfl (by decide) (by decide +kernel) rfl ?_
  (refine goA ?_)
  refine Br.dec (fun h0 => ?_) (fun h0 => ?_)
  · (refine goA ?_)
    refine Ret.trim 0 (by simp) rfl (Nat.le_of_ble_eq_true rfl) ?_
    refine Ret.mk [.tmp 4] rfl ⟨congrArg D.bool ?_, rfl⟩
    by_cases h1 : w < L.length
    · rw [hlm, decide_eq_true h1, decide_eq_true ⟨h0, h1⟩]
    · rw [hlm, decide_eq_false h1, decide_eq_false (fun h => h1 h.2)]
  · (refine goA ?_)
    refine Ret.trim 0 (by simp) rfl (Nat.le_of_ble_eq_true rfl) ?_
    refine Ret.mk [.tmp 4] rfl ⟨congrArg D.bool ?_, rfl⟩
    rw [decide_eq_false (fun h => h0 h.1)]
theorem and221 (l : List Int) (n : Int) (hl : l.length ≤ 1000000) : Spec Try.prog 221 [ints l, .int .i64 n] [] (fun d os' => d = ints (l ++ [n]) ∧ os' = []) := by
  have hlm : (l.map (D.int .i64)).length = l.length := List.length_map ..
  refine Spec.frz (post' := fun d => d = ints (l ++ [n])) ?_
  refine Spec.by Try.func221 rfl (by decide) (by decide +kernel) rfl ?_
  (refine goR ?_)
  ((with_reducible refine Pt.go ?_); conv => whnf)
  (refine goR ?_)
  ((with_reducible refine Pt.go ?_); conv => whnf)
  (refine goR ?_)
  refine Pt.weak (Weak.trans (Weak.on [(0, ints l), (1, .int .i64 n), (5, .nils)] []) (Weak.nilrow 5 rfl 3 1 true)) ?_
  (refine goA ?_)
  refine App.only false rfl rfl ?_
  (refine goA ?_)
  refine Ret.mk [.tmp 4] rfl ⟨_, View.slAll (f := false) (es' := (l ++ [n]).map (D.int .i64)) rfl rfl (by simp [setAll]) (by simp) (by rw [List.map_append]; exact ViewL.same _) (pureL_map (fun _ => rfl) _), rfl, rfl⟩
theorem with220 (m : Int) (L : List (List Int)) (G : List Int) (w : Nat) (hw : w < L.length) (hL : L.length ≤ 1000000) (l : List Int) : Spec Try.prog 220 [poV m L G, .int .i64 w, ints l] [] (fun d os' => d = poV m (L.set w l) G ∧ os' = []) := by
  have hlm : (L.map ints).length = L.length := List.length_map ..
  refine Spec.frz (post' := fun d => d = poV m (L.set w l) G) ?_
  refine Spec.by Try.func220 rfl (by decide) (by decide +kernel) rfl ?_
  (refine goR ?_)
  ((with_reducible refine Pt.go ?_); conv => whnf)
  (refine goR ?_)
  ((with_reducible refine Pt.go ?_); conv => whnf)
  (refine goR ?_)
  refine Pt.weak (Weak.trans (Weak.on [(1, .int .i64 (w : Int)), (2, ints l), (3, .ptr 0 0 3 0 0), (6, .ptr 1 0 3 0 0), (7, .nils)] [one (.row 157 3 false [poV m L G]), one (.row 157 3 false [.agg [.int .i64 0, .nils, .nils]])]) (Weak.nilrow 7 rfl 23 1 true)) ?_
  (refine goA ?_)
  refine Opt.of (rowC_at L w hw) ?_
  (refine goA ?_)
  refine Ret.mk [.cell 6 157] rfl ?_; (refine goA ?_)
  refine ⟨_, View.agg (.cons (.same _) (.cons (View.slAll (f := false) (es' := (L.set w l).map ints) rfl rfl (by simp) (by simp) (by rw [List.map_set, Nat.zero_add]; exact ViewL.same _) (pureL_rows _)) (.cons (.same _) .nil))), rfl, rfl⟩
theorem new105 (n room : Int) : Spec Try.prog 105 [.int .i64 n, .int .i64 room] [] (fun d os' => d = poV (dqI room) (List.replicate (wkI n).toNat []) [] ∧ os' = []) := by
  have hkr := wkI_r n
  obtain ⟨k, hk⟩ : ∃ k : Nat, wkI n = k := ⟨(wkI n).toNat, by omega⟩
  have hk' : (if 64 < (if n < 1 then 1 else n) then 64 else (if n < 1 then 1 else n)) = (k : Int) := hk
  rw [hk, Int.toNat_natCast]
  rw [hk] at hkr
  refine Spec.frz (post' := fun d => d = poV (dqI room) (List.replicate k []) []) ?_
  refine Spec.by Try.func105 rfl (by decide) (by decide +kernel) rfl ?_
  (refine goA ?_)
  rw [hk', Int.toNat_natCast]
  refine App.own ?_
  (refine goA ?_)
  refine Ret.mk [.cell 4 157] rfl ?_; (refine goA ?_)
  exact ⟨_, View.agg (.cons (.same _) (.cons (View.slAll (f := false) rfl rfl (List.length_replicate ..) (by simp) (nilsV k) (pureL_rows _)) (.cons (View.nils 1 false) .nil))), rfl, rfl⟩
theorem give177 (m : Int) (L : List (List Int)) (G : List Int) (w n : Int) (hL : L.length ≤ 1000000) (hl : ∀ l ∈ L, l.length ≤ 1000) (hG : G.length ≤ 1000) : Spec Try.prog 177 [poV m L G, .int .i64 w, .int .i64 n] [] (fun d os' => d = .tup [poV m (giveP m L G w n).1 (giveP m L G w n).2.1, .int .i64 (giveP m L G w n).2.2] ∧ os' = []) := by
  have hlm : (L.map ints).length = L.length := List.length_map ..
  refine Spec.frz (post' := fun d => d = .tup [poV m (giveP m L G w n).1 (giveP m L G w n).2.1, .int .i64 (giveP m L G w n).2.2]) ?_
  unfold giveP
  by_cases hw : 0 ≤ w ∧ w < L.length
  · rw [if_pos hw]
    obtain ⟨i, rfl⟩ := Int.eq_ofNat_of_zero_le hw.1
    have hi : i < L.length := by omega
    rw [Int.toNat_natCast]
    have hq := hl _ (qAt_mem hi)
    have hg := lstC_at L i hi
    have hqm : ((qAt L i).map (D.int .i64)).length = (qAt L i).length := List.length_map ..
    by_cases hc : ((qAt L i).length : Int) < m
    · rw [if_pos hc]
      refine Spec.by Try.func177 rfl (by decide) (by decide +kernel) rfl ?_
      (refine goA ?_)
      refine Call.mk ((is219 m L G (i : Int)).only _ rfl (by rintro d rfl; rfl)) ?_; rintro d os' ⟨rfl, rfl⟩
      rw [decide_eq_true hw]
      (refine goA ?_)
      refine Opt.of hg ?_
      (refine goA ?_)
      refine Opt.of hg ?_
      (refine goA ?_)
      refine Call.mk ((and221 (qAt L i) n (by omega)).only _ rfl (by rintro d rfl; rfl)) ?_; rintro d os' ⟨rfl, rfl⟩
      (refine goA ?_)
      refine Call.mk ((with220 m L G i hi hL (qAt L i ++ [n])).only _ rfl (by rintro d rfl; rfl)) ?_; rintro d os' ⟨rfl, rfl⟩
      (refine goA ?_)
      refine Ret.mk [.cell 6 157, .tmp 7] rfl ?_; (refine goA ?_)
      exact ⟨_, View.same _, rfl, rfl⟩
    · rw [if_neg hc]
      refine Spec.by Try.func177 rfl (by decide) (by decide +kernel) rfl ?_
      (refine goA ?_)
      refine Call.mk ((is219 m L G (i : Int)).only _ rfl (by rintro d rfl; rfl)) ?_; rintro d os' ⟨rfl, rfl⟩
      rw [decide_eq_true hw]
      (refine goA ?_)
      refine Opt.of hg ?_
      (refine goA ?_)
      refine Call.mk ((and221 G n (by omega)).only _ rfl (by rintro d rfl; rfl)) ?_; rintro d os' ⟨rfl, rfl⟩
      (refine goA ?_)
      refine Ret.mk [.cell 6 157, .tmp 7] rfl ?_; (refine goA ?_)
      exact ⟨_, View.same _, rfl, rfl⟩
  · rw [if_neg hw]
    refine Spec.by Try.func177 rfl (by decide) (by decide +kernel) rfl ?_
    (refine goA ?_)
    refine Call.mk ((is219 m L G w).only _ rfl (by rintro d rfl; rfl)) ?_; rintro d os' ⟨rfl, rfl⟩
    rw [decide_eq_false hw]
    (refine goA ?_)
    refine Ret.mk [.cell 6 157, .tmp 7] rfl ?_; (refine goA ?_)
    exact ⟨_, View.same _, rfl, rfl⟩
theorem take178 (m : Int) (L : List (List Int)) (G : List Int) (w : Int) (hL : L.length ≤ 1000000) (hl : ∀ l ∈ L, l.length ≤ 1000) (hG : G.length ≤ 1000) : Spec Try.prog 178 [poV m L G, .int .i64 w] [] (fun d os' => d = .tup [poV m (takeP L G w).1 (takeP L G w).2.1, .int .i64 (takeP L G w).2.2.1, .int .i64 (takeP L G w).2.2.2] ∧ os' = []) := by
  have hlm : (L.map ints).length = L.length := List.length_map ..
  refine Spec.frz (post' := fun d => d = .tup [poV m (takeP L G w).1 (takeP L G w).2.1, .int .i64 (takeP L G w).2.2.1, .int .i64 (takeP L G w).2.2.2]) ?_
  unfold takeP
  by_cases hw : 0 ≤ w ∧ w < L.length
  · rw [if_pos hw]
    obtain ⟨i, rfl⟩ := Int.eq_ofNat_of_zero_le hw.1
    have hi : i < L.length := by omega
    rw [Int.toNat_natCast]
    have hq := hl _ (qAt_mem hi)
    have hg := lstC_at L i hi
    obtain ⟨l, hle⟩ : ∃ l, qAt L i = l := ⟨_, rfl⟩
    rw [hle] at hq hg ⊢
    have hqm : (l.map (D.int .i64)).length = l.length := List.length_map ..
    by_cases hn : l = []
    · subst hn
      show Spec Try.prog 178 _ _ (fun d os' => ∃ d', View allF os' d d' ∧ d'.pure = true ∧ d' = .tup [poV m L G.tail, .int .i64 (popC G).1, .int .i64 (popC G).2])
      cases G with
      | nil =>
        refine Spec.by Try.func178 rfl (by decide) (by decide +kernel) rfl ?_
        (refine goA ?_)
        refine Call.mk ((is219 m L [] (i : Int)).only _ rfl (by rintro d rfl; rfl)) ?_; rintro d os' ⟨rfl, rfl⟩
        rw [decide_eq_true hw]
        (refine goA ?_)
        refine Opt.of hg ?_
        (refine goA ?_)
        refine Ret.mk [.cell 4 157, .tmp 5, .tmp 6] rfl ?_; (refine goA ?_)
        exact ⟨_, View.same _, rfl, rfl⟩
      | cons v G =>
        have hGm : ((v :: G).map (D.int .i64)).length = G.length + 1 := by simp
        rw [List.length_cons] at hG
        refine Spec.by Try.func178 rfl (by decide) (by decide +kernel) rfl ?_
        (refine goA ?_)
        refine Call.mk ((is219 m L (v :: G) (i : Int)).only _ rfl (by rintro d rfl; rfl)) ?_; rintro d os' ⟨rfl, rfl⟩
        rw [decide_eq_true hw]
        (refine goA ?_)
        refine Opt.of hg ?_
        (refine goA ?_)
        refine Nm.mk (G.map (D.int .i64)) (by rw [Int.toNat_natCast, List.take_length]; rfl) ?_
        (refine goA ?_)
        refine Ret.mk [.cell 4 157, .tmp 5, .tmp 6] rfl ?_; (refine goA ?_)
        exact ⟨_, View.same _, rfl, rfl⟩
    · obtain ⟨s, v, rfl⟩ : ∃ s v, l = s ++ [v] := ⟨l.dropLast, l.getLast hn, (List.dropLast_concat_getLast hn).symm⟩
      have hls : (s ++ [v]).length = s.length + 1 := by rw [List.length_append, List.length_singleton]
      have hgl : (s ++ [v]).getLast? = some v := by simp
      have hdl : (s ++ [v]).dropLast = s := by simp
      have hget : (s ++ [v])[(s.length : Int).toNat]? = some v := by rw [Int.toNat_natCast]; simp
      rw [hls] at hq hqm
      rw [hgl, hdl]
      dsimp only
      refine Spec.by Try.func178 rfl (by decide) (by decide +kernel) rfl ?_
      (refine goA ?_)
      refine Call.mk ((is219 m L G (i : Int)).only _ rfl (by rintro d rfl; rfl)) ?_; rintro d os' ⟨rfl, rfl⟩
      rw [decide_eq_true hw]
      (refine goA ?_)
      refine Opt.of hg ?_
      (refine goA ?_)
      have hix : (((((s ++ [v]).map (D.int .i64)).length : Nat) : Int) - 1).toNat = s.length := by rw [hqm]; omega
      refine Nm.mk (s.map (D.int .i64)) (by rw [hix, List.map_append, List.take_left' (List.length_map ..)]; rfl) ?_
      (refine goA ?_)
      refine Opt.of (get_map (x := v) (by rw [hix]; simp)) ?_
      (refine goA ?_)
      refine Call.mk ((with220 m L G i hi hL s).only _ rfl (by rintro d rfl; rfl)) ?_; rintro d os' ⟨rfl, rfl⟩
      (refine goA ?_)
      refine Ret.mk [.cell 4 157, .tmp 5, .tmp 6] rfl ?_; (refine goA ?_)
      exact ⟨_, View.same _, rfl, rfl⟩
  · rw [if_neg hw]
    refine Spec.by Try.func178 rfl (by decide) (by decide +kernel) rfl ?_
    (refine goA ?_)
    refine Call.mk ((is219 m L G w).only _ rfl (by rintro d rfl; rfl)) ?_; rintro d os' ⟨rfl, rfl⟩
    rw [decide_eq_false hw]
    (refine goA ?_)
    refine Ret.mk [.cell 4 157, .tmp 5, .tmp 6] rfl ?_; (refine goA ?_)
    exact ⟨_, View.same _, rfl, rfl⟩
theorem put179 (m : Int) (L : List (List Int)) (G : List Int) (n : Int) (hG : G.length ≤ 1000) : Spec Try.prog 179 [poV m L G, .int .i64 n] [] (fun d os' => d = poV m L (G ++ [n]) ∧ os' = []) := by
  refine Spec.frz (post' := fun d => d = poV m L (G ++ [n])) ?_
  refine Spec.by Try.func179 rfl (by decide) (by decide +kernel) rfl ?_
  (refine goA ?_)
  refine Call.mk ((and221 G n (by omega)).only _ rfl (by rintro d rfl; rfl)) ?_; rintro d os' ⟨rfl, rfl⟩
  (refine goA ?_)
  refine Ret.mk [.cell 4 157] rfl ?_; (refine goA ?_)
  exact ⟨_, View.same _, rfl, rfl⟩
theorem steal182 (m : Int) (L : List (List Int)) (G : List Int) (w f : Int) (hL : L.length ≤ 1000000) (hl : ∀ l ∈ L, l.length ≤ 1000) : Spec Try.prog 182 [poV m L G, .int .i64 w, .int .i64 f] [] (fun d os' => d = .tup [poV m (stealP L w f).1 G, .int .i64 (stealP L w f).2.1, .int .i64 (stealP L w f).2.2] ∧ os' = []) := by
  have hlm : (L.map ints).length = L.length := List.length_map ..
  refine Spec.frz (post' := fun d => d = .tup [poV m (stealP L w f).1 G, .int .i64 (stealP L w f).2.1, .int .i64 (stealP L w f).2.2]) ?_
  unfold stealP
  by_cases hw : 0 ≤ w ∧ w < L.length
  · by_cases hf : 0 ≤ f ∧ f < L.length
    · rw [if_pos ⟨hw, hf⟩]
      by_cases he : w = f
      · rw [if_pos he]
        refine Spec.by Try.func182 rfl (by decide) (by decide +kernel) rfl ?_
        (refine goA ?_)
        refine Call.mk ((is219 m L G w).only _ rfl (by rintro d rfl; rfl)) ?_; rintro d os' ⟨rfl, rfl⟩
        rw [decide_eq_true hw]
        (refine goA ?_)
        refine Call.mk ((is219 m L G f).only _ rfl (by rintro d rfl; rfl)) ?_; rintro d os' ⟨rfl, rfl⟩
        rw [decide_eq_true hf]
        (refine goA ?_)
        refine Ret.mk [.cell 6 157, .tmp 7, .tmp 8] rfl ?_; (refine goA ?_)
        exact ⟨_, View.same _, rfl, rfl⟩
      · rw [if_neg he]
        obtain ⟨i, rfl⟩ := Int.eq_ofNat_of_zero_le hf.1
        have hi : i < L.length := by omega
        rw [Int.toNat_natCast]
        have hq := hl _ (qAt_mem hi)
        have hg := lstC_at L i hi
        obtain ⟨l, hle⟩ : ∃ l, qAt L i = l := ⟨_, rfl⟩
        rw [hle] at hq hg ⊢
        have hqm : (l.map (D.int .i64)).length = l.length := List.length_map ..
        cases l with
        | nil =>
          refine Spec.by Try.func182 rfl (by decide) (by decide +kernel) rfl ?_
          (refine goA ?_)
          refine Call.mk ((is219 m L G w).only _ rfl (by rintro d rfl; rfl)) ?_; rintro d os' ⟨rfl, rfl⟩
          rw [decide_eq_true hw]
          (refine goA ?_)
          refine Call.mk ((is219 m L G (i : Int)).only _ rfl (by rintro d rfl; rfl)) ?_; rintro d os' ⟨rfl, rfl⟩
          rw [decide_eq_true hf]
          (refine goA ?_)
          refine Opt.of hg ?_
          (refine goA ?_)
          refine Ret.mk [.cell 6 157, .tmp 7, .tmp 8] rfl ?_; (refine goA ?_)
          exact ⟨_, View.same _, rfl, rfl⟩
        | cons v s =>
          rw [List.length_cons] at hq hqm
          show Spec Try.prog 182 _ _ (fun d os' => ∃ d', View allF os' d d' ∧ d'.pure = true ∧ d' = .tup [poV m (L.set i s) G, .int .i64 v, .int .i64 0])
          refine Spec.by Try.func182 rfl (by decide) (by decide +kernel) rfl ?_
          (refine goA ?_)
          refine Call.mk ((is219 m L G w).only _ rfl (by rintro d rfl; rfl)) ?_; rintro d os' ⟨rfl, rfl⟩
          rw [decide_eq_true hw]
          (refine goA ?_)
          refine Call.mk ((is219 m L G (i : Int)).only _ rfl (by rintro d rfl; rfl)) ?_; rintro d os' ⟨rfl, rfl⟩
          rw [decide_eq_true hf]
          (refine goA ?_)
          refine Opt.of hg ?_
          (refine goA ?_)
          refine Nm.mk (s.map (D.int .i64)) (by rw [Int.toNat_natCast, List.take_length]; rfl) ?_
          (refine goA ?_)
          refine Call.mk ((with220 m L G i hi hL s).only _ rfl (by rintro d rfl; rfl)) ?_; rintro d os' ⟨rfl, rfl⟩
          (refine goA ?_)
          refine Ret.mk [.cell 6 157, .tmp 7, .tmp 8] rfl ?_; (refine goA ?_)
          exact ⟨_, View.same _, rfl, rfl⟩
    · rw [if_neg (fun h => hf h.2)]
      refine Spec.by Try.func182 rfl (by decide) (by decide +kernel) rfl ?_
      (refine goA ?_)
      refine Call.mk ((is219 m L G w).only _ rfl (by rintro d rfl; rfl)) ?_; rintro d os' ⟨rfl, rfl⟩
      rw [decide_eq_true hw]
      (refine goA ?_)
      refine Call.mk ((is219 m L G f).only _ rfl (by rintro d rfl; rfl)) ?_; rintro d os' ⟨rfl, rfl⟩
      rw [decide_eq_false hf]
      (refine goA ?_)
      refine Ret.mk [.cell 6 157, .tmp 7, .tmp 8] rfl ?_; (refine goA ?_)
      exact ⟨_, View.same _, rfl, rfl⟩
  · rw [if_neg (fun h => hw h.1)]
    refine Spec.by Try.func182 rfl (by decide) (by decide +kernel) rfl ?_
    (refine goA ?_)
    refine Call.mk ((is219 m L G w).only _ rfl (by rintro d rfl; rfl)) ?_; rintro d os' ⟨rfl, rfl⟩
    rw [decide_eq_false hw]
    (refine goA ?_)
    refine Call.mk ((is219 m L G f).only _ rfl (by rintro d rfl; rfl)) ?_; rintro d os' ⟨rfl, rfl⟩
    generalize decide (0 ≤ f ∧ f < (L.length : Int)) = bf
    cases bf <;> (refine goA ?_)
    · refine Ret.mk [.cell 6 157, .tmp 7, .tmp 8] rfl ?_; (refine goA ?_)
      exact ⟨_, View.same _, rfl, rfl⟩
    · refine Ret.mk [.cell 6 157, .tmp 7, .tmp 8] rfl ?_; (refine goA ?_)
      exact ⟨_, View.same _, rfl, rfl⟩
end Go.Proofs.Ytaplihoeephbeaa.V
end
section
namespace Go.Proofs.Ytaplihoeephbeaa.V
open Go Go.Proofs
set_option maxRecDepth 100000
set_option maxHeartbeats 40000000
theorem catL_snoc (L : List (List Int)) (i : Nat) (l : List Int) (h : L[i]? = some l) : catL (L.take (i + 1)) = catL (L.take i) ++ l := by
  rw [List.take_add_one, h]
  unfold catL
  rw [List.flatMap_append]; simp
theorem catL_take (L : List (List Int)) : ∀ i, (catL (L.take i)).length ≤ (catL L).length := by
  intro i
  have : catL L = catL (L.take i) ++ catL (L.drop i) := by
    unfold catL
    rw [← List.flatMap_append, List.take_append_drop]
  rw [this, List.length_append]; omega
theorem all175 (m : Int) (L : List (List Int)) (G : List Int) (hL : L.length ≤ 1000) (hc : (catL L ++ G).length ≤ 1000000) : Spec Try.prog 175 [poV m L G] [] (fun d os' => d = ints (catL L ++ G) ∧ os' = []) := by
  have hlm : (L.map ints).length = L.length := List.length_map ..
  have hGm : (G.map (D.int .i64)).length = G.length := List.length_map ..
  rw [List.length_append] at hc
  refine Spec.frz (post' := fun d => d = ints (catL L ++ G)) ?_
  refine Spec.by Try.func175 rfl (by decide) (by decide +kernel) rfl ?_
  (refine goR ?_)
  ((with_reducible refine Pt.go ?_); conv => whnf)
  (refine goR ?_)
  ((with_reducible refine Pt.go ?_); conv => whnf)
  (refine goR ?_)
  refine Pt.weak (Weak.trans (Weak.on [(1, .ptr 0 0 3 0 0), (3, .nils)] [one (.row 157 3 false [poV m L G])]) (Weak.nilrow 3 rfl 3 1 true)) ?_
  (refine goA ?_)
  refine Loop.inv (A := Nat) (List.range 23) (fun i => [(1, .ptr 0 0 3 0 0), (3, .sl 1 0 1 0 (catL (L.take i)).length none), (4, .int .i64 (i : Int))]) (fun i => [one (.row 157 3 false [poV m L G]), rowI (catL (L.take i))]) (fun i => i ≤ L.length) (fun i => L.length - i) 0 (Nat.zero_le _) ?_ ?_
  · exact Weak.start' rfl rfl tld
  intro i hi
  have hct := catL_take L i
  have hcm : ((catL (L.take i)).map (D.int .i64)).length = (catL (L.take i)).length := List.length_map ..
  (refine goA ?_)
  refine Br.dec (fun h0 => ?_) (fun h0 => ?_)
  · have hil : i < L.length := by omega
    obtain ⟨l, hl⟩ : ∃ l, L[i]? = some l := ⟨_, List.getElem?_eq_getElem hil⟩
    have hsn := catL_snoc L i l hl
    have hct2 := catL_take L (i + 1)
    rw [hsn, List.length_append] at hct2
    have hm2 : (l.map (D.int .i64)).length = l.length := List.length_map ..
    (refine goA ?_)
    refine Opt.of (get_map hl) ?_
    (refine goA ?_)
    refine ⟨_, _, _, ?_, ⟨i + 1, ?_, rfl, rfl, rfl⟩, ?_⟩
    · show L.length - (i + 1) < L.length - i; omega
    · exact hil
    · refine Weak.trans (Weak.only [(1, .ptr 0 0 3 0 0), (3, .sl 2 0 1 0 ((catL (L.take i)).length + (l.map (D.int .i64)).length) none), (4, .int .i64 ((i : Int) + 1))] [one (.row 157 3 false [poV m L G]), one .gone, one (.row 3 1 true ((catL (L.take i)).map (D.int .i64) ++ l.map (D.int .i64)))] (by kernel_rfl) tld) ?_
      rw [hm2, ← List.map_append, ← List.length_append, ← hsn]
      refine Weak.trans (Weak.shift 2 1 (by decide) (by simp) (Nat.le_of_ble_eq_true rfl) (Nat.le_of_ble_eq_true rfl) (fun j => by cases j <;> rfl) rfl) ?_
      refine Weak.backT 2 (by simp) (by first | rfl | kernel_rfl) (by kernel_rfl) (Nat.le_of_ble_eq_true rfl) tld (by kernel_rfl) (by kernel_rfl)
  · obtain rfl : i = L.length := by omega
    rw [List.take_length] at hcm hct ⊢
    (refine goA ?_)
    refine Ret.mk [.tmp 2] rfl ⟨_, View.slAll (f := false) (es' := (catL L ++ G).map (D.int .i64)) rfl rfl (by simp) (by simp) (by rw [List.map_append]; exact ViewL.same _) (pureL_map (fun _ => rfl) _), rfl, rfl⟩
theorem erase_split {l : List Int} {n : Int} {i : Nat} (h : l[i]? = some n) (hn : n ∉ l.take i) : l.erase n = l.take i ++ l.drop (i + 1) := by
  have hi := (List.getElem?_eq_some_iff.1 h).1
  have e : l = l.take i ++ n :: l.drop (i + 1) := by
    have : l[i] = n := (List.getElem?_eq_some_iff.1 h).2
    rw [← this, ← List.drop_eq_getElem_cons hi, List.take_append_drop]
  conv => lhs; rw [e]
  rw [List.erase_append_right _ hn, List.erase_cons_head]
theorem not_mem_snoc {l : List Int} {n v : Int} {i : Nat} (h : n ∉ l.take i) (hv : l[i]? = some v) (hne : v ≠ n) : n ∉ l.take (i + 1) := by
  rw [List.take_add_one, hv]
  intro hm
  rcases List.mem_append.1 hm with hm | hm
  · exact h hm
  · simp at hm; exact hne hm.symm
theorem cut222 (l : List Int) (n : Int) (hl : l.length ≤ 1000000) : Spec Try.prog 222 [ints l, .int .i64 n] [] (fun d os' => d = .tup [ints (l.erase n), .bool (decide (n ∈ l))] ∧ os' = []) := by
  have hlm : (l.map (D.int .i64)).length = l.length := List.length_map ..
  refine Spec.frz (post' := fun d => d = .tup [ints (l.erase n), .bool (decide (n ∈ l))]) ?_
  refine Spec.by Try.func222 rfl (by decide) (by decide +kernel) rfl ?_
  (refine goA ?_)
  refine Loop.inv (A := Nat) (List.range 32) (fun i => [(0, ints l), (1, .int .i64 n), (6, .int .i64 (i : Int))]) (fun _ => []) (fun i => i ≤ l.length ∧ n ∉ l.take i) (fun i => l.length - i) 0 ⟨Nat.zero_le _, by simp⟩ ?_ ?_
  · exact Weak.start' rfl rfl tld
  rintro i ⟨hi, hni⟩
  (refine goA ?_)
  refine Br.dec (fun h0 => ?_) (fun h0 => ?_)
  · have hil : i < l.length := by omega
    obtain ⟨v, hv⟩ : ∃ v, l[i]? = some v := ⟨_, List.getElem?_eq_getElem hil⟩
    (refine goA ?_)
    refine Opt.of (get_map hv) ?_
    (refine goA ?_)
    refine Br.dec (fun h1 => ?_) (fun h1 => ?_)
    · subst h1
      have he := erase_split hv hni
      have hmem : v ∈ l := List.mem_of_getElem? hv
      rw [he, decide_eq_true hmem]
      (refine goR ?_)
      ((with_reducible refine Pt.go ?_); conv => whnf)
      (refine goR ?_)
      refine Pt.weak (Weak.trans (Weak.on [(0, ints l), (6, .int .i64 (i : Int)), (7, .nils)] []) (Weak.nilrow 7 rfl 3 1 true)) ?_
      have hdl : ((l.take i).map (D.int .i64)).length = i := by rw [List.length_map, List.length_take]; omega
      have hrl : ((l.drop (i + 1)).map (D.int .i64)).length = l.length - (i + 1) := by rw [List.length_map, List.length_drop]
      (refine goA ?_)
      refine Nm.mk ((l.take i).map (D.int .i64)) (by rw [Int.toNat_natCast, List.map_take]; rfl) ?_
      (refine goA ?_)
      refine Nm.mk ((l.drop (i + 1)).map (D.int .i64)) (by rw [Int.toNat_natCast, List.take_length, List.map_drop]; congr 1) ?_
      (refine goA ?_)
      exact Ret.mk [.tmp 4, .tmp 5] rfl ⟨_, View.tup (.cons (View.slAll (f := false) (es' := (l.take i ++ l.drop (i + 1)).map (D.int .i64)) rfl rfl (by simp) (by simp) (by rw [List.map_append]; exact ViewL.same _) (pureL_map (fun _ => rfl) _)) (.cons (.same _) .nil)), rfl, rfl⟩
    · (refine goA ?_)
      refine ⟨_, _, _, ?_, ⟨i + 1, ?_, rfl, rfl, rfl⟩, ?_⟩
      · show l.length - (i + 1) < l.length - i; omega
      · exact ⟨hil, not_mem_snoc hni hv h1⟩
      · refine Weak.backT 0 (by simp) (by first | rfl | kernel_rfl) (by kernel_rfl) (Nat.le_of_ble_eq_true rfl) tld (by kernel_rfl) (by kernel_rfl)
  · obtain rfl : i = l.length := by omega
    rw [List.take_length] at hni
    rw [List.erase_of_not_mem hni, decide_eq_false hni]
    (refine goA ?_)
    exact Ret.mk [.tmp 4, .tmp 5] rfl ⟨_, View.same _, rfl, rfl⟩
/-- Pulling: the deques, the global queue, was there one. -/
def pullI (L : List (List Int)) (n : Int) : Option Nat := L.findIdx? (fun l => decide (n ∈ l))
def pullP (L : List (List Int)) (G : List Int) (n : Int) : List (List Int) × List Int × Bool := match pullI L n with
  | some i => (L.set i ((qAt L i).erase n), G, true)
  | none => (L, G.erase n, decide (n ∈ G))
theorem pull_some {L : List (List Int)} {G : List Int} {n : Int} {i : Nat} {l : List Int} (hl : L[i]? = some l) (hn : n ∈ l) (hb : ∀ j, j < i → n ∉ qAt L j) : pullP L G n = (L.set i (l.erase n), G, true) := by
  have hi := (List.getElem?_eq_some_iff.1 hl).1
  have e : pullI L n = some i := by
    unfold pullI
    rw [List.findIdx?_eq_some_iff_getElem]
    refine ⟨hi, ?_, fun j hj => ?_⟩
    · have : L[i] = l := (List.getElem?_eq_some_iff.1 hl).2
      rw [this]; exact decide_eq_true hn
    · have := hb j hj
      rw [qAt, List.getD_eq_getElem?_getD, List.getElem?_eq_getElem (by omega)] at this
      simpa using this
  have eq : qAt L i = l := by rw [qAt, List.getD_eq_getElem?_getD, hl]; rfl
  unfold pullP
  rw [e]
  dsimp only
  rw [eq]
theorem pull_none {L : List (List Int)} {G : List Int} {n : Int} (hb : ∀ j, j < L.length → n ∉ qAt L j) : pullP L G n = (L, G.erase n, decide (n ∈ G)) := by
  have e : pullI L n = none := by
    unfold pullI
    rw [List.findIdx?_eq_none_iff]
    intro l hl
    obtain ⟨j, hj, rfl⟩ := List.mem_iff_getElem.1 hl
    have := hb j hj
    rw [qAt, List.getD_eq_getElem?_getD, List.getElem?_eq_getElem hj] at this
    simpa using this
  unfold pullP
  rw [e]
theorem pull180 (m : Int) (L : List (List Int)) (G : List Int) (n : Int) (hL : L.length ≤ 1000) (hl : ∀ l ∈ L, l.length ≤ 1000) (hG : G.length ≤ 1000) : Spec Try.prog 180 [poV m L G, .int .i64 n] [] (fun d os' => d = .tup [poV m (pullP L G n).1 (pullP L G n).2.1, .bool (pullP L G n).2.2] ∧ os' = []) := by
  have hlm : (L.map ints).length = L.length := List.length_map ..
  refine Spec.frz (post' := fun d => d = .tup [poV m (pullP L G n).1 (pullP L G n).2.1, .bool (pullP L G n).2.2]) ?_
  refine Spec.by Try.func180 rfl (by decide) (by decide +kernel) rfl ?_
  (refine goA ?_)
  refine Loop.inv (A := Nat) (List.range 44) (fun i => [(1, .int .i64 n), (2, .ptr 0 0 3 0 0), (4, .ptr 1 0 3 0 0), (6, .int .i64 (i : Int))]) (fun i => [one (.row 157 3 false [poV m L G]), one (.row 157 3 false [.agg [.int .i64 0, .nils, .nils]])]) (fun i => i ≤ L.length ∧ ∀ j, j < i → n ∉ qAt L j) (fun i => L.length - i) 0 ⟨Nat.zero_le _, fun j h => by cases h⟩ ?_ ?_
  · exact Weak.start' rfl rfl tld
  rintro i ⟨hi, hb⟩
  (refine goA ?_)
  refine Br.dec (fun h0 => ?_) (fun h0 => ?_)
  · have hil : i < L.length := by omega
    obtain ⟨l, hli⟩ : ∃ l, L[i]? = some l := ⟨_, List.getElem?_eq_getElem hil⟩
    have hq : qAt L i = l := by rw [qAt, List.getD_eq_getElem?_getD, hli]; rfl
    have hll := hl l (List.mem_of_getElem? hli)
    by_cases hn : n ∈ l
    · rw [pull_some hli hn hb]
      (refine goA ?_)
      refine Opt.of (get_map hli) ?_
      (refine goA ?_)
      refine Call.mk ((cut222 l n (by omega)).only _ rfl (by rintro d rfl; rfl)) ?_; rintro d os' ⟨rfl, rfl⟩
      rw [decide_eq_true hn]
      (refine goA ?_)
      refine Call.mk ((with220 m L G i hil (by omega) (l.erase n)).only _ rfl (by rintro d rfl; rfl)) ?_; rintro d os' ⟨rfl, rfl⟩
      (refine goA ?_)
      refine Ret.mk [.cell 4 157, .tmp 5] rfl ?_; (refine goA ?_)
      exact ⟨_, View.same _, rfl, rfl⟩
    · (refine goA ?_)
      refine Opt.of (get_map hli) ?_
      (refine goA ?_)
      refine Call.mk ((cut222 l n (by omega)).only _ rfl (by rintro d rfl; rfl)) ?_; rintro d os' ⟨rfl, rfl⟩
      rw [decide_eq_false hn]
      (refine goA ?_)
      refine ⟨_, _, _, ?_, ⟨i + 1, ?_, rfl, rfl, rfl⟩, ?_⟩
      · show L.length - (i + 1) < L.length - i; omega
      · refine ⟨hil, fun j hj => ?_⟩
        by_cases hji : j = i
        · subst hji; rw [hq]; exact hn
        · exact hb j (by omega)
      · refine Weak.backT 2 (by simp) (by first | rfl | kernel_rfl) (by kernel_rfl) (Nat.le_of_ble_eq_true rfl) tld (by kernel_rfl) (by kernel_rfl)
  · obtain rfl : i = L.length := by omega
    rw [pull_none hb]
    (refine goA ?_)
    refine Call.mk ((cut222 G n (by omega)).only _ rfl (by rintro d rfl; rfl)) ?_; rintro d os' ⟨rfl, rfl⟩
    (refine goA ?_)
    refine Ret.mk [.cell 4 157, .tmp 5] rfl ?_; (refine goA ?_)
    exact ⟨_, View.same _, rfl, rfl⟩
end Go.Proofs.Ytaplihoeephbeaa.V
end
section
namespace Go.Proofs.Ytaplihoeephbeaa.V
open Go Go.Proofs
set_option maxRecDepth 100000
set_option maxHeartbeats 40000000
theorem index232 (l : List Int) (n : Int) (hl : l.length ≤ 1000000) : Spec Try.prog 232 [ints l, .int .i64 n] [] (fun d os' => ((n ∉ l ∧ d = .int .i64 (-1)) ∨ ∃ i : Nat, (l[i]? = some n ∧ n ∉ l.take i) ∧ d = .int .i64 i) ∧ os' = []) := by
  have hlm : (l.map (D.int .i64)).length = l.length := List.length_map ..
  refine Spec.by Try.func232 rfl (by decide) (by decide +kernel) rfl ?_
  (refine goA ?_)
  refine Loop.inv (A := Nat) (List.range 19) (fun i => [(0, ints l), (1, .int .i64 n), (7, .int .i64 (l.length : Int)), (8, .int .i64 (i : Int))]) (fun _ => []) (fun i => i ≤ l.length ∧ n ∉ l.take i) (fun i => l.length - i) 0 ⟨Nat.zero_le _, by simp⟩ ?_ ?_
  · refine Weak.trans (Weak.on [(0, ints l), (1, .int .i64 n), (7, .int .i64 ((l.map (D.int .i64)).length : Nat)), (8, .int .i64 0)] []) ?_
    rw [hlm]
    exact Weak.start' rfl rfl tld
  rintro i ⟨hi, hni⟩
  (refine goA ?_)
  refine Br.dec (fun h0 => ?_) (fun h0 => ?_)
  · have hil : i < l.length := by omega
    obtain ⟨v, hv⟩ : ∃ v, l[i]? = some v := ⟨_, List.getElem?_eq_getElem hil⟩
    (refine goA ?_)
    refine Opt.of (get_map hv) ?_
    (refine goA ?_)
    refine Br.dec (fun h1 => ?_) (fun h1 => ?_)
    · subst h1
      (refine goA ?_)
      exact Ret.mk [.tmp 4] rfl ⟨.inr ⟨i, ⟨hv, hni⟩, rfl⟩, rfl⟩
    · (refine goA ?_)
      refine ⟨_, _, _, ?_, ⟨i + 1, ?_, rfl, rfl, rfl⟩, ?_⟩
      · show l.length - (i + 1) < l.length - i; omega
      · exact ⟨hil, not_mem_snoc hni hv (fun e => h1 e.symm)⟩
      · refine Weak.backT 0 (by simp) (by first | rfl | kernel_rfl) (by kernel_rfl) (Nat.le_of_ble_eq_true rfl) tld (by kernel_rfl) (by kernel_rfl)
  · obtain rfl : i = l.length := by omega
    rw [List.take_length] at hni
    (refine goA ?_)
    exact Ret.mk [.tmp 4] rfl ⟨.inl ⟨hni, rfl⟩, rfl⟩
/-- slices.Delete, as the library has proved it, at this program's numbers. -/
def renDel : Go.Shelf.Ren := ⟨fun x => if x = 23 then 233 else x, fun x => if x = 22 then 23 else x, fun x => x⟩
theorem layDel : Go.Proofs.Lays2.n23 Try.prog renDel where
  mixed := mixed
  f23 := Try.func233.trans (congrArg some (by kernel_rfl))
  t0 := Try.underlying0
  a0 := Try.isAgg0
  z0 := Try.sizeOf0
  v0 := Try.zeroValue0
  t3 := Try.underlying3
  a3 := Try.isAgg3
  z3 := Try.sizeOf3
  v3 := Try.zeroValue3
  t4 := Try.underlying4
  a4 := Try.isAgg4
  z4 := Try.sizeOf4
  v4 := Try.zeroValue4
  t22 := Try.underlying23
  a22 := Try.isAgg23
  z22 := Try.sizeOf23
  v22 := Try.zeroValue23
  i3 := by kernel_rfl
theorem repL_ints {ρ : Pl} {I : Im} : ∀ (l : List Int) (us : List Value), repL ρ I (l.map (D.int .i64)) us → us = l.map (Value.int .i64)
  | [], us, h => by rw [List.map_nil, repL_nil] at h; rw [h]; rfl
  | x :: l, us, h => by
    obtain ⟨u, us', rfl, hu, h⟩ := repL_cons.1 h
    rw [rep] at hu
    rw [hu, repL_ints l us' h]; rfl
theorem ints_repL {ρ : Pl} {I : Im} : ∀ (l : List Int), repL ρ I (l.map (D.int .i64)) (l.map (Value.int .i64))
  | [] => repL_nil.2 rfl
  | x :: l => repL_cons.2 ⟨_, _, rfl, by rw [rep], ints_repL l⟩
theorem flat_ints (l : List Int) : flat (l.map (Value.int .i64)) = l.map (Value.int .i64) := by
  induction l with
  | nil => rfl
  | cons x l ih =>
    show (Value.int .i64 x).cells.toList ++ flat (l.map (Value.int .i64)) = _
    rw [ih]; rfl
theorem del233 (l : List Int) (i : Nat) (hi : i < l.length) : Spec Try.prog 233 [.sl 0 0 1 0 l.length none, .int .i64 i, .int .i64 ((i : Int) + 1)] [rowI l] (fun d os' => d = .sl 0 0 1 0 (l.take i ++ l.drop (i + 1)).length none ∧ os' = [rowI (l.take i ++ l.drop (i + 1))]) := by
  have hx : (l.take i ++ l.drop (i + 1)).length = l.length - 1 := by rw [List.length_append, List.length_take, List.length_drop]; omega
  obtain ⟨nw, hnw⟩ : ∃ nw, l.take i ++ l.drop (i + 1) ++ List.replicate (i + 1 - i) 0 = nw := ⟨_, rfl⟩
  have hnl : nw.length = l.length := by rw [← hnw, List.length_append, hx, List.length_replicate]; omega
  refine Spec.weak (post := fun d os' => d = .sl 0 0 1 0 (l.length - 1) none ∧ os' = [rowI nw]) ?_ (by
    rintro d os' ⟨rfl, rfl⟩
    refine ⟨_, _, Weak.cutRow 0 (l.length - 1) rfl, by rw [hx]; rfl, ?_⟩
    exact congrArg (fun r => ([one (.row 3 1 true r)] : Objs)) (by rw [← hnw, List.map_append]; exact List.take_left' (by rw [List.length_map]; exact hx)))
  refine ⟨Enters.of Try.func233 (by decide) rfl, fun ρ I w vs sat hr => ?_⟩
  obtain ⟨v0, vs, rfl, h0, hr⟩ := repL_cons.1 hr
  obtain ⟨v1, vs, rfl, h1, hr⟩ := repL_cons.1 hr
  obtain ⟨v2, vs, rfl, h2, hr⟩ := repL_cons.1 hr
  rw [repL_nil] at hr
  subst hr
  have h1 := rep_int h1
  have h2 := rep_int h2
  rw [rep] at h0
  subst h1 h2
  obtain ⟨p, A, c, hp, rfl, hlc, hcm, hc1, hc2, hA⟩ := h0
  have hne : Objs.at [rowI l] 0 0 ≠ .gone := by show O.row 3 1 true (l.map (D.int .i64)) ≠ .gone; simp
  obtain ⟨p', hp', hok⟩ := sat.ok 0 0 hne
  rw [hp] at hp'
  cases hp'
  obtain ⟨e1, e2, e3⟩ : (l.map (D.int .i64)).length ≤ p.2 ∧ p.2 ≤ maxLen ∧ (0 < p.2 → ∃ arr us, w.heap[p.1]? = some (.cells arr 3 (0, 0)) ∧ arr.size = p.2 * 1 ∧ repL bot I (l.map (D.int .i64)) us ∧ (∀ u ∈ us, Value.fine u 1) ∧ flat us <+: arr.toList) := hok
  rw [List.length_map] at e1
  have hpos : 0 < p.2 := by omega
  obtain ⟨arr, us, hh, hsz, hrep, hfine, hfl⟩ := e3 hpos
  obtain rfl := repL_ints l us hrep
  rw [flat_ints] at hfl
  have hAe := hA hpos
  subst hAe
  have hcell : ∀ j (hj : j < l.length), arr[j]? = some (.int .i64 l[j]) := fun j hj => by
    obtain ⟨t, ht⟩ := hfl
    rw [← Array.getElem?_toList, ← ht, List.getElem?_append_left (by rw [List.length_map]; exact hj), List.getElem?_map, List.getElem?_eq_getElem hj]; rfl
  have hH : Go.Sort.Holds (Value.int .i64) w p.1 0 l.toArray := fun j hj => by
    have hj' : j < l.length := by simpa using hj
    refine ⟨?_, ?_⟩
    · show (match w.heap[p.1]? with | some (.cells c _ _) => if (none : Option _).isSome then none else c[0 + j]? | _ => none) = _
      rw [hh]
      show arr[0 + j]? = _
      rw [Nat.zero_add, hcell j hj']
      simp [hj']
    · show (match w.heap[p.1]? with | some (.cells _ _ (lo, hi)) => decide (lo ≤ 0 + j) && decide (0 + j < hi) | _ => false) = false
      rw [hh]
      simp
  have key := Any.slices_Delete_int layDel p.1 0 c i (i + 1) l w hH hlc (Nat.le_trans hcm (by decide)) (Nat.le_succ i) hi
  have eL : l.length - (i + 1 - i) = l.length - 1 := by rw [Nat.add_sub_cancel_left]
  rw [hnw, eL] at key
  refine key.mono ?_
  rintro e w' ⟨rfl, q, rfl⟩
  have hother : ∀ b, b ≠ p.1 → (Go.Sort.putRow (Value.int .i64) (Go.Sort.ahead w q) p.1 0 nw.toArray).heap[b]? = w.heap[b]? := fun b hb => by
    show (w.heap.modify p.1 _)[b]? = _
    rw [Array.getElem?_modify, if_neg (fun e => hb e.symm)]
  have hthis : (Go.Sort.putRow (Value.int .i64) (Go.Sort.ahead w q) p.1 0 nw.toArray).heap[p.1]? = some (.cells (Go.Sort.putCells (Value.int .i64) 0 nw.toArray arr) 3 (0, 0)) := by
    show (w.heap.modify p.1 _)[p.1]? = _
    rw [Array.getElem?_modify, if_pos rfl, hh]; rfl
  refine ⟨_, .sl 0 0 1 0 (l.length - 1) none, [rowI nw], ρ, I, rfl, ⟨rfl, rfl⟩, ?_, ?_, ?_⟩
  · refine Sat.write (i := 0) (j := 0) sat hne hp hpos hother (.row 3 1 true (nw.map (D.int .i64))) (fun _ => ⟨by rw [List.length_map, hnl]; exact e1, e2, fun _ => ⟨_, nw.map (Value.int .i64), hthis, ?_, ints_repL nw, ?_, ?_⟩⟩)
    · rw [← hsz]; unfold Go.Sort.putCells; simp
    · intro u hu
      obtain ⟨x, _, rfl⟩ := List.mem_map.1 hu
      exact ⟨rfl, fun c hc => by simp [Value.cells] at hc; subst hc; rfl⟩
    · rw [flat_ints]
      refine ⟨(Go.Sort.putCells (Value.int .i64) 0 nw.toArray arr).toList.drop nw.length, ?_⟩
      apply List.ext_getElem?
      intro k
      rcases Nat.lt_or_ge k nw.length with hk | hk
      · rw [List.getElem?_append_left (by rw [List.length_map]; exact hk), List.getElem?_map, List.getElem?_eq_getElem hk, Array.getElem?_toList]
        unfold Go.Sort.putCells
        rw [Array.getElem?_mapIdx, hcell k (by omega)]
        simp [hk]
      · rw [List.getElem?_append_right (by rw [List.length_map]; exact hk), List.length_map, List.getElem?_drop, show nw.length + (k - nw.length) = k by omega]
  · exact Fr.write (Γ := { ρ := ρ, I := I, os := [rowI l], w := w }) (w' := Go.Sort.putRow (Value.int .i64) (Go.Sort.ahead w q) p.1 0 nw.toArray) (Fr.refl ρ I [rowI l] w) ⟨rfl, rfl, rfl, by show w.heap.size ≤ (w.heap.modify p.1 _).size; rw [Array.size_modify]; exact Nat.le_refl _⟩ (i := 0) (j := 0) hne hp hpos hother (.row 3 1 true (nw.map (D.int .i64)))
  · rw [rep]
    exact ⟨p, _, c, hp, rfl, by omega, hcm, hc1, hc2, fun _ => rfl⟩
end Go.Proofs.Ytaplihoeephbeaa.V
end
section
namespace Go.Proofs.Ytaplihoeephbeaa.V
open Go Go.Proofs Go.RowKit
/-- The names of a callee that knows the first n objects alone: behind them k more lie. -/
def gap (n k : Nat) (i j : Nat) : Nat × Nat := if i < n then (i, j) else (i + k, j)
theorem gap_lt {n k i : Nat} (j : Nat) (h : i < n) : gap n k i j = (i, j) := if_pos h
theorem gap_ge {n k i : Nat} (j : Nat) (h : n ≤ i) : gap n k i j = (i + k, j) := if_neg (by omega)
@[reducible] def gapO (n : Nat) (r os1 : Objs) : Objs := (os1.take n).map (Fam.mapId (gap n r.length)) ++ (r ++ (os1.drop n).map (Fam.mapId (gap n r.length)))
theorem map_at (φ : Nat → Nat → Nat × Nat) (os : Objs) (i j : Nat) : Objs.at (os.map (Fam.mapId φ)) i j = (os.at i j).mapId φ := by
  unfold Objs.at
  rw [List.getD_eq_getElem?_getD, List.getD_eq_getElem?_getD, List.getElem?_map]
  cases os[i]? with
  | none => rfl
  | some F => exact fam_mapId_at φ F j
theorem drop_at (os : Objs) (n i j : Nat) : Objs.at (os.drop n) i j = os.at (n + i) j := by
  unfold Objs.at
  rw [List.getD_eq_getElem?_getD, List.getD_eq_getElem?_getD, List.getElem?_drop]
theorem Spec.behindN {P : Program} {f : FuncId} {args : List D} {A : Objs} {post : D → Objs → Prop} (h : Spec P f args A post) (r : Objs) (hargs : D.ltL A.length args = true) (hA : ∀ i j, (A.at i j).lt A.length = true) :
    Spec P f args (A ++ r) (fun d os' => ∃ d1 os1, post d1 os1 ∧ d = d1.mapId (gap A.length r.length) ∧ os' = gapO A.length r os1) := by
  refine ⟨h.1, fun ρ I w vs sat hr => ?_⟩
  obtain ⟨n, hn⟩ : ∃ n, A.length = n := ⟨_, rfl⟩
  obtain ⟨k, hk⟩ : ∃ k, r.length = k := ⟨_, rfl⟩
  obtain ⟨φ, hφ⟩ : ∃ φ, gap n k = φ := ⟨_, rfl⟩
  unfold gapO
  rw [hn, hk, hφ]
  rw [hn] at hargs hA
  have φl : ∀ i j, i < n → φ i j = (i, j) := fun i j hi => by rw [← hφ]; exact gap_lt j hi
  have φg : ∀ i j, n ≤ i → φ i j = (i + k, j) := fun i j hi => by rw [← hφ]; exact gap_ge j hi
  obtain ⟨ρ1, hρ1⟩ : ∃ ρ1 : Pl, ρ1 = fun i j => if i < n then ρ i j else none := ⟨_, rfl⟩
  have e1 : ∀ i j, i < n → ρ1 i j = ρ i j := fun i j hi => by rw [hρ1]; simp [hi]
  have e0 : ∀ i j, n ≤ i → ρ1 i j = none := fun i j hi => by rw [hρ1]; simp [Nat.not_lt.2 hi]
  have ea : ∀ i j, i < n → (A ++ r).at i j = A.at i j := fun i j hi => at_lt _ _ _ (by omega)
  have lA : ∀ {i j}, A.at i j ≠ .gone → i < n := fun h => by have := lt_of_at h; omega
  have sat1 : Sat ρ1 I A w := by
    refine ⟨sat.im, fun i j hne => ?_, fun i j i' j' p p' hne hne' hp hp' hpos hpos' he => ?_, ?_, fun i j hi => e0 i j (by omega)⟩
    · have hi := lA hne
      obtain ⟨p, hp, hok⟩ := sat.ok i j (by rw [ea i j hi]; exact hne)
      rw [ea i j hi] at hok
      exact ⟨p, by rw [e1 i j hi]; exact hp, objOk_lt' e1 (hA i j) hok⟩
    · have hi := lA hne
      have hi' := lA hne'
      rw [e1 _ _ hi] at hp
      rw [e1 _ _ hi'] at hp'
      exact sat.inj i j i' j' p p' (by rw [ea i j hi]; exact hne) (by rw [ea i' j' hi']; exact hne') hp hp' hpos hpos' he
    · rintro b ⟨i, j, p, hne, hp, hpos, rfl⟩
      have hi := lA hne
      rw [e1 _ _ hi] at hp
      exact sat.apart _ ⟨i, j, p, by rw [ea i j hi]; exact hne, hp, hpos, rfl⟩
  have hfoot1 : ∀ b, foot ρ1 A b → foot ρ (A ++ r) b := by
    rintro b ⟨i, j, p, hne, hp, hpos, rfl⟩
    have hi := lA hne
    rw [e1 _ _ hi] at hp
    exact ⟨i, j, p, by rw [ea i j hi]; exact hne, hp, hpos, rfl⟩
  have hr1 : repL ρ1 I args vs := repL_lt e1 args vs hargs hr
  refine (h.2 ρ1 I w vs sat1 hr1).mono ?_
  rintro e w' ⟨v, d, os1, ρ2, I', rfl, hpost, sat2, fr2, hrv⟩
  have hl1 : n ≤ os1.length := by have := fr2.len; omega
  obtain ⟨os', hos'⟩ : ∃ os' : Objs, (os1.take n).map (Fam.mapId φ) ++ (r ++ (os1.drop n).map (Fam.mapId φ)) = os' := ⟨_, rfl⟩
  have hlen : os'.length = os1.length + k := by
    rw [← hos']
    simp only [List.length_append, List.length_map, List.length_take, List.length_drop, hk]
    omega
  have htl : ((os1.take n).map (Fam.mapId φ)).length = n := by rw [List.length_map, List.length_take]; omega
  have b1 : ∀ i j, i < n → os'.at i j = (os1.at i j).mapId φ := fun i j hi => by
    rw [← hos', at_lt _ _ _ (by omega), map_at, at_take, if_pos hi]
  have b2 : ∀ i j, n ≤ i → i < n + k → os'.at i j = (A ++ r).at i j := fun i j hi hk' => by
    rw [← hos', at_r _ _ _ (by omega), htl, at_lt _ _ _ (by omega), at_r _ _ _ (by omega), hn]
  have b3 : ∀ i j, n + k ≤ i → os'.at i j = (os1.at (i - k) j).mapId φ := fun i j hi => by
    rw [← hos', at_r _ _ _ (by omega), htl, at_r _ _ _ (by omega), hk, map_at, drop_at, show n + (i - n - k) = i - k by omega]
  obtain ⟨ρ', hρ'⟩ : ∃ ρ' : Pl, ρ' = fun i j => if i < n + k then ρ i j else ρ2 (i - k) j := ⟨_, rfl⟩
  have f1 : ∀ i j, i < n + k → ρ' i j = ρ i j := fun i j hi => by rw [hρ']; simp [hi]
  have f2 : ∀ i j, n + k ≤ i → ρ' i j = ρ2 (i - k) j := fun i j hi => by rw [hρ']; simp [Nat.not_lt.2 hi]
  have up : ∀ a b p, ρ2 a b = some p → ρ' (φ a b).1 (φ a b).2 = some p := by
    intro a b p hp
    rcases Nat.lt_or_ge a n with ha | ha
    · rw [φl a b ha]
      dsimp only
      rw [f1 a b (by omega)]
      rw [fr2.same a b (by omega), e1 a b ha] at hp
      exact hp
    · rw [φg a b ha]
      dsimp only
      rw [f2 _ _ (by omega), Nat.add_sub_cancel]
      exact hp
  have hle : ρ.le ρ' := by
    intro i j p hp
    rcases Nat.lt_or_ge i (n + k) with hi | hi
    · rw [f1 i j hi]; exact hp
    · rw [sat.dom i j (by rw [List.length_append]; omega)] at hp; cases hp
  have kinds : ∀ i j, os'.at i j ≠ .gone → (n ≤ i ∧ i < n + k ∧ (A ++ r).at i j ≠ .gone ∧ os'.at i j = (A ++ r).at i j ∧ ρ' i j = ρ i j) ∨
      (∃ c, os1.at c j ≠ .gone ∧ φ c j = (i, j) ∧ os'.at i j = (os1.at c j).mapId φ ∧ ρ' i j = ρ2 c j) := by
    intro i j hne
    rcases Nat.lt_or_ge i n with hi | hi
    · right
      have := b1 i j hi
      refine ⟨i, fun e => hne (by rw [this, e]; rfl), φl i j hi, this, ?_⟩
      rw [f1 i j (by omega), fr2.same i j (by omega), e1 i j hi]
    · rcases Nat.lt_or_ge i (n + k) with hi2 | hi2
      · left
        have := b2 i j hi hi2
        exact ⟨hi, hi2, by rw [← this]; exact hne, this, f1 i j hi2⟩
      · right
        have := b3 i j hi2
        refine ⟨i - k, fun e => hne (by rw [this, e]; rfl), ?_, this, f2 i j hi2⟩
        rw [φg _ _ (by omega), Nat.sub_add_cancel (by omega)]
  have nofoot : ∀ i j p, n ≤ i → (A ++ r).at i j ≠ .gone → ρ i j = some p → 0 < p.2 → ¬ foot ρ1 A p.1 := by
    rintro i j p hi hne hp hpos ⟨i', j', p', hne', hp', hpos', he⟩
    have hi' := lA hne'
    rw [e1 _ _ hi'] at hp'
    have := sat.inj i' j' i j p' p (by rw [ea i' j' hi']; exact hne') hne hp' hp hpos' hpos he
    omega
  have cross : ∀ i j c j' p p', n ≤ i → (A ++ r).at i j ≠ .gone → ρ i j = some p → 0 < p.2 → os1.at c j' ≠ .gone → ρ2 c j' = some p' → 0 < p'.2 → p.1 = p'.1 → False := by
    intro i j c j' p p' hi hne hp hpos hne' hp' hpos' he
    rcases fr2.obnew p'.1 ⟨c, j', p', hne', hp', hpos', rfl⟩ with h' | h'
    · exact nofoot i j p hi hne hp hpos (he ▸ h')
    · have := sat.foot_lt ⟨i, j, p, hne, hp, hpos, rfl⟩
      omega
  have sat' : Sat ρ' I' os' w' := by
    refine ⟨sat2.im, fun i j hne => ?_, fun i j i' j' p p' hne hne' hp hp' hpos hpos' he => ?_, ?_, fun i j hi => ?_⟩
    · rcases kinds i j hne with ⟨hi, hi2, hn1, hate, hρe⟩ | ⟨c, hn1, hφc, hate, hρe⟩
      · obtain ⟨p, hp, hok⟩ := sat.ok i j hn1
        refine ⟨p, by rw [hρe]; exact hp, ?_⟩
        rw [hate]
        exact objOk_mono hle fr2.imle (fun hpos => fr2.kept p.1 (objOk_lt hn1 hpos hok) (nofoot i j p hi hn1 hp hpos)) hok
      · obtain ⟨p, hp, hok⟩ := sat2.ok c j hn1
        refine ⟨p, by rw [hρe]; exact hp, ?_⟩
        rw [hate]
        exact obj_up up hok
    · rcases kinds i j hne with ⟨hi, hi2, hn1, hate, hρe⟩ | ⟨c, hn1, hφc, hate, hρe⟩ <;> rcases kinds i' j' hne' with ⟨hi', hi2', hn1', hate', hρe'⟩ | ⟨c', hn1', hφc', hate', hρe'⟩
      · rw [hρe] at hp; rw [hρe'] at hp'
        exact sat.inj i j i' j' p p' hn1 hn1' hp hp' hpos hpos' he
      · rw [hρe] at hp; rw [hρe'] at hp'
        exact (cross i j c' j' p p' hi hn1 hp hpos hn1' hp' hpos' he).elim
      · rw [hρe] at hp; rw [hρe'] at hp'
        exact (cross i' j' c j p' p hi' hn1' hp' hpos' hn1 hp hpos he.symm).elim
      · rw [hρe] at hp; rw [hρe'] at hp'
        have := sat2.inj c j c' j' p p' hn1 hn1' hp hp' hpos hpos' he
        rw [this.1, this.2, hφc'] at hφc
        injection hφc with x y
        exact ⟨x.symm, this.2⟩
    · rintro b ⟨i, j, p, hne, hp, hpos, rfl⟩
      rcases kinds i j hne with ⟨hi, hi2, hn1, hate, hρe⟩ | ⟨c, hn1, hφc, hate, hρe⟩
      · rw [hρe] at hp
        have hfa : foot ρ (A ++ r) p.1 := ⟨i, j, p, hn1, hp, hpos, rfl⟩
        cases hb : I' p.1 with
        | none => rfl
        | some o =>
          exfalso
          rcases fr2.imnew p.1 (by rw [hb]; simp) with h' | h' | h'
          · exact h' (sat.apart _ hfa)
          · exact nofoot i j p hi hn1 hp hpos h'
          · have := sat.foot_lt hfa
            omega
      · rw [hρe] at hp
        exact sat2.apart _ ⟨c, j, p, hn1, hp, hpos, rfl⟩
    · rw [f2 i j (by omega)]
      exact sat2.dom _ _ (by omega)
  refine ⟨v, d.mapId φ, os', ρ', I', rfl, ⟨d, os1, hpost, rfl, hos'.symm⟩, sat', ⟨fr2.wos, fr2.tape, fr2.output, fr2.size, fun b hb hf => fr2.kept b hb (fun h' => hf (hfoot1 b h')), by rw [hlen, List.length_append]; omega, fun i j hi => f1 i j (by rw [List.length_append] at hi; omega), fr2.imle, fun b hb => ?_, fun b hb => ?_⟩, rep_up up d v hrv⟩
  · rcases fr2.imnew b hb with h' | h' | h'
    · exact .inl h'
    · exact .inr (.inl (hfoot1 b h'))
    · exact .inr (.inr h')
  · obtain ⟨i, j, p, hne, hp, hpos, rfl⟩ := hb
    rcases kinds i j hne with ⟨hi, hi2, hn1, hate, hρe⟩ | ⟨c, hn1, hφc, hate, hρe⟩
    · rw [hρe] at hp
      exact .inl ⟨i, j, p, hn1, hp, hpos, rfl⟩
    · rw [hρe] at hp
      rcases fr2.obnew p.1 ⟨c, j, p, hn1, hp, hpos, rfl⟩ with h' | h'
      · exact .inl (hfoot1 _ h')
      · exact .inr h'
theorem gapO_lt (n : Nat) (r os1 : Objs) (h : n ≤ os1.length) {i : Nat} (j : Nat) (hi : i < n) : Objs.at (gapO n r os1) i j = (os1.at i j).mapId (gap n r.length) := by
  rw [at_lt _ _ _ (by rw [List.length_map, List.length_take]; omega), map_at, at_take, if_pos hi]
theorem gapO_mid (n : Nat) (r os1 : Objs) (h : n ≤ os1.length) {i : Nat} (j : Nat) (hi : i < r.length) : Objs.at (gapO n r os1) (n + i) j = r.at i j := by
  have hl : ((os1.take n).map (Fam.mapId (gap n r.length))).length = n := by rw [List.length_map, List.length_take]; omega
  rw [at_r _ _ _ (by omega), hl, at_lt _ _ _ (by omega), Nat.add_sub_cancel_left]
theorem gapO_ge (n : Nat) (r os1 : Objs) (h : n ≤ os1.length) (i j : Nat) : Objs.at (gapO n r os1) (n + r.length + i) j = (os1.at (n + i) j).mapId (gap n r.length) := by
  have hl : ((os1.take n).map (Fam.mapId (gap n r.length))).length = n := by rw [List.length_map, List.length_take]; omega
  rw [at_r _ _ _ (by omega), hl, at_r _ _ _ (by omega), map_at, drop_at, show n + r.length + i - n - r.length = i by omega]
end Go.Proofs.Ytaplihoeephbeaa.V
end
section
namespace Go.Proofs.Ytaplihoeephbeaa.V
open Go Go.Proofs Go.RowKit
section
variable {ρ ρ1 : Pl} {I : Im} {φ : Nat → Nat → Nat × Nat} {n : Nat}
mutual
theorem repE_down (h : ∀ k j, k < n → ρ1 k j = ρ (φ k j).1 (φ k j).2) : ∀ (d : D) (v : Value), d.lt n = true → rep ρ I (d.mapId φ) v → rep ρ1 I d v
  | .int _ _, _, _, hr | .bool _, _, _, hr | .str _, _, _, hr | .nilp, _, _, hr | .nils, _, _, hr | .nilf, _, _, hr | .junk, _, _, hr => by simp only [D.mapId] at hr; rw [rep] at hr ⊢; exact hr
  | .pel x off, _, _, hr => by simp only [D.mapId] at hr; rw [rep] at hr ⊢; exact hr
  | .lst s fl xs, _, _, hr => by simp only [D.mapId] at hr; rw [rep] at hr ⊢; exact hr
  | .ptr i j s e off, _, hs, hr => by
    simp only [D.mapId] at hr
    rw [rep] at hr ⊢
    have h1 := Nat.le_of_ble_eq_true hs
    obtain ⟨p, hp, hr⟩ := hr
    exact ⟨p, (h i j h1).trans hp, hr⟩
  | .sl i j s lo len cap, _, hs, hr => by
    simp only [D.mapId] at hr
    rw [rep] at hr ⊢
    have h1 := Nat.le_of_ble_eq_true hs
    obtain ⟨p, A, c, hp, hr⟩ := hr
    exact ⟨p, A, c, (h i j h1).trans hp, hr⟩
  | .mp i j, _, hs, hr | .yl i j, _, hs, hr => by
    simp only [D.mapId] at hr
    rw [rep] at hr ⊢
    have h1 := Nat.le_of_ble_eq_true hs
    obtain ⟨p, hp, hr⟩ := hr
    exact ⟨p, (h i j h1).trans hp, hr⟩
  | .agg cs, _, hs, hr => by simp only [D.mapId] at hr; rw [rep] at hr ⊢; obtain ⟨a, e, hr⟩ := hr; exact ⟨a, e, repLE_down h cs _ (by simpa [D.lt] using hs) hr⟩
  | .tup cs, _, hs, hr => by simp only [D.mapId] at hr; rw [rep] at hr ⊢; obtain ⟨a, e, hr⟩ := hr; exact ⟨a, e, repLE_down h cs _ (by simpa [D.lt] using hs) hr⟩
  | .fn g x y, _, hs, hr => by
    simp only [D.mapId] at hr; rw [rep] at hr ⊢; obtain ⟨a, b, e, h1, h2⟩ := hr
    have hs' : D.ltL n x = true ∧ D.ltL n y = true := by simpa [D.lt] using hs
    exact ⟨a, b, e, repLE_down h x _ hs'.1 h1, repLE_down h y _ hs'.2 h2⟩
theorem repLE_down (h : ∀ k j, k < n → ρ1 k j = ρ (φ k j).1 (φ k j).2) : ∀ (ds : List D) (vs : List Value), D.ltL n ds = true → repL ρ I (D.mapIdL φ ds) vs → repL ρ1 I ds vs
  | [], _, _, hr => by simp only [D.mapIdL] at hr; rw [repL_nil] at hr ⊢; exact hr
  | d :: ds, _, hs, hr => by
    simp only [D.mapIdL] at hr
    obtain ⟨u, us', rfl, hu, hr⟩ := repL_cons.1 hr
    have hs' : d.lt n = true ∧ D.ltL n ds = true := by simpa [D.ltL] using hs
    exact repL_cons.2 ⟨u, us', rfl, repE_down h d u hs'.1 hu, repLE_down h ds us' hs'.2 hr⟩
end
theorem objE_down (h : ∀ k j, k < n → ρ1 k j = ρ (φ k j).1 (φ k j).2) {w : World} {p : Nat × Nat} {o : O} (hs : o.lt n = true) (ho : objOk ρ I w p (o.mapId φ)) : objOk ρ1 I w p o := by
  cases o with
  | gone => trivial
  | row t sz pr es =>
    cases pr with
    | false =>
      obtain ⟨h1, h2, h3⟩ := ho
      refine ⟨by rw [mapIdL_length] at h1; exact h1, h2, fun hp => ?_⟩
      obtain ⟨arr, us, g1, g2, g3, g4, g5⟩ := h3 hp
      exact ⟨arr, us, g1, g2, repLE_down h _ _ hs g3, g4, g5⟩
    | true => exact ho
  | map es =>
    obtain ⟨hp, ents, clk, g1, us, g2, g3⟩ := ho
    rw [List.map_map] at g2
    refine ⟨hp, ents, clk, g1, us, repLE_down h _ _ hs (by rw [mapIdL_map]; exact g2), ?_⟩
    rw [g3]
    have : ∀ (es' : List (Int × D)) (us : List Value), ((es'.map fun p => (p.1, p.2.mapId φ)).zip us).map (fun x => (Value.int .i64 x.1.1, x.2)) = (es'.zip us).map (fun x => (Value.int .i64 x.1.1, x.2)) := by
      intro es'
      induction es' with
      | nil => intro us; simp
      | cons e es' ih => intro us; cases us with
        | nil => simp
        | cons u us => simp [ih us]
    exact this es us
  | loop r st pe ds =>
    obtain ⟨hp, g1, g2⟩ := ho
    rw [List.map_map, List.map_map] at g2
    exact ⟨hp, g1, repLE_down h _ _ hs (by rw [mapIdLN_map]; exact g2)⟩
end
/-- Where a callee's families lie among the caller's: σ; new ones behind all. -/
def emb (σ : List Nat) (n : Nat) (k j : Nat) : Nat × Nat := match σ[k]? with
  | some s => (s, j)
  | none => (n + (k - σ.length), j)
def embP (φ : Nat → Nat → Nat × Nat) (os1 : Objs) : List Nat → Nat → Objs → Objs
  | [], _, os => os
  | s :: σ, k, os => embP φ os1 σ (k + 1) (os.set s ((famAt os1 k).mapId φ))
@[reducible] def embO (σ : List Nat) (os os1 : Objs) : Objs := embP (emb σ os.length) os1 σ 0 os ++ (os1.drop σ.length).map (Fam.mapId (emb σ os.length))
theorem embP_len (φ : Nat → Nat → Nat × Nat) (os1 : Objs) : ∀ (σ : List Nat) (k : Nat) (os : Objs), (embP φ os1 σ k os).length = os.length
  | [], _, _ => rfl
  | s :: σ, k, os => by rw [embP, embP_len φ os1 σ, List.length_set]
theorem set_at (os : Objs) (s : Nat) (F : Fam) (i j : Nat) : Objs.at (os.set s F) i j = if s = i ∧ s < os.length then F.at j else os.at i j := by
  unfold Objs.at
  rw [List.getD_eq_getElem?_getD, List.getD_eq_getElem?_getD, List.getElem?_set]
  by_cases h : s = i
  · subst h
    by_cases h2 : s < os.length
    · simp [h2]
    · simp [h2]
  · simp [h]
theorem embP_out (φ : Nat → Nat → Nat × Nat) (os1 : Objs) : ∀ (σ : List Nat) (k : Nat) (os : Objs) {i : Nat} (j : Nat), i ∉ σ → (embP φ os1 σ k os).at i j = os.at i j
  | [], _, _, _, _, _ => rfl
  | s :: σ, k, os, i, j, h => by
    rw [embP, embP_out φ os1 σ (k + 1) _ j (fun hm => h (List.mem_cons_of_mem _ hm)), set_at, if_neg (fun e => h (by rw [← e.1]; exact List.mem_cons_self))]
theorem famAt_at (os : Objs) (k j : Nat) : (famAt os k).at j = os.at k j := rfl
theorem embP_in (φ : Nat → Nat → Nat × Nat) (os1 : Objs) : ∀ (σ : List Nat) (k : Nat) (os : Objs) {m s : Nat} (j : Nat), σ.Nodup → σ[m]? = some s → s < os.length → (embP φ os1 σ k os).at s j = (os1.at (k + m) j).mapId φ
  | [], _, _, _, _, _, _, h, _ => by cases h
  | x :: σ, k, os, 0, s, j, hn, h, hl => by
    simp at h; subst h
    rw [List.nodup_cons] at hn
    rw [embP, embP_out φ os1 σ (k + 1) _ j hn.1, set_at, if_pos ⟨rfl, hl⟩, fam_mapId_at, famAt_at]; rfl
  | x :: σ, k, os, m + 1, s, j, hn, h, hl => by
    rw [List.nodup_cons] at hn
    rw [embP, embP_in φ os1 σ (k + 1) _ j hn.2 (by simpa using h) (by rw [List.length_set]; exact hl), show k + 1 + m = k + (m + 1) by omega]
/-- A contract over some objects (families, too), among others. -/
theorem Spec.embed {P : Program} {f : FuncId} {args : List D} {os1 : Objs} {post : D → Objs → Prop} (h : Spec P f args os1 post) (os : Objs) (σ : List Nat) (hlen : σ.length = os1.length) (hnd : σ.Nodup)
    (hin : ∀ (k s : Nat), σ[k]? = some s → s < os.length ∧ ∀ j, os.at s j = (os1.at k j).mapId (emb σ os.length) ∧ (os1.at k j).lt σ.length = true) (hargs : D.ltL σ.length args = true) :
    Spec P f (D.mapIdL (emb σ os.length) args) os (fun d os' => ∃ d1 os1', post d1 os1' ∧ d = d1.mapId (emb σ os.length) ∧ os' = embO σ os os1') := by
  refine ⟨h.1, fun ρ I w vs sat hr => ?_⟩
  obtain ⟨φ, hφ⟩ : ∃ φ, φ = emb σ os.length := ⟨_, rfl⟩
  unfold embO
  rw [← hφ] at hr hin ⊢
  have hφin : ∀ (k s : Nat), σ[k]? = some s → ∀ j, φ k j = (s, j) := fun k s hk j => by rw [hφ]; simp [emb, hk]
  have hφout : ∀ k j, σ.length ≤ k → φ k j = (os.length + (k - σ.length), j) := fun k j hk => by
    rw [hφ]; unfold emb; rw [List.getElem?_eq_none hk]
  obtain ⟨ρ1, hρ1⟩ : ∃ ρ1 : Pl, ρ1 = fun k j => if k < σ.length then ρ (φ k j).1 (φ k j).2 else none := ⟨_, rfl⟩
  have e1 : ∀ k j, k < σ.length → ρ1 k j = ρ (φ k j).1 (φ k j).2 := fun k j hk => by rw [hρ1]; simp [hk]
  have e0 : ∀ k j, ¬ k < σ.length → ρ1 k j = none := fun k j hk => by rw [hρ1]; simp only [if_neg hk]
  have get : ∀ k, k < σ.length → ∃ s, σ[k]? = some s ∧ ∀ j, φ k j = (s, j) := fun k hk => ⟨σ[k], List.getElem?_eq_getElem hk, hφin k _ (List.getElem?_eq_getElem hk)⟩
  -- down and up
  have dn : ∀ (d : D) (v : Value), d.lt σ.length = true → rep ρ I (d.mapId φ) v → rep ρ1 I d v := fun d v hd hv => repE_down (fun k j hk => e1 k j hk) d v hd hv
  have dnL : ∀ (ds : List D) (vs : List Value), D.ltL σ.length ds = true → repL ρ I (D.mapIdL φ ds) vs → repL ρ1 I ds vs := fun ds vs hd hv => repLE_down (fun k j hk => e1 k j hk) ds vs hd hv
  have alive : ∀ k j, os1.at k j ≠ .gone → k < σ.length ∧ os.at (φ k j).1 (φ k j).2 = (os1.at k j).mapId φ ∧ (os1.at k j).lt σ.length = true ∧ os.at (φ k j).1 (φ k j).2 ≠ .gone := by
    intro k j hne
    have hk : k < σ.length := by rw [hlen]; exact lt_of_at hne
    obtain ⟨s, hs, hse⟩ := get k hk
    obtain ⟨h1, h2⟩ := hin k s hs
    obtain ⟨h2, h3⟩ := h2 j
    rw [hse j]
    exact ⟨hk, h2, h3, by rw [h2]; exact fun e => hne (O.mapId_gone.1 e)⟩
  have sat1 : Sat ρ1 I os1 w := by
    refine ⟨sat.im, fun k j hne => ?_, fun k j k' j' p p' hne hne' hp hp' hpos hpos' he => ?_, ?_, fun k j hk => e0 k j (by omega)⟩
    · obtain ⟨hk, h2, h3, h4⟩ := alive k j hne
      obtain ⟨p, hp, hok⟩ := sat.ok _ _ h4
      refine ⟨p, by rw [e1 k j hk]; exact hp, ?_⟩
      rw [h2] at hok
      exact objE_down (fun k j hk => e1 k j hk) h3 hok
    · obtain ⟨hk, h2, h3, h4⟩ := alive k j hne
      obtain ⟨hk', h2', h3', h4'⟩ := alive k' j' hne'
      rw [e1 k j hk] at hp
      rw [e1 k' j' hk'] at hp'
      have := sat.inj _ _ _ _ p p' h4 h4' hp hp' hpos hpos' he
      obtain ⟨q, hq, hqe⟩ := get k hk
      obtain ⟨q', hq', hqe'⟩ := get k' hk'
      rw [hqe j, hqe' j'] at this
      have hqq : q = q' := this.1
      subst hqq
      exact ⟨(List.getElem?_inj hk hnd).1 (hq.trans hq'.symm), this.2⟩
    · rintro b ⟨k, j, p, hne, hp, hpos, rfl⟩
      obtain ⟨hk, h2, h3, h4⟩ := alive k j hne
      rw [e1 k j hk] at hp
      exact sat.apart _ ⟨_, _, p, h4, hp, hpos, rfl⟩
  have hfoot1 : ∀ b, foot ρ1 os1 b → foot ρ os b := by
    rintro b ⟨k, j, p, hne, hp, hpos, rfl⟩
    obtain ⟨hk, h2, h3, h4⟩ := alive k j hne
    rw [e1 k j hk] at hp
    exact ⟨_, _, p, h4, hp, hpos, rfl⟩
  have hr1 : repL ρ1 I args vs := dnL args vs hargs hr
  refine (h.2 ρ1 I w vs sat1 hr1).mono ?_
  rintro e w' ⟨v, d1, os1', ρ1', I', rfl, hp, sat1', fr1, hrv⟩
  obtain ⟨ρ', hρ'⟩ : ∃ ρ' : Pl, ρ' = fun i j => if i < os.length then ρ i j else ρ1' (σ.length + (i - os.length)) j := ⟨_, rfl⟩
  have f1 : ∀ i j, i < os.length → ρ' i j = ρ i j := fun i j hi => by rw [hρ']; simp [hi]
  have f2 : ∀ i j, os.length ≤ i → ρ' i j = ρ1' (σ.length + (i - os.length)) j := fun i j hi => by rw [hρ']; simp [Nat.not_lt.2 hi]
  have up : ∀ k j p, ρ1' k j = some p → ρ' (φ k j).1 (φ k j).2 = some p := by
    intro k j p hkp
    rcases Nat.lt_or_ge k σ.length with hk | hk
    · rw [fr1.same k j (by omega)] at hkp
      obtain ⟨q, hq, hqe⟩ := get k hk
      have e := e1 k j hk
      rw [hqe j] at e ⊢
      dsimp only at e ⊢
      rw [f1 _ _ (hin k q hq).1, ← e]; exact hkp
    · rw [hφout k j hk, f2 _ _ (by simp)]
      rw [show σ.length + (os.length + (k - σ.length) - os.length) = k by omega]; exact hkp
  have hρle : ρ.le ρ' := by
    intro i j p hp
    rcases Nat.lt_or_ge i os.length with hi | hi
    · rw [f1 i j hi]; exact hp
    · rw [sat.dom i j hi] at hp; simp at hp
  obtain ⟨os', hos'⟩ : ∃ os' : Objs, embP φ os1' σ 0 os ++ (os1'.drop σ.length).map (Fam.mapId φ) = os' := ⟨_, rfl⟩
  have hmlen : os'.length = os.length + (os1'.length - σ.length) := by
    rw [← hos', List.length_append, embP_len]; simp
  have at_old : ∀ i j, i < os.length → i ∉ σ → os'.at i j = os.at i j := by
    intro i j hi hn
    rw [← hos', at_lt _ _ _ (by rw [embP_len]; exact hi)]
    exact embP_out _ _ _ _ _ j hn
  have at_given : ∀ k j (hk : k < σ.length), os'.at (φ k j).1 (φ k j).2 = (os1'.at k j).mapId φ := by
    intro k j hk
    obtain ⟨q, hq, hqe⟩ := get k hk
    rw [hqe j, ← hos', at_lt _ _ _ (by rw [embP_len]; exact (hin k q hq).1)]
    have := embP_in φ os1' σ 0 os j hnd hq (hin k q hq).1
    rw [Nat.zero_add] at this
    exact this
  have at_new' : ∀ i j, os.length ≤ i → os'.at i j = (os1'.at (σ.length + (i - os.length)) j).mapId φ := by
    intro i j hi
    rw [← hos', at_r _ _ _ (by rw [embP_len]; exact hi), embP_len, map_at, drop_at]
  have kinds : ∀ i j, os'.at i j ≠ .gone → (i < os.length ∧ i ∉ σ ∧ os.at i j ≠ .gone ∧ os'.at i j = os.at i j ∧ ρ' i j = ρ i j) ∨
      (∃ k, os1'.at k j ≠ .gone ∧ φ k j = (i, j) ∧ os'.at i j = (os1'.at k j).mapId φ ∧ ρ' i j = ρ1' k j) := by
    intro i j hne
    rcases Nat.lt_or_ge i os.length with hi | hi
    · by_cases hm : i ∈ σ
      · right
        obtain ⟨k, hk, hke⟩ := List.mem_iff_getElem.1 hm
        have hφk : φ k j = (i, j) := by rw [hφin k _ (List.getElem?_eq_getElem hk) j, hke]
        have hg := at_given k j hk
        rw [hφk] at hg
        refine ⟨k, fun e => hne (by rw [hg, e]; rfl), hφk, hg, ?_⟩
        rw [f1 i j hi, fr1.same k j (by omega), e1 k j hk, hφk]
      · left
        have := at_old i j hi hm
        exact ⟨hi, hm, by rw [← this]; exact hne, this, f1 i j hi⟩
    · right
      have := at_new' i j hi
      refine ⟨σ.length + (i - os.length), fun e => hne (by rw [this, e]; rfl), ?_, this, f2 i j hi⟩
      rw [hφout _ _ (by omega)]
      congr 1; omega
  have lt1 : ∀ b, foot ρ1' os1' b → foot ρ1 os1 b ∨ w.heap.size ≤ b := fr1.obnew
  have nofoot : ∀ a b q, a < os.length → a ∉ σ → os.at a b ≠ .gone → ρ a b = some q → 0 < q.2 → ¬ foot ρ1 os1 q.1 := by
    rintro a b q ha hab hn hq hqpos ⟨k2, c2, q2, hn2, hq2, hqpos2, hqe2⟩
    obtain ⟨hk, h2, h3, h4⟩ := alive k2 c2 hn2
    rw [e1 k2 c2 hk] at hq2
    have := sat.inj _ _ _ _ q2 q h4 hn hq2 hq hqpos2 hqpos hqe2
    obtain ⟨q3, hq3, hqe3⟩ := get k2 hk
    rw [hqe3 c2] at this
    exact hab (by rw [← this.1]; exact List.mem_of_getElem? hq3)
  have cross : ∀ a b k c q q', a < os.length → a ∉ σ → os.at a b ≠ .gone → ρ a b = some q → 0 < q.2 → os1'.at k c ≠ .gone → ρ1' k c = some q' → 0 < q'.2 → q.1 = q'.1 → False := by
    intro a b k c q q' ha hab hn hq hqpos hn1 hq' hqpos' hee
    rcases lt1 q'.1 ⟨k, c, q', hn1, hq', hqpos', rfl⟩ with hf | hf
    · exact nofoot a b q ha hab hn hq hqpos (hee ▸ hf)
    · have := sat.foot_lt ⟨a, b, q, hn, hq, hqpos, rfl⟩
      omega
  have sat' : Sat ρ' I' os' w' := by
    refine ⟨sat1'.im, fun i j hne => ?_, fun i j i' j' p p' hne hne' hp hp' hpos hpos' he => ?_, ?_, fun i j hi => ?_⟩
    · rcases kinds i j hne with ⟨hi, hm, hn, hate, hρe⟩ | ⟨k, hn, hφk, hate, hρe⟩
      · obtain ⟨p, hp, hok⟩ := sat.ok i j hn
        refine ⟨p, by rw [hρe]; exact hp, ?_⟩
        rw [hate]
        exact objOk_mono hρle fr1.imle (fun hpos => fr1.kept p.1 (objOk_lt hn hpos hok) (nofoot i j p hi hm hn hp hpos)) hok
      · obtain ⟨p, hp, hok⟩ := sat1'.ok k j hn
        refine ⟨p, by rw [hρe]; exact hp, ?_⟩
        rw [hate]
        exact obj_up up hok
    · rcases kinds i j hne with ⟨hi, hm, hn, hate, hρe⟩ | ⟨k, hn, hφk, hate, hρe⟩ <;> rcases kinds i' j' hne' with ⟨hi', hm', hn', hate', hρe'⟩ | ⟨k', hn', hφk', hate', hρe'⟩
      · rw [hρe] at hp; rw [hρe'] at hp'
        exact sat.inj i j i' j' p p' hn hn' hp hp' hpos hpos' he
      · rw [hρe] at hp; rw [hρe'] at hp'
        exact (cross i j k' j' p p' hi hm hn hp hpos hn' hp' hpos' he).elim
      · rw [hρe] at hp; rw [hρe'] at hp'
        exact (cross i' j' k j p' p hi' hm' hn' hp' hpos' hn hp hpos he.symm).elim
      · rw [hρe] at hp; rw [hρe'] at hp'
        have := sat1'.inj k j k' j' p p' hn hn' hp hp' hpos hpos' he
        rw [this.1, this.2, hφk'] at hφk
        injection hφk with x y
        exact ⟨x.symm, this.2⟩
    · rintro b ⟨i, j, p, hne, hp, hpos, rfl⟩
      rcases kinds i j hne with ⟨hi, hm, hn, hate, hρe⟩ | ⟨k, hn, hφk, hate, hρe⟩
      · rw [hρe] at hp
        have hfa : foot ρ os p.1 := ⟨i, j, p, hn, hp, hpos, rfl⟩
        cases hb : I' p.1 with
        | none => rfl
        | some o =>
          exfalso
          rcases fr1.imnew p.1 (by rw [hb]; simp) with h' | h' | h'
          · exact h' (sat.apart _ hfa)
          · exact nofoot i j p hi hm hn hp hpos h'
          · have := sat.foot_lt hfa
            omega
      · rw [hρe] at hp
        exact sat1'.apart _ ⟨k, j, p, hn, hp, hpos, rfl⟩
    · rw [hmlen] at hi
      have hl1 := fr1.len
      rw [f2 i j (by omega)]
      exact sat1'.dom _ _ (by omega)
  refine ⟨v, d1.mapId φ, os', ρ', I', rfl, ⟨d1, os1', hp, rfl, hos'.symm⟩, sat', ⟨fr1.wos, fr1.tape, fr1.output, fr1.size, fun b hb hf => fr1.kept b hb (fun h' => hf (hfoot1 b h')), by rw [hmlen]; omega, f1, fr1.imle, fun b hb => ?_, fun b hb => ?_⟩, rep_up up d1 v hrv⟩
  · rcases fr1.imnew b hb with h' | h' | h'
    · exact .inl h'
    · exact .inr (.inl (hfoot1 b h'))
    · exact .inr (.inr h')
  · obtain ⟨i, j, p, hne, hp, hpos, rfl⟩ := hb
    rcases kinds i j hne with ⟨hi, hm, hn, hate, hρe⟩ | ⟨k, hn, hφk, hate, hρe⟩
    · rw [hρe] at hp
      exact .inl ⟨i, j, p, hn, hp, hpos, rfl⟩
    · rw [hρe] at hp
      rcases lt1 p.1 ⟨k, j, p, hn, hp, hpos, rfl⟩ with h' | h'
      · exact .inl (hfoot1 _ h')
      · exact .inr h'
end Go.Proofs.Ytaplihoeephbeaa.V
end
section
namespace Go.Proofs.Ytaplihoeephbeaa.V
open Go Go.Proofs
set_option maxRecDepth 100000
set_option maxHeartbeats 40000000
/-- A number is found, and is out: a row of its own. -/
theorem cut223f (l : List Int) (n : Int) (hl : l.length ≤ 1000000) (hn : n ∈ l) : Spec Try.prog 223 [ints l, .int .i64 n] [] (fun d os' => d = .tup [.sl 0 0 1 0 (l.erase n).length none, .bool true] ∧ os' = [rowI (l.erase n)]) := by
  have hlm : (l.map (D.int .i64)).length = l.length := List.length_map ..
  refine Spec.by Try.func223 rfl (by decide) (by decide +kernel) rfl ?_
  (refine goA ?_)
  refine Call.mk ((index232 l n hl).only _ rfl (by rintro d (⟨_, rfl⟩ | ⟨i, _, rfl⟩) <;> rfl)) ?_
  rintro d os' ⟨(⟨h, _⟩ | ⟨i, ⟨hi, hni⟩, rfl⟩), rfl⟩
  · exact absurd hn h
  have hil := (List.getElem?_eq_some_iff.1 hi).1
  rw [erase_split hi hni]
  (refine goA ?_)
  refine Call.mk (clone130w l (by omega)) ?_
  rintro d os' ⟨rfl, rfl⟩
  (refine goA ?_)
  refine Call.mk (del233 l i hil) ?_
  rintro d os' ⟨rfl, rfl⟩
  (refine goA ?_)
  exact Ret.mk [.tmp 4, .tmp 5] rfl ⟨rfl, rfl⟩
theorem cut223n (l : List Int) (n : Int) (hl : l.length ≤ 1000000) (hn : n ∉ l) : Spec Try.prog 223 [ints l, .int .i64 n] [] (fun d os' => d = .tup [ints l, .bool false] ∧ os' = []) := by
  have hlm : (l.map (D.int .i64)).length = l.length := List.length_map ..
  refine Spec.by Try.func223 rfl (by decide) (by decide +kernel) rfl ?_
  (refine goA ?_)
  refine Call.mk ((index232 l n hl).only _ rfl (by rintro d (⟨_, rfl⟩ | ⟨i, _, rfl⟩) <;> rfl)) ?_
  rintro d os' ⟨(⟨h, rfl⟩ | ⟨i, ⟨hi, hni⟩, rfl⟩), rfl⟩
  · (refine goA ?_)
    exact Ret.mk [.tmp 4, .tmp 5] rfl ⟨rfl, rfl⟩
  · exact absurd (List.mem_of_getElem? hi) hn
/-- None is found: of the list nothing is told. -/
theorem cut223j (l : List Int) (n : Int) (hl : l.length ≤ 1000000) (hn : n ∉ l) : Spec Try.prog 223 [ints l, .int .i64 n] [] (fun d os' => d = .tup [.junk, .bool false] ∧ os' = []) := by
  refine Spec.weak (cut223n l n hl hn) ?_
  rintro d os' ⟨rfl, rfl⟩
  refine ⟨[(0, .tup [.junk, .bool false]), (0, .tup [ints l, .bool false])], [], Weak.val 0 _ (fun ρ I v h => ?_), rfl, rfl⟩
  have h' : rep ρ I (.tup [ints l, .bool false]) v := h
  rw [rep] at h' ⊢
  obtain ⟨arr, e, hr⟩ := h'
  refine ⟨arr, e, ?_⟩
  obtain ⟨u, us, e2, h1, h2⟩ := repL_cons.1 hr
  rw [e2]
  exact repL_cons.2 ⟨u, us, rfl, by rw [rep]; trivial, h2⟩
end Go.Proofs.Ytaplihoeephbeaa.V
end
section
namespace Go.Proofs.Ytaplihoeephbeaa.V
open Go Go.Proofs
set_option maxRecDepth 100000
set_option maxHeartbeats 40000000
theorem PoOk.mono {b b' : Nat} {m : Int} {st : List (Bool × List Int)} {g : Gl} {G : List Int} (h : PoOk b m st g G) (hb : b ≤ b') : PoOk b' m st g G := ⟨h.r, h.n, h.l, h.t, h.f, Nat.le_trans h.k hb, Nat.le_trans h.G hb⟩
end Go.Proofs.Ytaplihoeephbeaa.V
end
section
namespace Go.Proofs.Ytaplihoeephbeaa.V
open Go Go.Proofs
set_option maxRecDepth 100000
set_option maxHeartbeats 40000000
/-- Objects are dropped. -/
theorem Weak.drops {n0 : Nat} {m : List (Nat × D)} {os os' : Objs} (h : ∀ i j, os'.at i j ≠ .gone → os'.at i j = os.at i j) (hl : os.length ≤ os'.length) : Weak n0 { m := m, objs := os } { m := m, objs := os' } := by
  intro ρ I w tm h1 h2 h3
  have h3' : n0 ≤ os.length := h3
  have hh : ∀ {i j}, os'.at i j ≠ .gone → os.at i j ≠ .gone := fun {i j} hne => by rw [← h i j hne]; exact hne
  have hfoot : ∀ c, foot ρ os' c → foot ρ os c := by
    rintro c ⟨i, j, p, hne, hp, hpos, rfl⟩
    exact ⟨i, j, p, hh hne, hp, hpos, rfl⟩
  refine ⟨ρ, I, ⟨h1.im, fun i j hne => ?_, fun i j i' j' p p' hne hne' hp hp' hpos hpos' he => ?_, fun c hc => h1.apart c (hfoot c hc), fun i j hi => h1.dom i j (Nat.le_trans hl hi)⟩, h2, Im.le_refl _, Nat.le_trans h3' hl, fun _ _ _ => rfl, fun _ h => .inl h, hfoot⟩
  · obtain ⟨p, hp, hok⟩ := h1.ok i j (hh hne)
    refine ⟨p, hp, ?_⟩
    show objOk ρ I w p (os'.at i j)
    rw [h i j hne]; exact hok
  · exact h1.inj i j i' j' p p' (hh hne) (hh hne') hp hp' hpos hpos' he
/-- Whether a number is found, or not: the list without it, only read. -/
theorem cut223p (l : List Int) (n : Int) (hl : l.length ≤ 1000000) : Spec Try.prog 223 [ints l, .int .i64 n] [] (fun d os' => d = .tup [ints (l.erase n), .bool (decide (n ∈ l))] ∧ os' = []) := by
  by_cases hn : n ∈ l
  · rw [decide_eq_true hn]
    refine Spec.frz (post' := fun d => d = .tup [ints (l.erase n), .bool true]) ?_
    refine (cut223f l n hl hn).mono ?_
    rintro d os' ⟨rfl, rfl⟩
    exact ⟨_, View.tup (.cons (View.slAll (f := false) rfl rfl (List.length_map ..) (by simp) (ViewL.same _) (pureL_map (fun _ => rfl) _)) (.cons (.same _) .nil)), rfl, rfl⟩
  · rw [decide_eq_false hn, List.erase_of_not_mem hn]
    exact cut223n l n hl hn
/-- Putting, where the global queue lies behind. -/
theorem put158U {b : Nat} {m : Int} {st : List (Bool × List Int)} {g : Gl} {G : List Int} (h : PoOk b m st g G) (hb : b ≤ 900) (v : Int) : Spec Try.prog 158 [.ptr 0 0 2 0 0, .int .i64 v] (poU m st g none) (fun d os' => ∃ g', (d = .tup [] ∧ PoOk (b + 1) m st g' (G ++ [v])) ∧ os' = embO [0, 1, 2, 3, 8, 9, 10] (poU m st g none) (poU m st g' none)) := by
  refine ((put158 h hb v).embed (poU m st g none) [0, 1, 2, 3, 8, 9, 10] rfl (by decide) (fun k s hk => ?_) rfl).mono ?_
  · match k, hk with
    | 0, hk => cases hk; exact ⟨by show 0 < 11; decide, fun j => ⟨by cases j <;> rfl, poO_lt m st g 0 j⟩⟩
    | 1, hk => cases hk; exact ⟨by show 1 < 11; decide, fun j => ⟨by
        cases j with
        | zero => show O.row 102 1 false (ptrs st.length) = O.row 102 1 false (D.mapIdL _ (ptrs st.length)); rw [ptrs_map (emb [0, 1, 2, 3, 8, 9, 10] (poU m st g none).length) (fun j => rfl)]
        | succ j => rfl, poO_lt m st g 1 j⟩⟩
    | 2, hk => cases hk; exact ⟨by show 2 < 11; decide, fun j => ⟨by show cellU m st none j = (cellF m st j).mapId _; rw [cellU_none]; exact (mapO_cellF (emb [0, 1, 2, 3, 8, 9, 10] (poU m st g none).length) (fun j => rfl) m st j).symm, poO_lt m st g 2 j⟩⟩
    | 3, hk => cases hk; exact ⟨by show 3 < 11; decide, fun j => ⟨by show rowU st none j = (rwF st j).mapId _; rw [rowU_none, mapO_rwF], poO_lt m st g 3 j⟩⟩
    | 4, hk => cases hk; exact ⟨by show 8 < 11; decide, fun j => ⟨by
        cases j with
        | zero => exact (mapO_poRo (φ := emb [0, 1, 2, 3, 8, 9, 10] (poU m st g none).length) (q := 5) (q' := 9) (fun _ => rfl)).symm
        | succ j => rfl, poO_lt m st g 4 j⟩⟩
    | 5, hk => cases hk; exact ⟨by show 9 < 11; decide, fun j => ⟨by
        cases j with
        | zero => exact (mapO_poRi (φ := emb [0, 1, 2, 3, 8, 9, 10] (poU m st g none).length) (r := 6) (r' := 10) (fun _ => rfl)).symm
        | succ j => rfl, poO_lt m st g 5 j⟩⟩
    | 6, hk => cases hk; exact ⟨by show 10 < 11; decide, fun j => ⟨by
        cases j with
        | zero => exact mapO_poRw.symm
        | succ j => rfl, poO_lt m st g 6 j⟩⟩
    | k + 7, hk => simp at hk
  · rintro d os' ⟨d1, os1, ⟨g', ⟨rfl, hg⟩, rfl⟩, rfl, rfl⟩
    exact ⟨g', ⟨rfl, hg⟩, rfl⟩
theorem Weak.embU {sl : List (Nat × D)} {m : Int} {st : List (Bool × List Int)} {g g' : Gl} (hm : ((mapM (upU 12 13 14) sl).all fun p => p.2.lt 11) = true) : Weak 7 { m := sl, objs := embO [0, 1, 2, 3, 8, 9, 10] (poU m st g none) (poU m st g' none) } { m := mapM (upU 12 13 14) sl, objs := poU m st g' none } := by
  refine Weak.toU none 12 13 14 (fun j => ?_) (fun j => ?_) (fun j => ?_) (fun j => ?_) (fun h => absurd rfl h) ?_ ?_ ?_ (by omega) (fun h => absurd rfl h) (Nat.le_of_ble_eq_true rfl) hm
  · cases j <;> rfl
  · cases j with
    | zero => show O.row 102 1 false (D.mapIdL _ (ptrs st.length)) = O.row 102 1 false (ptrs st.length); rw [ptrs_map (emb [0, 1, 2, 3, 8, 9, 10] (poU m st g none).length) (fun j => rfl)]
    | succ j => rfl
  · show (cellU m st none j).mapId _ = cellU m st none j
    rw [cellU_none, mapO_cellF (emb [0, 1, 2, 3, 8, 9, 10] (poU m st g none).length) (fun j => rfl)]
  · show (rowU st none j).mapId _ = rowU st none j
    rw [mapO_rowU]
  · exact mapO_poRo (φ := emb [0, 1, 2, 3, 8, 9, 10] (poU m st g none).length) (q := 9) (q' := 13) (fun _ => rfl)
  · exact mapO_poRi (φ := emb [0, 1, 2, 3, 8, 9, 10] (poU m st g none).length) (r := 10) (r' := 14) (fun _ => rfl)
  · exact mapO_poRw
theorem pull181 {b : Nat} {m : Int} {st : List (Bool × List Int)} {g : Gl} {G : List Int} (h : PoOk b m st g G) (hb : b ≤ 900) (n : Int) : Spec Try.prog 181 [.ptr 0 0 2 0 0, .int .i64 n] (poO m st g) (poX (b + 1) m (fun d => d = .bool (pullP (st.map (·.2)) G n).2.2) (pullP (st.map (·.2)) G n).1 (pullP (st.map (·.2)) G n).2.1) := by
  have hn := h.n
  have hGb := h.G
  have hm := h.r
  refine Spec.by Try.func181 rfl (by decide) (by decide +kernel) rfl ?_
  (refine goA ?_)
  refine Loop.inv (A := Nat) (List.range 63) (fun i => [(0, .ptr 0 0 2 0 0), (1, .int .i64 n), (16, .sl 1 0 1 0 st.length none), (17, .int .i64 (st.length : Int)), (18, .int .i64 (i : Int))]) (fun i => poO m st g) (fun i => i ≤ st.length ∧ ∀ j, j < i → n ∉ qAt (st.map (·.2)) j) (fun i => st.length - i) 0 ⟨Nat.zero_le _, fun j h => by cases h⟩ ?_ ?_
  · exact Weak.start' rfl rfl tld
  rintro i ⟨hi, hbf⟩
  have hpl := ptrs_len st.length
  (refine goA ?_)
  refine Br.dec (fun h0 => ?_) (fun h0 => ?_)
  · have hil : i < st.length := by omega
    obtain ⟨o, hs⟩ := st_get hil
    obtain ⟨l, hl⟩ : ∃ l, qAt (st.map (·.2)) i = l := ⟨_, rfl⟩
    rw [hl] at hs
    have hll := h.l _ (List.mem_of_getElem? hs)
    have hat : Objs.at (poO m st g) 2 (i : Int).toNat = _ := cellF_some (m := m) hs
    have hat3 : Objs.at (poO m st g) 3 (i : Int).toNat = _ := rwF_some hs
    have hlm : (l.map (D.int .i64)).length = l.length := List.length_map ..
    have hLi : (st.map (·.2))[i]? = some l := by rw [List.getElem?_map, hs]; rfl
    dsimp only at hll
    (refine goA ?_)
    refine Opt.of (ptrs_get0 hil) ?_
    (refine goA ?_)
    rw [hat]
    have hnx : n ∉ l → ∀ j, j < i + 1 → n ∉ qAt (st.map (·.2)) j := fun hx j hj => by
      by_cases hji : j = i
      · subst hji; rw [hl]; exact hx
      · exact hbf j (by omega)
    have hatX : ∀ X, Objs.at (poO m st g ++ X) 2 (i : Int).toNat = _ := fun X => hat
    cases o with
    | true =>
      dsimp only [cond_true] at hat3
      by_cases hx : n ∈ l
      · rw [pull_some hLi hx hbf]
        (refine goA ?_)
        refine Call.mk ((cut223f l n (by omega) hx).fresh (.cons (View.slAll rfl hat3 hlm (by simp) (ViewL.same _) (pureL_map (fun _ => rfl) _)) (.cons (.same _) .nil)) (by simp [D.pureL, D.pure]) (by rintro d os' ⟨rfl, rfl⟩; exact ⟨rfl, own_rowI _⟩)) ?_
        rintro d os' ⟨d0, os0, ⟨rfl, rfl⟩, rfl, rfl⟩
        (refine goA ?_)
        rw [hatX]
        (refine goA ?_)
        refine Ret.weak (Weak.trans (Weak.on [(4, .bool true)] [poC st.length g 4, poP st.length, (Fam.fam (cellF m st)).put (i : Int).toNat (.row 201 2 false [.agg [.int .i64 m, .sl 7 0 1 0 (l.erase n).length none]]), .fam (rwF st), one (poRo g 5), one (poRi g 6), one (poRw g), rowI (l.erase n)]) (Weak.trans (Weak.drops (os' := [poC st.length g 4, poP st.length, .fam (cellU m (st.set i (true, l.erase n)) (some i)), .fam (rowU (st.set i (true, l.erase n)) (some i)), one (poRo g 5), one (poRi g 6), one (poRw g), rowI (l.erase n)]) (fun a c hne => ?_) (Nat.le_refl _)) (Weak.toU (st := st.set i (true, l.erase n)) (some i) 4 5 6 (fun j => by rw [List.length_set]; rfl) (fun j => by rw [List.length_set]; rfl) (fun j => rfl) (fun j => rfl) (fun _ => by unfold rowW; dsimp only; rw [getD_sets hs]; rfl) rfl rfl rfl (by omega) (fun _ => by omega) (Nat.le_of_ble_eq_true rfl) rfl))) ?_
        · match a, c with
          | 2, c => exact (cellU_set (l.erase n) hs rfl c).symm
          | 3, c =>
            have e : rowU (st.set i (true, l.erase n)) (some i) c = if c = i then .gone else rwF st c := (rowU_set (l.erase n) hs c).symm
            have hne' : rowU (st.set i (true, l.erase n)) (some i) c ≠ .gone := hne
            show rowU (st.set i (true, l.erase n)) (some i) c = rwF st c
            rw [e] at hne' ⊢
            by_cases hc : c = i
            · rw [if_pos hc] at hne'; exact absurd rfl hne'
            · rw [if_neg hc]
          | 0, _ | 1, _ | 4, _ | 5, _ | 6, _ | 7, _ => rfl
          | a + 8, _ => rfl
        exact Ret.mk [.tmp 4] rfl ⟨_, g, some i, ⟨rfl, h.set i (true, l.erase n) (by have := List.length_erase_le (a := n) (l := l); show ((l.erase n).length : Int) ≤ m; omega), by rw [List.map_set], fun j hj => by cases hj; exact ⟨_, set_eq hs⟩⟩, rfl⟩
      · skip
        (refine goA ?_)
        refine Call.mk ((cut223j l n (by omega) hx).read (.cons (View.slAll rfl hat3 hlm (by simp) (ViewL.same _) (pureL_map (fun _ => rfl) _)) (.cons (.same _) .nil)) (by simp [D.pureL, D.pure]) (by rintro d rfl; exact ⟨rfl, rfl⟩)) ?_
        rintro d os' ⟨rfl, rfl⟩
        (refine goA ?_)
        refine ⟨_, _, _, ?_, ⟨i + 1, ?_, rfl, rfl, rfl⟩, ?_⟩
        · show st.length - (i + 1) < st.length - i; omega
        · exact ⟨hil, hnx hx⟩
        · refine Weak.only _ _ ?_ ?_
          · kernel_rfl
          · exact tld
    | false =>
      by_cases hx : n ∈ l
      · rw [pull_some hLi hx hbf]
        (refine goA ?_)
        refine Call.mk ((cut223f l n (by omega) hx).fresh (.cons (View.lst (by simp) (ViewL.same _) (pureL_map (fun _ => rfl) _)) (.cons (.same _) .nil)) (by simp [D.pureL, D.pure]) (by rintro d os' ⟨rfl, rfl⟩; exact ⟨rfl, own_rowI _⟩)) ?_
        rintro d os' ⟨d0, os0, ⟨rfl, rfl⟩, rfl, rfl⟩
        (refine goA ?_)
        rw [hatX]
        (refine goA ?_)
        refine Ret.weak (Weak.trans (Weak.on [(4, .bool true)] [poC st.length g 4, poP st.length, (Fam.fam (cellF m st)).put (i : Int).toNat (.row 201 2 false [.agg [.int .i64 m, .sl 7 0 1 0 (l.erase n).length none]]), .fam (rwF st), one (poRo g 5), one (poRi g 6), one (poRw g), rowI (l.erase n)]) (Weak.trans (Weak.drops (os' := [poC st.length g 4, poP st.length, .fam (cellU m (st.set i (true, l.erase n)) (some i)), .fam (rowU (st.set i (true, l.erase n)) (some i)), one (poRo g 5), one (poRi g 6), one (poRw g), rowI (l.erase n)]) (fun a c hne => ?_) (Nat.le_refl _)) (Weak.toU (st := st.set i (true, l.erase n)) (some i) 4 5 6 (fun j => by rw [List.length_set]; rfl) (fun j => by rw [List.length_set]; rfl) (fun j => rfl) (fun j => rfl) (fun _ => by unfold rowW; dsimp only; rw [getD_sets hs]; rfl) rfl rfl rfl (by omega) (fun _ => by omega) (Nat.le_of_ble_eq_true rfl) rfl))) ?_
        · match a, c with
          | 2, c => exact (cellU_set (l.erase n) hs rfl c).symm
          | 3, c =>
            have e : rowU (st.set i (true, l.erase n)) (some i) c = if c = i then .gone else rwF st c := (rowU_set (l.erase n) hs c).symm
            have hne' : rowU (st.set i (true, l.erase n)) (some i) c ≠ .gone := hne
            show rowU (st.set i (true, l.erase n)) (some i) c = rwF st c
            rw [e] at hne' ⊢
            by_cases hc : c = i
            · rw [if_pos hc] at hne'; exact absurd rfl hne'
            · rw [if_neg hc]
          | 0, _ | 1, _ | 4, _ | 5, _ | 6, _ | 7, _ => rfl
          | a + 8, _ => rfl
        exact Ret.mk [.tmp 4] rfl ⟨_, g, some i, ⟨rfl, h.set i (true, l.erase n) (by have := List.length_erase_le (a := n) (l := l); show ((l.erase n).length : Int) ≤ m; omega), by rw [List.map_set], fun j hj => by cases hj; exact ⟨_, set_eq hs⟩⟩, rfl⟩
      · skip
        (refine goA ?_)
        refine Call.mk ((cut223j l n (by omega) hx).read (.cons (View.lst (by simp) (ViewL.same _) (pureL_map (fun _ => rfl) _)) (.cons (.same _) .nil)) (by simp [D.pureL, D.pure]) (by rintro d rfl; exact ⟨rfl, rfl⟩)) ?_
        rintro d os' ⟨rfl, rfl⟩
        (refine goA ?_)
        refine ⟨_, _, _, ?_, ⟨i + 1, ?_, rfl, rfl, rfl⟩, ?_⟩
        · show st.length - (i + 1) < st.length - i; omega
        · exact ⟨hil, hnx hx⟩
        · refine Weak.only _ _ ?_ ?_
          · kernel_rfl
          · exact tld
  · obtain rfl : i = st.length := by omega
    rw [pull_none (by rw [List.length_map]; exact hbf)]
    have hGe : (G.erase n).length ≤ b := Nat.le_trans (List.length_erase_le ..) hGb
    obtain ⟨X, hX⟩ : ∃ X, G.erase n = X := ⟨_, rfl⟩
    have hXm : (X.map (D.int .i64)).length = X.length := List.length_map ..
    (refine goA ?_)
    refine Call.mk (global83 h hb) ?_
    rintro d os' ⟨rfl, rfl⟩
    (refine goA ?_)
    refine Call.mk ((cut223p G n (by omega)).only _ rfl (by rintro d rfl; rfl)) ?_; rintro d os' ⟨rfl, rfl⟩
    rw [hX] at hGe ⊢
    (refine goA ?_)
    refine Loop.inv (A := Nat × Gl) (List.range 63) (fun a => [(0, .ptr 0 0 2 0 0), (10, .bool (decide (n ∈ G))), (50, ints X), (51, .int .i64 (X.length : Int)), (52, .int .i64 (a.1 : Int))]) (fun a => poU m st a.2 none) (fun a => a.1 ≤ X.length ∧ PoOk a.1 m st a.2 (X.take a.1)) (fun a => X.length - a.1) (0, ⟨0, false, 0, 0, []⟩) ⟨Nat.zero_le _, ⟨h.r, h.n, h.l, (fun h => Bool.noConfusion h), fun _ => by simp, Nat.le_refl _, by simp⟩⟩ ?_ ?_
    · refine Weak.trans (Weak.only [(0, .ptr 0 0 2 0 0), (10, .bool (decide (n ∈ G))), (50, ints X), (51, .int .i64 ((X.map (D.int .i64)).length : Nat)), (52, .int .i64 0)] [one (.row 114 2 false [.agg [.nils, .sl 1 0 1 0 st.length none]]), poP st.length, .fam (cellF m st), .fam (rwF st), one (poRo g 5), one (poRi g 6), one (poRw g)] (by kernel_rfl) tld) ?_
      rw [hXm]
      refine Weak.trans (Weak.frzK (fun i => Nat.beq i 4 || (Nat.beq i 5 || Nat.beq i 6)) [] trivial) ?_
      refine Weak.trans (Weak.nilO 0 7 rfl (es := [.agg [.nils, .sl 1 0 1 0 st.length none]]) rfl [.agg [.sl 7 0 1 0 0 none, .sl 1 0 1 0 st.length none]] rfl (.cons (.agg (.cons (.nils _ _) (.same _ _))) (.same _ _)) 56 1 false) ?_
      exact Weak.toU (g := ⟨0, false, 0, 0, []⟩) none 7 4 5 (fun j => by cases j <;> rfl) (fun j => rfl) (fun j => by rw [cellU_none]; rfl) (fun j => by rw [rowU_none]; rfl) (fun h => absurd rfl h) rfl rfl rfl (by omega) (fun h => absurd rfl h) (Nat.le_of_ble_eq_true rfl) rfl
    rintro ⟨j, g'⟩ ⟨hj, hp⟩
    dsimp only at hj hp ⊢
    (refine goA ?_)
    refine Br.dec (fun h1 => ?_) (fun h1 => ?_)
    · have hjl : j < X.length := by omega
      obtain ⟨v, hv⟩ : ∃ v, X[j]? = some v := ⟨_, List.getElem?_eq_getElem hjl⟩
      (refine goA ?_)
      refine Opt.of (get_map hv) ?_
      (refine goA ?_)
      refine Call.mk (put158U hp (by omega) v) ?_
      rintro d os' ⟨g2, ⟨rfl, hp2⟩, rfl⟩
      (refine goA ?_)
      refine ⟨_, _, _, ?_, ⟨(j + 1, g2), ?_, rfl, rfl, rfl⟩, ?_⟩
      · show X.length - (j + 1) < X.length - j; omega
      · exact ⟨hjl, by show PoOk (j + 1) m st g2 (X.take (j + 1)); rw [List.take_add_one, hv]; exact hp2⟩
      · refine Weak.trans (Weak.only [(0, .ptr 0 0 2 0 0), (10, .bool (decide (n ∈ G))), (50, ints X), (51, .int .i64 (X.length : Int)), (52, .int .i64 ((j : Int) + 1))] (embO [0, 1, 2, 3, 8, 9, 10] (poU m st g' none) (poU m st g2 none)) (by kernel_rfl) tld) ?_
        exact Weak.embU rfl
    · obtain rfl : j = X.length := by omega
      rw [List.take_length] at hp
      (refine goA ?_)
      exact Ret.mk [.tmp 4] rfl ⟨st, g', none, ⟨rfl, hp.mono (by omega), rfl, fun _ h => by cases h⟩, rfl⟩
end Go.Proofs.Ytaplihoeephbeaa.V
end
section
namespace Go.Proofs.Ytaplihoeephbeaa.V
open Go Go.Proofs
set_option maxRecDepth 100000
set_option maxHeartbeats 40000000
theorem like106 {b : Nat} {m : Int} {st : List (Bool × List Int)} {g : Gl} {G : List Int} (h : PoOk b m st g G) (hb : b ≤ 900) : Spec Try.prog 106 [.ptr 0 0 2 0 0, poV m (st.map (·.2)) G] (poO m st g) (fun d os' => d = .bool true ∧ os' = poO m st g) := by
  obtain ⟨L, hL⟩ : ∃ L, st.map (·.2) = L := ⟨_, rfl⟩
  have hsl : st.length = L.length := by rw [← hL, List.length_map]
  have hcl := catL_len st (fun s hs => by have := h.l s hs; have := h.r; omega)
  have hn := h.n
  have hGb := h.G
  rw [hL] at hcl ⊢
  have hlm : (L.map ints).length = L.length := List.length_map ..
  have hql : ∀ i, (qAt L i).length ≤ 1000000 := fun i => by
    have : (qAt L i).length ≤ (catL L).length := by
      have hh : ∀ (L : List (List Int)) (w : Nat), (qAt L w).length ≤ (catL L).length := fun L => by
        induction L with
        | nil => intro w; unfold qAt; rw [List.getD_eq_getElem?_getD]; simp
        | cons y L ih =>
          intro w
          have e : catL (y :: L) = y ++ catL L := rfl
          rw [e, List.length_append]
          cases w with
          | zero => exact Nat.le_add_right _ _
          | succ w => exact Nat.le_trans (ih w) (Nat.le_add_left _ _)
      exact hh L i
    omega
  refine Spec.weak (post := fun d os' => d = .bool true ∧ ∃ r, os' = poO m st g ++ r) ?_ (by
    rintro d os' ⟨rfl, r, rfl⟩
    exact ⟨[(0, .bool true)], _, Weak.poTrim (Nat.le_refl 7) rfl, rfl, rfl⟩)
  refine Spec.by Try.func106 rfl (by decide) (by decide +kernel) rfl ?_
  (refine goA ?_)
  refine Loop.inv (A := Nat) (List.range 65) (fun k => [(0, .ptr 0 0 2 0 0), (3, .ptr 7 0 3 0 0), (5, .int .i64 ((k : Int) - 1))]) (fun k => poO m st g ++ [one (.row 157 3 false [poV m L G])]) (fun k => k ≤ L.length + 2) (fun k => L.length + 2 - k) 0 (Nat.zero_le _) ?_ ?_
  · exact Weak.start' rfl rfl tld
  intro k hk
  (refine goA ?_)
  refine Br.dec (fun h0 => ?_) (fun h0 => ?_)
  · have hown := (own82 h ((k : Int) - 1)).behind [one (.row 157 3 false [poV m L G])] rfl (poO_lt m st g) (by rintro d os' ⟨rfl, rfl⟩; rfl)
    rw [hL, hsl] at hown
    by_cases hin : 1 ≤ k ∧ k ≤ L.length
    · have hget : (L.map ints)[((k : Int) - 1).toNat]? = some (ints (qAt L ((k : Int) - 1).toNat)) := lstC_at L _ (by omega)
      rw [if_pos (by omega)] at hown
      (refine goA ?_)
      refine Opt.of hget ?_
      (refine goA ?_)
      refine Call.mk hown ?_
      rintro d os' ⟨os1, ⟨rfl, rfl⟩, rfl⟩
      (refine goA ?_)
      refine Call.mk ((same50 (qAt L ((k : Int) - 1).toNat) (qAt L ((k : Int) - 1).toNat) (by have := hql ((k : Int) - 1).toNat; omega)).only _ rfl (by rintro d rfl; rfl)) ?_; rintro d os' ⟨rfl, rfl⟩
      rw [decide_eq_true (rfl : qAt L ((k : Int) - 1).toNat = qAt L ((k : Int) - 1).toNat)]
      (refine goA ?_)
      refine ⟨_, _, _, ?_, ⟨k + 1, ?_, rfl, rfl, rfl⟩, ?_⟩
      · show L.length + 2 - (k + 1) < L.length + 2 - k; omega
      · show k + 1 ≤ L.length + 2; omega
      · refine Weak.only _ _ ?_ ?_
        · kernel_rfl
        · exact tld
    · rw [if_neg (by omega)] at hown
      have hs := (same50 [] [] (by simp)).args (args' := [ints [], .nils]) (fun ρ I vs h => by
        obtain ⟨a, va, rfl, ha, h⟩ := repL_cons.1 h
        obtain ⟨c, vc, rfl, hc, h⟩ := repL_cons.1 h
        exact repL_cons.2 ⟨_, _, rfl, ha, repL_cons.2 ⟨_, _, rfl, rep_nilsL 1 false hc, h⟩⟩)
      (refine goA ?_)
      refine Br.dec (fun h6 => ?_) (fun h6 => ?_)
      · skip
        (refine goA ?_)
        refine Call.mk hown ?_
        rintro d os' ⟨os1, ⟨rfl, rfl⟩, rfl⟩
        (refine goA ?_)
        refine Call.mk ((hs).only _ rfl (by rintro d rfl; rfl)) ?_; rintro d os' ⟨rfl, rfl⟩
        rw [decide_eq_true (rfl : ([] : List Int) = [])]
        (refine goA ?_)
        refine ⟨_, _, _, ?_, ⟨k + 1, ?_, rfl, rfl, rfl⟩, ?_⟩
        · show L.length + 2 - (k + 1) < L.length + 2 - k; omega
        · show k + 1 ≤ L.length + 2; omega
        · refine Weak.only _ _ ?_ ?_
          · kernel_rfl
          · exact tld
      · skip
        (refine goA ?_)
        refine Call.mk hown ?_
        rintro d os' ⟨os1, ⟨rfl, rfl⟩, rfl⟩
        (refine goA ?_)
        refine Call.mk ((hs).only _ rfl (by rintro d rfl; rfl)) ?_; rintro d os' ⟨rfl, rfl⟩
        rw [decide_eq_true (rfl : ([] : List Int) = [])]
        (refine goA ?_)
        refine ⟨_, _, _, ?_, ⟨k + 1, ?_, rfl, rfl, rfl⟩, ?_⟩
        · show L.length + 2 - (k + 1) < L.length + 2 - k; omega
        · show k + 1 ≤ L.length + 2; omega
        · refine Weak.only _ _ ?_ ?_
          · kernel_rfl
          · exact tld
  · have hall := (all160 h hb).behind [one (.row 157 3 false [poV m L G])] rfl (poO_lt m st g) (by rintro d os' ⟨rfl, rfl⟩; rfl)
    have hglo := (global83 h hb).behind [one (.row 157 3 false [poV m L G])] rfl (poO_lt m st g) (by rintro d os' ⟨rfl, rfl⟩; rfl)
    have hwor := (workers176 (m := m) (st := st) (g := g)).behind [one (.row 157 3 false [poV m L G])] rfl (poO_lt m st g) (by rintro d os' ⟨rfl, rfl⟩; rfl)
    have hlen := (len85 h hb).behind [one (.row 157 3 false [poV m L G])] rfl (poO_lt m st g) (by rintro d os' ⟨rfl, rfl⟩; rfl)
    rw [hL] at hall hlen
    rw [hsl] at hwor
    have hcG : (catL L ++ G).length ≤ 1000000 := by rw [List.length_append]; omega
    have hcm : ((catL L ++ G).map (D.int .i64)).length = (catL L ++ G).length := List.length_map ..
    (refine goA ?_)
    refine Call.mk ((all175 m L G (by omega) hcG).only _ rfl (by rintro d rfl; rfl)) ?_; rintro d os' ⟨rfl, rfl⟩
    (refine goA ?_)
    refine Call.mk hwor ?_
    rintro d os' ⟨os1, ⟨rfl, rfl⟩, rfl⟩
    (refine goA ?_)
    refine Call.mk hglo ?_
    rintro d os' ⟨os1, ⟨rfl, rfl⟩, rfl⟩
    (refine goA ?_)
    refine Call.mk ((same50 G G (by omega)).only _ rfl (by rintro d rfl; rfl)) ?_; rintro d os' ⟨rfl, rfl⟩
    rw [decide_eq_true (rfl : G = G)]
    (refine goA ?_)
    refine Call.mk hall ?_
    rintro d os' ⟨os1, ⟨rfl, rfl⟩, rfl⟩
    (refine goA ?_)
    refine Call.mk ((same50 (catL L ++ G) (catL L ++ G) (by omega)).only _ rfl (by rintro d rfl; rfl)) ?_; rintro d os' ⟨rfl, rfl⟩
    rw [decide_eq_true (rfl : catL L ++ G = catL L ++ G)]
    (refine goA ?_)
    refine Call.mk hlen ?_
    rintro d os' ⟨os1, ⟨rfl, rfl⟩, rfl⟩
    (refine goA ?_)
    exact Ret.mk [.tmp 4] rfl ⟨congrArg D.bool (decide_eq_true (by rw [hcm])), _, rfl⟩
end Go.Proofs.Ytaplihoeephbeaa.V
end
section
namespace Go.Proofs.Ytaplihoeephbeaa.V
open Go Go.Proofs
set_option maxRecDepth 100000
set_option maxHeartbeats 40000000
@[reducible] def dlD (kd t x : Int) : D := .agg [.int .i64 kd, .int .i64 t, .int .i64 x]
end Go.Proofs.Ytaplihoeephbeaa.V
end
section
namespace Go.Proofs.Ytaplihoeephbeaa.V
open Go Go.Proofs
set_option maxRecDepth 100000
set_option maxHeartbeats 40000000
/-- Names behind a gap of k, told without it. -/
def ung (k n : Nat) (i j : Nat) : Nat × Nat := if i < 7 then (i, j) else if i < 7 + k then (i + (n - 7), j) else if i < n + k then (i - k, j) else (i, j)
def gun (k n : Nat) (i j : Nat) : Nat × Nat := if i < 7 then (i, j) else if i < n then (i + k, j) else if i < n + k then (i - (n - 7), j) else (i, j)
mutual
theorem mapId_two {n : Nat} {a c : Nat → Nat → Nat × Nat} (h : ∀ i j, i < n → c (a i j).1 (a i j).2 = (i, j)) : ∀ (d : D), d.lt n = true → (d.mapId a).mapId c = d
  | .int _ _, _ | .bool _, _ | .str _, _ | .nilp, _ | .nils, _ | .nilf, _ | .junk, _ | .pel .., _ | .lst .., _ => rfl
  | .ptr i j sz e off, hl | .sl i j sz lo len cap, hl | .mp i j, hl | .yl i j, hl => by
    have hi : i < n := Nat.le_of_ble_eq_true hl
    simp only [D.mapId, h i j hi]
  | .agg cs, hl => by simp only [D.mapId, mapIdL_two h cs (by simpa [D.lt] using hl)]
  | .tup cs, hl => by simp only [D.mapId, mapIdL_two h cs (by simpa [D.lt] using hl)]
  | .fn f x y, hl => by
    have hl' : D.ltL n x = true ∧ D.ltL n y = true := by simpa [D.lt] using hl
    simp only [D.mapId, mapIdL_two h x hl'.1, mapIdL_two h y hl'.2]
theorem mapIdL_two {n : Nat} {a c : Nat → Nat → Nat × Nat} (h : ∀ i j, i < n → c (a i j).1 (a i j).2 = (i, j)) : ∀ (ds : List D), D.ltL n ds = true → D.mapIdL c (D.mapIdL a ds) = ds
  | [], _ => rfl
  | d :: ds, hl => by
    have hl' : d.lt n = true ∧ D.ltL n ds = true := by simpa [D.ltL] using hl
    simp only [D.mapIdL, mapId_two h d hl'.1, mapIdL_two h ds hl'.2]
end
theorem mapO_two {n : Nat} {a c : Nat → Nat → Nat × Nat} (h : ∀ i j, i < n → c (a i j).1 (a i j).2 = (i, j)) (o : O) (hl : o.lt n = true) (hk : (∃ t sz p es, o = .row t sz p es) ∨ o = .gone) : (o.mapId a).mapId c = o := by
  rcases hk with ⟨t, sz, p, es, rfl⟩ | rfl
  · cases p with
    | true => rfl
    | false => show O.row t sz false (D.mapIdL c (D.mapIdL a es)) = _; rw [mapIdL_two h es hl]
  · rfl
theorem poU_row (m : Int) (st : List (Bool × List Int)) (g : Gl) (w : Option Nat) (i j : Nat) : (∃ t sz p es, (poU m st g w).at i j = .row t sz p es) ∨ (poU m st g w).at i j = .gone := by
  match i, j with
  | 0, 0 | 1, 0 => exact .inl ⟨_, _, _, _, rfl⟩
  | 2, j =>
    show (∃ t sz p es, cellU m st w j = .row t sz p es) ∨ cellU m st w j = .gone
    unfold cellU
    split
    · exact .inl ⟨_, _, _, _, rfl⟩
    · unfold cellF
      split
      · exact .inr rfl
      · exact .inl ⟨_, _, _, _, rfl⟩
      · exact .inl ⟨_, _, _, _, rfl⟩
  | 3, j =>
    show (∃ t sz p es, rowU st w j = .row t sz p es) ∨ rowU st w j = .gone
    unfold rowU
    split
    · exact .inr rfl
    · unfold rwF
      split
      · exact .inl ⟨_, _, _, _, rfl⟩
      · exact .inr rfl
  | 4, 0 | 5, 0 | 6, 0 => exact .inr rfl
  | 7, 0 =>
    show (∃ t sz p es, rowW st w = .row t sz p es) ∨ rowW st w = .gone
    unfold rowW
    split
    · exact .inr rfl
    · exact .inl ⟨_, _, _, _, rfl⟩
  | 8, 0 => exact .inl ⟨_, _, _, _, rfl⟩
  | 9, 0 =>
    show (∃ t sz p es, poRi g 10 = .row t sz p es) ∨ poRi g 10 = .gone
    unfold poRi
    cases g.c
    · exact .inr rfl
    · exact .inl ⟨_, _, _, _, rfl⟩
  | 10, 0 =>
    show (∃ t sz p es, poRw g = .row t sz p es) ∨ poRw g = .gone
    unfold poRw
    cases g.c
    · exact .inr rfl
    · exact .inl ⟨_, _, _, _, rfl⟩
  | 0, j + 1 | 1, j + 1 | 4, j + 1 | 5, j + 1 | 6, j + 1 | 7, j + 1 | 8, j + 1 | 9, j + 1 | 10, j + 1 => exact .inr rfl
  | i + 11, j => exact .inr rfl
/-- What lies between is left, and the new ones go up to the given ones. -/
theorem Weak.ungap {sl : List (Nat × D)} {m : Int} {st : List (Bool × List Int)} {g : Gl} {w : Option Nat} {r : Objs} (hs : D.pureL (sl.map (·.2)) = true) : Weak 7 { m := sl, objs := gapO 7 r (poU m st g w) } { m := sl, objs := poU m st g w } := by
  obtain ⟨k, hk⟩ : ∃ k, r.length = k := ⟨_, rfl⟩
  have gl := fun {i : Nat} (j : Nat) (hi : i < 7) => gapO_lt 7 r (poU m st g w) (Nat.le_of_ble_eq_true rfl) (i := i) j hi
  have gg := fun (i j : Nat) => gapO_ge 7 r (poU m st g w) (Nat.le_of_ble_eq_true rfl) i j
  rw [hk] at gl gg
  have hlen : (gapO 7 r (poU m st g w)).length = 11 + k := by
    simp only [gapO, List.length_append, List.length_map, List.length_take, List.length_drop, hk]
    show 7 + (k + 4) = 11 + k
    omega
  have hsl : mapM (ung k 11) sl = sl := by
    have : ∀ (l : List (Nat × D)), D.pureL (l.map (·.2)) = true → mapM (ung k 11) l = l := by
      intro l
      induction l with
      | nil => intro _; rfl
      | cons p l ih =>
        intro hp
        have hp' : p.2.pure = true ∧ D.pureL (l.map (·.2)) = true := by simpa [D.pureL] using hp
        show (p.1, p.2.mapId (ung k 11)) :: mapM (ung k 11) l = _
        rw [mapId_pure _ _ hp'.1, ih hp'.2]
    exact this sl hs
  have two : ∀ i j, i < 11 → ung k 11 (gap 7 k i j).1 (gap 7 k i j).2 = (i, j) := fun i j hi => by
    unfold ung gap
    by_cases h : i < 7
    · rw [if_pos h]; dsimp only; rw [if_pos h]
    · rw [if_neg h]; dsimp only; rw [if_neg (by omega), if_neg (by omega), if_pos (by omega), Nat.add_sub_cancel]
  have : Weak 7 { m := sl, objs := gapO 7 r (poU m st g w) } { m := mapM (ung k 11) sl, objs := poU m st g w ++ List.replicate k (one .gone) } := by
    refine Weak.rens (gun k 11) (ung k 11) (fun i j hi => by unfold gun; rw [if_pos hi]) (fun i j => ?_) (fun i j hne => ?_) (fun i j hi => ?_) (by rw [List.length_append]; exact Nat.le_add_right_of_le (Nat.le_of_ble_eq_true rfl)) (fun i j hne => ?_)
    · unfold ung gun
      by_cases h : i < 7
      · rw [if_pos h]; dsimp only; rw [if_pos h]
      · rw [if_neg h]
        by_cases h2 : i < 7 + k
        · rw [if_pos h2]; dsimp only; rw [if_neg (by omega), if_neg (by omega), if_pos (by omega), Nat.add_sub_cancel]
        · rw [if_neg h2]
          by_cases h3 : i < 11 + k
          · rw [if_pos h3]; dsimp only; rw [if_neg (by omega), if_pos (by omega), Nat.sub_add_cancel (by omega)]
          · rw [if_neg h3]; dsimp only; rw [if_neg h, if_neg (by omega), if_neg (by omega)]
    · have hi : i < 11 := Nat.lt_of_not_le fun h => hne (at_gones _ k _ _ h)
      unfold ung gun
      by_cases h : i < 7
      · rw [if_pos h]; dsimp only; rw [if_pos h]
      · rw [if_neg h, if_pos hi]; dsimp only; rw [if_neg (by omega), if_neg (by omega), if_pos (by omega), Nat.add_sub_cancel]
    · rw [List.length_append, List.length_replicate] at hi
      have hi' : 11 + k ≤ i := hi
      rw [hlen]
      unfold gun
      rw [if_neg (by omega), if_neg (by omega), if_neg (by omega)]
      exact hi'
    · have hi : i < 11 := Nat.lt_of_not_le fun h => hne (at_gones _ k _ _ h)
      rw [at_lt _ _ _ (show i < (poU m st g w).length from hi)]
      unfold gun
      by_cases h : i < 7
      · rw [if_pos h]
        dsimp only
        rw [gl j h, mapO_two two _ (poU_lt m st g w i j) (poU_row m st g w i j)]
      · rw [if_neg h, if_pos hi]
        dsimp only
        have := gg (i - 7) j
        rw [show 7 + k + (i - 7) = i + k by omega, show 7 + (i - 7) = i by omega] at this
        rw [this, mapO_two two _ (poU_lt m st g w i j) (poU_row m st g w i j)]
  rw [hsl] at this
  refine Weak.trans this ?_
  have ht := Weak.takeF (n0 := 7) (m := sl) (os := poU m st g w ++ List.replicate k (one .gone)) 11 (by omega) ?_ (fun i j hi => by rw [at_lt _ _ _ (show i < (poU m st g w).length from hi)]; exact poU_lt m st g w i j) (by rw [List.length_append, List.length_replicate]; exact Nat.le_add_right 11 k)
  · rw [List.take_left' (show (poU m st g w).length = 11 from rfl)] at ht
    exact ht
  · rw [List.all_eq_true]
    intro p hp
    have : ∀ (l : List (Nat × D)), D.pureL (l.map (·.2)) = true → ∀ p ∈ l, p.2.pure = true := by
      intro l
      induction l with
      | nil => intro _ p hp; cases hp
      | cons q l ih =>
        intro h p hp
        have hp' : q.2.pure = true ∧ D.pureL (l.map (·.2)) = true := by simpa [D.pureL] using h
        rcases List.mem_cons.1 hp with rfl | hp
        · exact hp'.1
        · exact ih hp'.2 p hp
    exact lt_pure 11 _ (this sl hs p hp)
end Go.Proofs.Ytaplihoeephbeaa.V
end
section
namespace Go.Proofs.Ytaplihoeephbeaa.V
open Go Go.Proofs
set_option maxRecDepth 100000
set_option maxHeartbeats 40000000
@[reducible] def dlT (x : Int × Int × Int) : D := dlD x.1 x.2.1 x.2.2
@[reducible] def dls (l : List (Int × Int × Int)) : D := .lst 3 false (l.map dlT)
def dlok (l : List (Int × Int × Int)) : Prop := l.length * 24 ≤ 140737488351232 ∧ ∀ x ∈ l, I64 x.1 ∧ I64 x.2.1 ∧ I64 x.2.2
end Go.Proofs.Ytaplihoeephbeaa.V
end
section
namespace Go.Proofs.Ytaplihoeephbeaa.V
open Go Go.Proofs
set_option maxRecDepth 100000
set_option maxHeartbeats 40000000
@[reducible] def dePost (b : Nat) (m : Int) : D → Objs → Prop := fun d os' => ∃ st g w G, (d = .tup [poV m (st.map (fun x : Bool × List Int => x.2)) G, .bool true] ∧ PoOk b m st g G ∧ ∀ j, w = some j → ∃ l, st[j]? = some (true, l)) ∧ os' = poU m st g w
theorem Spec.ungap {f : FuncId} {args : List D} {b : Nat} {m : Int} {st0 : List (Bool × List Int)} {g0 : Gl} (h : Spec Try.prog f args (poO m st0 g0) (fun d os' => ∃ st g w G r, (d = .tup [poV m (st.map (fun x : Bool × List Int => x.2)) G, .bool true] ∧ PoOk b m st g G ∧ ∀ j, w = some j → ∃ l, st[j]? = some (true, l)) ∧ os' = gapO 7 r (poU m st g w))) : Spec Try.prog f args (poO m st0 g0) (dePost b m) := by
  refine Spec.weak h ?_
  rintro d os' ⟨st, g, w, G, r, ⟨rfl, h1, h2⟩, rfl⟩
  exact ⟨_, _, Weak.ungap rfl, st, g, w, G, ⟨rfl, h1, h2⟩, rfl⟩
theorem tupd {a : D} {p : Prop} [i : Decidable p] (h : p) : D.tup [a, .bool (decide p)] = D.tup [a, .bool true] := by rw [decide_eq_true h]
theorem tupe {a : D} (b : Bool) : D.tup [a, .bool (b == b)] = D.tup [a, .bool true] := by cases b <;> rfl
theorem does107 {b : Nat} {m : Int} {st : List (Bool × List Int)} {g : Gl} {G : List Int} (h : PoOk b m st g G) (hb : b ≤ 900) (kd W N : Int) : Spec Try.prog 107 [.ptr 0 0 2 0 0, poV m (st.map (fun x : Bool × List Int => x.2)) G, dlD kd W N] (poO m st g) (dePost (b + 1) m) := by
  refine Spec.ungap ?_
  have hst := h.n
  have hL : (st.map (fun x : Bool × List Int => x.2)).length ≤ 1000 := by rw [List.length_map]; omega
  have hl : ∀ l ∈ st.map (fun x : Bool × List Int => x.2), l.length ≤ 1000 := fun l hl => by
    obtain ⟨s, hs, rfl⟩ := List.mem_map.1 hl
    have := h.l s hs
    have := h.r
    omega
  have hG : G.length ≤ 1000 := by have := h.G; omega
  refine Spec.by Try.func107 rfl (by decide) (by decide +kernel) rfl ?_
  (refine goA ?_)
  refine Br.dec (fun h0 => ?_) (fun h0 => ?_)
  · skip
    (refine goA ?_)
    refine Call.mk ((give177 m (st.map (fun x : Bool × List Int => x.2)) G W N (by omega) hl hG).only _ rfl (by rintro d rfl; rfl)) ?_; rintro d os' ⟨rfl, rfl⟩
    (refine goA ?_)
    refine Call.mk ((give81 h hb W N).behindN [one (.row 157 3 false [poV m (st.map (fun x : Bool × List Int => x.2)) G]), one (.row 120 3 false [dlD kd W N]), one (.row 157 3 false [.agg [.int .i64 0, .nils, .nils]]), one (.row 157 3 false [poV m (giveP m (st.map (fun x : Bool × List Int => x.2)) G W N).1 (giveP m (st.map (fun x : Bool × List Int => x.2)) G W N).2.1])] rfl (poO_lt m st g)) ?_
    rintro d os' ⟨d1, os1, ⟨st', g', w, ⟨rfl, hp', hL', hw⟩, rfl⟩, rfl, rfl⟩
    rw [← hL']
    (refine goA ?_)
    exact Ret.mk [.cell 6 157, .tmp 7] rfl ⟨st', g', w, _, [one (.row 157 3 false [poV m (st.map (fun x : Bool × List Int => x.2)) G]), one (.row 120 3 false [dlD kd W N]), one (.row 157 3 false [poV m (st'.map (fun x : Bool × List Int => x.2)) (giveP m (st.map (fun x : Bool × List Int => x.2)) G W N).2.1]), one (.row 157 3 false [poV m (st'.map (fun x : Bool × List Int => x.2)) (giveP m (st.map (fun x : Bool × List Int => x.2)) G W N).2.1])], ⟨tupd rfl, hp', hw⟩, rfl⟩
  (refine goA ?_)
  refine Br.dec (fun h1 => ?_) (fun h1 => ?_)
  · skip
    (refine goA ?_)
    refine Call.mk ((take178 m (st.map (fun x : Bool × List Int => x.2)) G W (by omega) hl hG).only _ rfl (by rintro d rfl; rfl)) ?_; rintro d os' ⟨rfl, rfl⟩
    (refine goA ?_)
    refine Call.mk ((take84 h hb W).behindN [one (.row 157 3 false [poV m (st.map (fun x : Bool × List Int => x.2)) G]), one (.row 120 3 false [dlD kd W N]), one (.row 157 3 false [.agg [.int .i64 0, .nils, .nils]]), one (.row 157 3 false [poV m (takeP (st.map (fun x : Bool × List Int => x.2)) G W).1 (takeP (st.map (fun x : Bool × List Int => x.2)) G W).2.1])] rfl (poO_lt m st g)) ?_
    rintro d os' ⟨d1, os1, ⟨st', g', w, ⟨rfl, hp', hL', hw⟩, rfl⟩, rfl, rfl⟩
    rw [← hL']
    (refine goA ?_)
    exact Ret.mk [.cell 6 157, .tmp 7] rfl ⟨st', g', w, _, [one (.row 157 3 false [poV m (st.map (fun x : Bool × List Int => x.2)) G]), one (.row 120 3 false [dlD kd W N]), one (.row 157 3 false [poV m (st'.map (fun x : Bool × List Int => x.2)) (takeP (st.map (fun x : Bool × List Int => x.2)) G W).2.1]), one (.row 157 3 false [poV m (st'.map (fun x : Bool × List Int => x.2)) (takeP (st.map (fun x : Bool × List Int => x.2)) G W).2.1])], ⟨tupd rfl, hp', hw⟩, rfl⟩
  (refine goA ?_)
  refine Br.dec (fun h2 => ?_) (fun h2 => ?_)
  · (refine goA ?_)
    refine Call.mk ((put158 h hb N).behindN [one (.row 157 3 false [poV m (st.map (fun x : Bool × List Int => x.2)) G]), one (.row 120 3 false [dlD kd W N]), one (.row 157 3 false [.agg [.int .i64 0, .nils, .nils]])] rfl (poO_lt m st g)) ?_
    rintro d os' ⟨d1, os1, ⟨g', ⟨rfl, hp'⟩, rfl⟩, rfl, rfl⟩
    (refine goA ?_)
    refine Call.mk ((put179 m (st.map (fun x : Bool × List Int => x.2)) G N hG).only _ rfl (by rintro d rfl; rfl)) ?_; rintro d os' ⟨rfl, rfl⟩
    (refine goA ?_)
    exact Ret.mk [.cell 6 157, .tmp 7] rfl ⟨st, g', none, _, [one (.row 157 3 false [poV m (st.map (fun x : Bool × List Int => x.2)) G]), one (.row 120 3 false [dlD kd W N]), one (.row 157 3 false [poV m (st.map (fun x : Bool × List Int => x.2)) (G ++ [N])])], ⟨rfl, hp', fun _ h => by cases h⟩, rfl⟩
  (refine goA ?_)
  refine Br.dec (fun h3 => ?_) (fun h3 => ?_)
  · skip
    (refine goA ?_)
    refine Call.mk ((pull180 m (st.map (fun x : Bool × List Int => x.2)) G N hL hl hG).only _ rfl (by rintro d rfl; rfl)) ?_; rintro d os' ⟨rfl, rfl⟩
    (refine goA ?_)
    refine Call.mk ((pull181 h hb N).behindN [one (.row 157 3 false [poV m (st.map (fun x : Bool × List Int => x.2)) G]), one (.row 120 3 false [dlD kd W N]), one (.row 157 3 false [.agg [.int .i64 0, .nils, .nils]]), one (.row 157 3 false [poV m (pullP (st.map (fun x : Bool × List Int => x.2)) G N).1 (pullP (st.map (fun x : Bool × List Int => x.2)) G N).2.1])] rfl (poO_lt m st g)) ?_
    rintro d os' ⟨d1, os1, ⟨st', g', w, ⟨rfl, hp', hL', hw⟩, rfl⟩, rfl, rfl⟩
    rw [← hL']
    (refine goA ?_)
    exact Ret.mk [.cell 6 157, .tmp 7] rfl ⟨st', g', w, _, [one (.row 157 3 false [poV m (st.map (fun x : Bool × List Int => x.2)) G]), one (.row 120 3 false [dlD kd W N]), one (.row 157 3 false [poV m (st'.map (fun x : Bool × List Int => x.2)) (pullP (st.map (fun x : Bool × List Int => x.2)) G N).2.1]), one (.row 157 3 false [poV m (st'.map (fun x : Bool × List Int => x.2)) (pullP (st.map (fun x : Bool × List Int => x.2)) G N).2.1])], ⟨tupe _, hp', hw⟩, rfl⟩
  skip
  (refine goA ?_)
  refine Call.mk ((steal182 m (st.map (fun x : Bool × List Int => x.2)) G W N (by omega) hl).only _ rfl (by rintro d rfl; rfl)) ?_; rintro d os' ⟨rfl, rfl⟩
  (refine goA ?_)
  refine Call.mk ((steal87 h hb W N).behindN [one (.row 157 3 false [poV m (st.map (fun x : Bool × List Int => x.2)) G]), one (.row 120 3 false [dlD kd W N]), one (.row 157 3 false [.agg [.int .i64 0, .nils, .nils]]), one (.row 157 3 false [poV m (stealP (st.map (fun x : Bool × List Int => x.2)) W N).1 G])] rfl (poO_lt m st g)) ?_
  rintro d os' ⟨d1, os1, ⟨st', g', w, ⟨rfl, hp', hL', hw⟩, rfl⟩, rfl, rfl⟩
  rw [← hL']
  (refine goA ?_)
  exact Ret.mk [.cell 6 157, .tmp 7] rfl ⟨st', g', w, _, [one (.row 157 3 false [poV m (st.map (fun x : Bool × List Int => x.2)) G]), one (.row 120 3 false [dlD kd W N]), one (.row 157 3 false [poV m (st'.map (fun x : Bool × List Int => x.2)) G]), one (.row 157 3 false [poV m (st'.map (fun x : Bool × List Int => x.2)) G])], ⟨tupd rfl, hp', hw⟩, rfl⟩
end Go.Proofs.Ytaplihoeephbeaa.V
end
section
namespace Go.Proofs.Ytaplihoeephbeaa.V
open Go Go.Proofs
set_option maxRecDepth 100000
set_option maxHeartbeats 40000000
/-- As fuφ, one object further on. -/
def fu1 (w : Option Nat) (i j : Nat) : Nat × Nat := if i = 9 then (4, j) else if i = 4 then (9, j) else if i = 10 then (5, j) else if i = 5 then (10, j) else if i = 11 then (6, j) else if i = 6 then (11, j) else if i = 8 then (if j = 0 ∧ w ≠ none then (3, w.getD 0) else (8, j)) else if i = 3 then (if w = some j then (8, 0) else (3, j)) else (i, j)
theorem fu1_fu1 (w : Option Nat) (i j : Nat) : fu1 w (fu1 w i j).1 (fu1 w i j).2 = (i, j) := by
  unfold fu1
  by_cases h1 : i = 9
  · simp [h1]
  by_cases h2 : i = 4
  · simp [h2]
  by_cases h3 : i = 10
  · simp [h3]
  by_cases h4 : i = 5
  · simp [h4]
  by_cases h5 : i = 11
  · simp [h5]
  by_cases h6 : i = 6
  · simp [h6]
  by_cases h7 : i = 8
  · cases w with
    | none => simp [h7]
    | some k => by_cases h8 : j = 0 <;> simp [h7, h8]
  by_cases h9 : i = 3
  · by_cases h10 : w = some j
    · simp [h9, h10]
    · simp [h9, h10]
  simp [h1, h2, h3, h4, h5, h6, h7, h9]
/-- What a deed left takes the pool's own places; one other object lies behind, and one that is left. -/
theorem Weak.fromU1 {sl : List (Nat × D)} {m : Int} {st : List (Bool × List Int)} {g : Gl} (w : Option Nat) (hw : ∀ j, w = some j → ∃ l, st[j]? = some (true, l)) {r : Objs} (hr : r.length = 1) (hrm : ∀ i j, (r.at i j).mapId (fu1 w) = r.at i j) (hrl : ∀ i j, (r.at i j).lt 8 = true) (x : Fam) (hm : ((mapM (fu1 w) sl).all fun p => p.2.lt 8) = true) :
    Weak 0 { m := sl, objs := gapO 7 r (poU m st g w) ++ [x] } { m := mapM (fu1 w) sl, objs := poO m st g ++ r } := by
  have f3 : ∀ j, w ≠ some j → fu1 w 3 j = (3, j) := fun j h => by unfold fu1; simp [h]
  have f3w : ∀ j, w = some j → fu1 w 3 j = (8, 0) := fun j h => by unfold fu1; simp [h]
  have f7 : ∀ j, w = some j → fu1 w 8 0 = (3, j) := fun j h => by unfold fu1; simp [h]
  have f2 : ∀ j, fu1 w 2 j = (2, j) := fun j => rfl
  have gl := fun {i : Nat} (j : Nat) (hi : i < 7) => gapO_lt 7 r (poU m st g w) (Nat.le_of_ble_eq_true rfl) (i := i) j hi
  have gm := fun {i : Nat} (j : Nat) (hi : i < 1) => gapO_mid 7 r (poU m st g w) (Nat.le_of_ble_eq_true rfl) (i := i) j (by omega)
  have gg := fun (i j : Nat) => gapO_ge 7 r (poU m st g w) (Nat.le_of_ble_eq_true rfl) i j
  rw [hr] at gg gl
  have hgl : (gapO 7 r (poU m st g w)).length = 12 := by
    simp only [gapO, List.length_append, List.length_map, List.length_take, List.length_drop, hr]; rfl
  have gx : ∀ i j, i < 12 → Objs.at (gapO 7 r (poU m st g w) ++ [x]) i j = Objs.at (gapO 7 r (poU m st g w)) i j := fun i j hi => at_lt _ _ _ (by rw [hgl]; exact hi)
  refine Weak.trans (t := { m := mapM (fu1 w) sl, objs := poO m st g ++ r ++ [one .gone, one .gone, one .gone, one .gone, one .gone] }) (Weak.rens (fu1 w) (fu1 w) (fun i j h => by cases h) (fu1_fu1 w) (fun i j _ => fu1_fu1 w i j) (fun i j h => ?_) (Nat.zero_le _) (fun i j hne => ?_)) ?_
  · have h' : 13 ≤ i := by rw [List.length_append, List.length_append, hr] at h; exact h
    rw [List.length_append, hgl]
    unfold fu1
    rw [if_neg (by omega), if_neg (by omega), if_neg (by omega), if_neg (by omega), if_neg (by omega), if_neg (by omega), if_neg (by omega), if_neg (by omega)]
    exact h'
  · rcases Nat.lt_or_ge i 7 with hi | hi
    · have e : Objs.at (poO m st g ++ r ++ [one .gone, one .gone, one .gone, one .gone, one .gone]) i j = (poO m st g).at i j := by
        rw [at_lt _ _ _ (by rw [List.length_append]; exact Nat.lt_of_lt_of_le hi (Nat.le_add_right 7 _)), at_lt _ _ _ hi]
      rw [e] at hne ⊢
      match i, j, hi with
      | 0, 0, _ => show _ = (Objs.at (gapO 7 r (poU m st g w) ++ [x]) 0 0).mapId _; rw [gx 0 0 (by omega), gl 0 (by omega)]; rfl
      | 1, 0, _ =>
        show _ = (Objs.at (gapO 7 r (poU m st g w) ++ [x]) 1 0).mapId _
        rw [gx 1 0 (by omega), gl 0 (by omega)]
        show O.row 102 1 false (ptrs st.length) = O.row 102 1 false (D.mapIdL (fu1 w) (D.mapIdL (gap 7 1) (ptrs st.length)))
        rw [ptrs_map (gap 7 1) (fun j => rfl), ptrs_map (fu1 w) f2]
      | 2, j, _ =>
        show cellF m st j = (Objs.at (gapO 7 r (poU m st g w) ++ [x]) 2 j).mapId _
        rw [gx 2 j (by omega), gl j (by omega)]
        show cellF m st j = ((cellU m st w j).mapId (gap 7 1)).mapId (fu1 w)
        by_cases h : w = some j
        · obtain ⟨l, hl⟩ := hw j h
          unfold cellU
          rw [if_pos h, cellF_some hl, List.getD_eq_getElem?_getD, hl]
          show _ = O.row 201 2 false [.agg [.int .i64 m, .sl (fu1 w 8 0).1 (fu1 w 8 0).2 1 0 l.length none]]
          rw [f7 j h]; rfl
        · unfold cellU
          rw [if_neg h, mapO_cellF (gap 7 1) (fun j => rfl)]
          unfold cellF
          split
          · rfl
          · show _ = O.row 201 2 false [.agg [.int .i64 m, .sl (fu1 w 3 j).1 (fu1 w 3 j).2 1 0 _ none]]
            rw [f3 j h]
          · rfl
      | 3, j, _ =>
        by_cases h : w = some j
        · obtain ⟨l, hl⟩ := hw j h
          rw [f3w j h]
          show rwF st j = (Objs.at (gapO 7 r (poU m st g w) ++ [x]) 8 0).mapId _
          rw [gx 8 0 (by omega), show (8 : Nat) = 7 + 1 + 0 from rfl, gg 0 0]
          show rwF st j = ((rowW st w).mapId _).mapId _
          rw [rwF_some hl, h]
          show _ = O.row 3 1 true ((st.getD j (true, [])).2.map (D.int .i64))
          rw [List.getD_eq_getElem?_getD, hl]; rfl
        · rw [f3 j h]
          show rwF st j = (Objs.at (gapO 7 r (poU m st g w) ++ [x]) 3 j).mapId _
          rw [gx 3 j (by omega), gl j (by omega)]
          show rwF st j = ((rowU st w j).mapId _).mapId _
          unfold rowU
          rw [if_neg h, mapO_rwF, mapO_rwF]
      | 4, 0, _ =>
        show _ = (Objs.at (gapO 7 r (poU m st g w) ++ [x]) (7 + 1 + 1) 0).mapId _
        rw [gx (7 + 1 + 1) 0 (by omega), gg 1 0]
        show poRo g 5 = ((poRo g 9).mapId _).mapId _
        rw [mapO_poRo (φ := gap 7 1) (q := 9) (q' := 10) (fun _ => rfl), mapO_poRo (φ := fu1 w) (q := 10) (q' := 5) (fun _ => rfl)]
      | 5, 0, _ =>
        show _ = (Objs.at (gapO 7 r (poU m st g w) ++ [x]) (7 + 1 + 2) 0).mapId _
        rw [gx (7 + 1 + 2) 0 (by omega), gg 2 0]
        show poRi g 6 = ((poRi g 10).mapId _).mapId _
        rw [mapO_poRi (φ := gap 7 1) (r := 10) (r' := 11) (fun _ => rfl), mapO_poRi (φ := fu1 w) (r := 11) (r' := 6) (fun _ => rfl)]
      | 6, 0, _ =>
        show _ = (Objs.at (gapO 7 r (poU m st g w) ++ [x]) (7 + 1 + 3) 0).mapId _
        rw [gx (7 + 1 + 3) 0 (by omega), gg 3 0]
        show poRw g = ((poRw g).mapId _).mapId _
        rw [mapO_poRw, mapO_poRw]
      | 0, j + 1, _ | 1, j + 1, _ | 4, j + 1, _ | 5, j + 1, _ | 6, j + 1, _ => exact absurd rfl hne
    · rcases Nat.lt_or_ge i 8 with hi2 | hi2
      · have e : Objs.at (poO m st g ++ r ++ [one .gone, one .gone, one .gone, one .gone, one .gone]) i j = r.at (i - 7) j := by
          rw [at_lt _ _ _ (by rw [List.length_append, hr]; exact hi2), at_r _ _ _ hi]; rfl
        have ef : fu1 w i j = (i, j) := by
          unfold fu1
          rw [if_neg (by omega), if_neg (by omega), if_neg (by omega), if_neg (by omega), if_neg (by omega), if_neg (by omega), if_neg (by omega), if_neg (by omega)]
        have := gm (i := i - 7) j (by omega)
        rw [show 7 + (i - 7) = i by omega] at this
        rw [e, ef]
        dsimp only
        rw [gx i j (by omega), this, hrm]
      · refine absurd ?_ hne
        rw [at_r _ _ _ (by rw [List.length_append, hr]; exact hi2)]
        have e : ∀ x y, Objs.at [one .gone, one .gone, one .gone, one .gone, one .gone] x y = .gone := fun x y => by
          match x, y with
          | 0, 0 | 1, 0 | 2, 0 | 3, 0 | 4, 0 => rfl
          | 0, y + 1 | 1, y + 1 | 2, y + 1 | 3, y + 1 | 4, y + 1 => rfl
          | x + 5, y => rfl
        exact e _ _
  · have ht : (poO m st g ++ r ++ [one .gone, one .gone, one .gone, one .gone, one .gone]).take 8 = poO m st g ++ r := by
      rw [List.take_left' (by rw [List.length_append, hr]; rfl)]
    have := Weak.takeF (n0 := 0) (m := mapM (fu1 w) sl) (os := poO m st g ++ r ++ [one .gone, one .gone, one .gone, one .gone, one .gone]) 8 (Nat.zero_le _) hm (fun i j hi => ?_) (by rw [List.length_append, List.length_append, hr]; exact Nat.le_of_ble_eq_true rfl)
    · rw [ht] at this; exact this
    · rw [at_lt _ _ _ (by rw [List.length_append, hr]; exact hi)]
      rcases Nat.lt_or_ge i 7 with h | h
      · rw [at_lt _ _ _ (show i < (poO m st g).length from h)]
        exact lt_mono (by omega) _ (poO_lt m st g i j)
      · rw [at_r _ _ _ (show (poO m st g).length ≤ i from h)]
        exact hrl _ _
end Go.Proofs.Ytaplihoeephbeaa.V
end
section
namespace Go.Proofs.Ytaplihoeephbeaa.V
open Go Go.Proofs
set_option maxRecDepth 100000
set_option maxHeartbeats 40000000
@[reducible] def cV (m : Int) (st : List (Bool × List Int)) (G : List Int) : Fam := one (.row 157 3 false [poV m (st.map (fun x : Bool × List Int => x.2)) G])
theorem like_at {b : Nat} {m : Int} {st : List (Bool × List Int)} {g : Gl} {G : List Int} (h : PoOk b m st g G) (hb : b ≤ 900) (c : Fam) : Spec Try.prog 106 [.ptr 0 0 2 0 0, poV m (st.map (fun x : Bool × List Int => x.2)) G] (poO m st g ++ [c]) (fun d os' => d = .bool true ∧ os' = poO m st g ++ [c]) := by
  refine ((like106 h hb).behind [c] rfl (poO_lt m st g) (by rintro d os' ⟨rfl, rfl⟩; rfl)).mono ?_
  rintro d os' ⟨os1, ⟨rfl, rfl⟩, rfl⟩
  exact ⟨rfl, rfl⟩
structure Op7 where
  i : Nat
  st : List (Bool × List Int)
  g : Gl
  G : List Int
theorem law28 (x y : Int) (l : List (Int × Int × Int)) (hx : I64 x) (hy : I64 y) (hl : dlok l) : Spec Try.prog 28 [.int .i64 x, .int .i64 y, dls l] [] (fun d _ => d = .bool true) := by
  have hlm : (l.map dlT).length = l.length := List.length_map ..
  have hl1 := hl.1
  have h80 := new80 x y
  have h80k := newOk x y
  have h105 := new105 x y
  obtain ⟨k, hk⟩ : ∃ k : Nat, (wkI x).toNat = k := ⟨_, rfl⟩
  obtain ⟨M, hM⟩ : ∃ M, dqI y = M := ⟨_, rfl⟩
  have hst : (noth k).map (fun x : Bool × List Int => x.2) = List.replicate k [] := by unfold noth; rw [List.map_replicate]
  rw [hk, hM] at h80 h80k h105
  rw [← hst] at h105
  refine Spec.by Try.func28 rfl (by decide) (by decide +kernel) rfl ?_
  (refine goA ?_)
  refine Call.mk h80 ?_
  rintro d os' ⟨rfl, rfl⟩
  (refine goA ?_)
  refine Call.mk ((h105).only _ rfl (by rintro d rfl; rfl)) ?_; rintro d os' ⟨rfl, rfl⟩
  (refine goA ?_)
  refine Call.mk (like_at h80k (by omega) _) ?_
  rintro d os' ⟨rfl, rfl⟩
  (refine goA ?_)
  refine Loop.inv (A := Op7) (List.range 54) (fun a => [(2, dls l), (7, .ptr 0 0 2 0 0), (8, .ptr 7 0 3 0 0), (9, .int .i64 (a.i : Int))]) (fun a => poO M a.st a.g ++ [cV M a.st a.G]) (fun a => a.i ≤ 60 ∧ a.i ≤ l.length ∧ PoOk a.i M a.st a.g a.G) (fun a => 60 - a.i) ⟨0, noth k, ⟨0, false, 0, 0, []⟩, []⟩ ⟨Nat.zero_le _, Nat.zero_le _, h80k⟩ ?_ ?_
  · exact Weak.start' rfl rfl tld
  rintro ⟨i, st, g, G⟩ ⟨hi, hil, hp⟩
  dsimp only at hi hil hp ⊢
  (refine goA ?_)
  refine Br.dec (fun h0 => ?_) (fun h0 => ?_)
  · (refine goA ?_)
    refine Br.dec (fun h6 => ?_) (fun h6 => ?_)
    · have hlt : i < l.length := by omega
      obtain ⟨v, hv⟩ : ∃ v, l[i]? = some v := ⟨_, List.getElem?_eq_getElem hlt⟩
      (refine goA ?_)
      refine Opt.of (get_map hv) ?_
      (refine goR ?_)
      refine Call.mk ((does107 hp (by omega) v.1 v.2.1 v.2.2).behindN [cV M st G] rfl (poO_lt M st g)) ?_
      rintro d os' ⟨d1, os1, ⟨st', g', w, G', ⟨rfl, hp', hw⟩, rfl⟩, rfl, rfl⟩
      (refine goR ?_)
      ((with_reducible refine Pt.go ?_); conv => whnf)
      (refine goR ?_)
      refine Pt.weak (Weak.trans (Weak.only [(2, dls l), (7, .ptr 0 0 2 0 0), (8, .ptr 7 0 3 0 0), (9, .int .i64 (i : Int)), (11, .bool true)] (gapO 7 [cV M st' G'] (poU M st' g' w) ++ [cV M st' G']) (by kernel_rfl) tld) (Weak.fromU1 w hw rfl (fun a c => ?_) (fun a c => ?_) (cV M st' G') rfl)) ?_
      · match a, c with
        | 0, 0 => rfl
        | 0, c + 1 => rfl
        | a + 1, c => rfl
      · match a, c with
        | 0, 0 => rfl
        | 0, c + 1 => rfl
        | a + 1, c => rfl
      (refine goA ?_)
      refine Call.mk (like_at hp' (by omega) _) ?_
      rintro d os' ⟨rfl, rfl⟩
      (refine goA ?_)
      refine ⟨_, _, _, ?_, ⟨(⟨i + 1, st', g', G'⟩ : Op7), ?_, rfl, rfl, rfl⟩, ?_⟩
      · show 60 - (i + 1) < 60 - i; omega
      · exact ⟨by show i + 1 ≤ 60; omega, hlt, hp'⟩
      · refine Weak.only _ _ ?_ ?_
        · kernel_rfl
        · exact tld
    · (refine goA ?_)
      refine Call.mk ((lives79).only _ rfl (by rintro d rfl; rfl)) ?_; rintro d os' ⟨rfl, rfl⟩
      (refine goA ?_)
      exact Ret.mk [.tmp _] rfl rfl
  · (refine goA ?_)
    refine Call.mk ((lives79).only _ rfl (by rintro d rfl; rfl)) ?_; rintro d os' ⟨rfl, rfl⟩
    (refine goA ?_)
    exact Ret.mk [.tmp _] rfl rfl
end Go.Proofs.Ytaplihoeephbeaa.V
end
section
namespace Go.Proofs.Ytaplihoeephbeaa.V
open Go Go.RowKit Go.ChangeShapes Go.WideShapes

/-- Whatever reads as data of type t is told by a D; J: what else is known of it. -/
def Opens {α : Type} (P : Program) (t : TypeId) (enc : α → D) (J : α → Prop) : Prop :=
  ∀ {H : Type} (en : TypeId × Value → H) (w : World) (base : Nat) (sp : Nat → Bool) (held : Bool) (fuel : Nat) (cs : List Value) (x : DataW H × List MemPlace),
    DataW.trod en P w base sp held fuel t cs = some x → (x.1.weights P t).all (· ≤ reachBytes) = true →
    ∃ a v, rep bot (heapIm w) (enc a) v ∧ enc a ≠ .junk ∧ v.cells.toList = cs ∧ (∀ c ∈ cs, c.oneCell' = true) ∧ J a
theorem opens_int {P : Program} {t : TypeId} (ht : P.underlying t = some (.int .i64)) : Opens P t (D.int .i64) (fun n => -9223372036854775808 ≤ n ∧ n ≤ 9223372036854775807) := fun en w base sp held fuel cs x h _ => by
  obtain ⟨n, rfl, rfl, hw⟩ := DataW.trod_int ht h
  refine ⟨n, .int .i64 n, by rw [rep], by simp, rfl, by simp [Value.oneCell'], ?_⟩
  simp [Lit.wf, IntKind.min, IntKind.max, IntKind.signed, IntKind.bits] at hw
  omega
theorem exists_list {α : Type} (n : Nat) (Q : Nat → α → Prop) (h : ∀ i, i < n → ∃ a, Q i a) : ∃ xs : List α, xs.length = n ∧ ∀ i a, xs[i]? = some a → Q i a := by
  induction n with
  | zero => exact ⟨[], rfl, fun i a hi => by simp at hi⟩
  | succ n ih =>
    obtain ⟨xs, hl, hx⟩ := ih (fun i hi => h i (by omega))
    obtain ⟨a, ha⟩ := h n (by omega)
    refine ⟨xs ++ [a], by simp [hl], fun i b hi => ?_⟩
    by_cases hlt : i < n
    · rw [List.getElem?_append_left (by omega)] at hi; exact hx i b hi
    · have hle : i = n := by
        have := (List.getElem?_eq_some_iff.1 hi).1
        simp at this; omega
      subst hle
      rw [List.getElem?_append_right (by omega), hl] at hi
      simp at hi
      exact hi ▸ ha
theorem weights_at {H : Type} {P : Program} {e : TypeId} : ∀ {l : List (DataW H)} {d : DataW H}, d ∈ l → (DataW.weightsAll P e l).all (· ≤ reachBytes) = true → (d.weights P e).all (· ≤ reachBytes) = true
  | y :: r, d, hd, h => by
    rw [DataW.weightsAll, List.all_append, Bool.and_eq_true] at h
    rcases List.mem_cons.1 hd with rfl | hd
    · exact h.1
    · exact weights_at hd h.2
theorem repL_of {ρ : Pl} {I : Im} : ∀ (ds : List D) (vs : List Value), ds.length = vs.length → (∀ (i : Nat) d v, ds[i]? = some d → vs[i]? = some v → rep ρ I d v) → repL ρ I ds vs
  | [], [], _, _ => repL_nil.2 rfl
  | [], _ :: _, h, _ => by simp at h
  | _ :: _, [], h, _ => by simp at h
  | d :: ds, v :: vs, hl, h => repL_cons.2 ⟨v, vs, rfl, h 0 d v rfl rfl, repL_of ds vs (by simpa using hl) (fun i d' v' h1 h2 => h (i + 1) d' v' (by simpa using h1) (by simpa using h2))⟩
/-- The cells of a row of values, each of sz. -/
theorem flat_get {sz : Nat} : ∀ {us : List Value}, (∀ u ∈ us, u.cells.size = sz) → ∀ {j : Nat} {c : Value}, (flat us)[j]? = some c → ∃ u, us[j / sz]? = some u ∧ u.cells.toList[j % sz]? = some c ∧ 0 < sz
  | [], _, j, c, h => by simp [flat] at h
  | u :: us, hu, j, c, h => by
    rw [flat_cons] at h
    have hs : u.cells.toList.length = sz := by simpa using hu u (by simp)
    by_cases hj : j < sz
    · rw [List.getElem?_append_left (by omega)] at h
      exact ⟨u, by rw [Nat.div_eq_of_lt hj]; rfl, by rw [Nat.mod_eq_of_lt hj]; exact h, by omega⟩
    · rw [List.getElem?_append_right (by omega), hs] at h
      obtain ⟨u', h1, h2, h3⟩ := flat_get (fun u hu' => hu u (List.mem_cons_of_mem _ hu')) h
      refine ⟨u', ?_, ?_, h3⟩
      · rw [show j / sz = (j - sz) / sz + 1 by
          rw [show j = (j - sz) + sz by omega, Nat.add_div_right _ h3]; simp]
        simpa using h1
      · rw [← h2]; congr 1
        conv => lhs; rw [show j = (j - sz) + sz by omega]
        simp
theorem prefix_of {cs l : List Value} (h : ∀ (j : Nat) c, cs[j]? = some c → l[j]? = some c) : cs <+: l := by
  have hl : cs.length ≤ l.length := by
    rcases Nat.eq_zero_or_pos cs.length with h0 | h0
    · omega
    · have := h (cs.length - 1) _ (List.getElem?_eq_getElem (by omega))
      have := (List.getElem?_eq_some_iff.1 this).1
      omega
  have : cs = l.take cs.length := by
    apply List.ext_getElem?
    intro j
    by_cases hj : j < cs.length
    · rw [List.getElem?_take, if_pos hj, h j _ (List.getElem?_eq_getElem hj), List.getElem?_eq_getElem hj]
    · rw [List.getElem?_eq_none (by omega), List.getElem?_take, if_neg hj]
  rw [this]; exact List.take_prefix _ _
theorem opens_slice {α : Type} {P : Program} {t e : TypeId} {enc : α → D} {J : α → Prop} {sz : Nat} (ht : P.underlying t = some (.slice e)) (he : Opens P e enc J) (hsz : P.cellsOf e = sz) (h0 : 0 < sz) :
    Opens P t (fun xs : List α => D.lst sz false (xs.map enc)) (fun xs => xs.length ≤ maxLen ∧ xs.length * P.bytesOf e ≤ 140737488351232 ∧ ∀ x ∈ xs, J x) := fun en w base sp held fuel cs x h hwt => by
  rcases DataW.trod_slice ht h with ⟨rfl, rfl⟩ | ⟨a, len, cap, elems, rest, n, rfl, rfl, rfl, hb, hl, hm, hlen, hel, _, _⟩
  · refine ⟨[], .slice none 0 0, ?_, by simp, rfl, by simp [Value.oneCell'], by simp [maxLen], by simp, by simp⟩
    rw [rep]
    exact ⟨none, 0, [], rfl, by simp, by simp [maxLen], by simp, repL_nil.2 rfl, by simp, .inl rfl⟩
  · rw [DataW.weights, ht] at hwt
    simp only [List.all_cons, List.all_append, Bool.and_eq_true, decide_eq_true_eq, List.length_map] at hwt
    obtain ⟨hw0, hw1, _⟩ := hwt
    obtain ⟨xs, hxl, hx⟩ := exists_list len (fun i (p : α × Value) => rep bot (heapIm w) (enc p.1) p.2 ∧ Value.fine p.2 sz ∧ J p.1 ∧ ∀ k c, p.2.cells.toList[k]? = some c → w.cell? (a.add (i * sz + k)) = some c) (fun i hi => by
      have hE := hel i hi
      have hi2 : i < elems.length := by omega
      rw [List.getElem?_eq_getElem hi2, Option.bind_eq_some_iff] at hE
      obtain ⟨c, hc, hy⟩ := hE
      obtain ⟨p, v, h1, h2, h3, h4, h5⟩ := he en w base sp held n c _ hy (weights_at (l := elems.map (·.1)) (List.mem_map.2 ⟨_, List.getElem_mem hi2, rfl⟩) hw1)
      obtain ⟨_, hcl, hcc⟩ := World.cells?_some hc
      rw [hsz] at hcl hcc
      refine ⟨(p, v), h1, ⟨by simpa [← h3] using hcl, fun c hc => h4 c (by rw [← h3]; exact hc)⟩, h5, fun k u hk => ?_⟩
      rw [h3] at hk
      have hkl : k < sz := by have := (List.getElem?_eq_some_iff.1 hk).1; omega
      have := (hcc k hkl).trans hk
      rw [← this]
      congr 1
      unfold Addr.add
      by_cases hm : i * sz = 0 <;> by_cases hn : k = 0 <;> simp [hm, hn, Nat.add_assoc])
    have hfine : ∀ u ∈ xs.map (·.2), Value.fine u sz := by
      intro u hu
      obtain ⟨p, hp, rfl⟩ := List.mem_map.1 hu
      obtain ⟨j, hj⟩ := List.getElem?_of_mem hp
      exact (hx j p hj).2.1
    refine ⟨xs.map (·.1), .slice (some a) len cap, ?_, by simp, rfl, by simp [Value.oneCell'], ?_, ?_, ?_⟩
    · rw [rep]
      refine ⟨some a, cap, xs.map (·.2), by simp [hxl], by simpa [hxl] using hl, hm, by simp, repL_of _ _ (by simp) ?_, hfine, ?_⟩
      · intro i d v h1 h2
        rw [List.map_map, List.getElem?_map, Option.map_eq_some_iff] at h1
        rw [List.getElem?_map, Option.map_eq_some_iff] at h2
        obtain ⟨p, hp, rfl⟩ := h1
        obtain ⟨q, hq, rfl⟩ := h2
        have : p = q := Option.some.inj (hp.symm.trans hq)
        subst this
        exact (hx i p hp).1
      · rcases Nat.eq_zero_or_pos len with hz | hz
        · left; rw [List.eq_nil_of_length_eq_zero (l := xs) (by omega)]; rfl
        · right
          have hcell : ∀ j c, (flat (xs.map (·.2)))[j]? = some c → w.cell? (a.add j) = some c := by
            intro j c hj
            obtain ⟨u, h1, h2, h3⟩ := flat_get (fun u hu => (hfine u hu).1) hj
            rw [List.getElem?_map, Option.map_eq_some_iff] at h1
            obtain ⟨p, hp, rfl⟩ := h1
            have := (hx _ p hp).2.2.2 _ c h2
            rwa [Nat.mul_comm, Nat.div_add_mod] at this
          have hfl : (flat (xs.map (·.2))).length = len * sz := by rw [flat_length (fun u hu => (hfine u hu).1)]; simp [hxl]
          have h00 := hcell 0 _ (List.getElem?_eq_getElem (by rw [hfl]; exact Nat.mul_pos hz h0))
          have ha0 : a.add 0 = a := by simp [Addr.add]
          rw [ha0] at h00
          obtain ⟨b, o, spt⟩ := a
          unfold World.cell? at h00
          split at h00
          case h_2 => simp at h00
          rename_i arr t' fz hblk
          have hsp : spt = none := by cases spt with | none => rfl | some k => simp at h00
          subst hsp
          refine ⟨b, o, arr, t', fz, rfl, hblk, prefix_of fun j c hj => ?_⟩
          have := hcell j c hj
          have ea : Addr.add ⟨b, o, none⟩ j = ⟨b, o + j, none⟩ := by unfold Addr.add; by_cases hj0 : j = 0 <;> simp [hj0]
          rw [ea] at this
          unfold World.cell? at this
          have hblk' : w.heap[b]? = some (.cells arr t' fz) := hblk
          rw [hblk'] at this
          simp at this
          rw [List.getElem?_drop, Array.getElem?_toList]; exact this
    · have hmm : maxLen = 9223372036854775807 := by decide
      simp only [List.length_map, hxl]; omega
    · have hle : (xs.map (·.1)).length ≤ elems.length + rest.length := by simp [hxl]; omega
      refine Nat.le_trans (Nat.mul_le_mul_right _ hle) (Nat.le_trans hw0 ?_)
      decide
    · intro p hp
      obtain ⟨q, hq, rfl⟩ := List.mem_map.1 hp
      obtain ⟨j, hj⟩ := List.getElem?_of_mem hq
      exact (hx j q hj).2.2.1

/-- The fields of a struct, one behind the other. -/
def Fits {H : Type} (en : TypeId × Value → H) (P : Program) (w : World) (base : Nat) (sp : Nat → Bool) (held : Bool) (fuel : Nat) : List TypeId → List Value → List (DataW H × List MemPlace) → Prop
  | [], cs, ys => cs = [] ∧ ys = []
  | t :: ts, cs, ys => ∃ y ys', ys = y :: ys' ∧ P.cellsOf t ≤ cs.length ∧ DataW.trod en P w base sp held fuel t (cs.take (P.cellsOf t)) = some y ∧ Fits en P w base sp held fuel ts (cs.drop (P.cellsOf t)) ys'
def OpensL {α : Type} (P : Program) (ts : List TypeId) (enc : α → List D) (J : α → Prop) : Prop :=
  ∀ {H : Type} (en : TypeId × Value → H) (w : World) (base : Nat) (sp : Nat → Bool) (held : Bool) (fuel : Nat) (cs : List Value) (ys : List (DataW H × List MemPlace)),
    Fits en P w base sp held fuel ts cs ys → (DataW.weightsEach P ts (ys.map (·.1))).all (· ≤ reachBytes) = true → ∃ a, repL bot (heapIm w) (enc a) cs ∧ (∀ c ∈ cs, c.oneCell' = true) ∧ J a
theorem opensL_one {α : Type} {P : Program} {t : TypeId} {enc : α → D} {J : α → Prop} (h : Opens P t enc J) : OpensL P [t] (fun a => (enc a).cells) J := fun en w base sp held fuel cs ys hf hw => by
  obtain ⟨y, ys', rfl, hle, hy, h0, rfl⟩ := hf
  have he : cs.take (P.cellsOf t) = cs := by
    apply List.take_of_length_le
    have := congrArg List.length h0
    simp at this; omega
  rw [he] at hy
  obtain ⟨a, v, h1, h2, h3, h4, h5⟩ := h en w base sp held fuel cs y hy (by simpa [DataW.weightsEach] using hw)
  exact ⟨a, by rw [← h3]; exact rep_cells h2 h1, h4, h5⟩
theorem opensL_cons {α β : Type} {P : Program} {t : TypeId} {ts : List TypeId} {enc : α → D} {enc' : β → List D} {J : α → Prop} {J' : β → Prop} (h : Opens P t enc J) (h' : OpensL P ts enc' J') :
    OpensL P (t :: ts) (fun x : α × β => (enc x.1).cells ++ enc' x.2) (fun x => J x.1 ∧ J' x.2) := fun en w base sp held fuel cs ys hf hw => by
  obtain ⟨y, ys', rfl, hle, hy, hr⟩ := hf
  simp only [List.map_cons, DataW.weightsEach, List.all_append, Bool.and_eq_true] at hw
  obtain ⟨a, v, h1, h2, h3, h4, h5⟩ := h en w base sp held fuel _ _ hy hw.1
  obtain ⟨b, k1, k2, k3⟩ := h' en w base sp held fuel _ _ hr hw.2
  refine ⟨(a, b), ?_, ?_, h5, k3⟩
  · rw [← List.take_append_drop (P.cellsOf t) cs]
    exact repL_append (by rw [← h3]; exact rep_cells h2 h1) k1
  · intro c hc
    rw [← List.take_append_drop (P.cellsOf t) cs] at hc
    exact (List.mem_append.1 hc).elim (h4 c) (k2 c)
/-- The fields lie one behind the other, from o on. -/
def rowed (P : Program) : Nat → List Field → Nat → Bool
  | o, [], n => o == n
  | o, f :: fs, n => f.offset == o && rowed P (o + P.cellsOf f.type) fs n
theorem rowed_le {P : Program} {n : Nat} : ∀ (gs : List Field) (o : Nat), rowed P o gs n = true → o ≤ n
  | [], o, h => by simp only [rowed, beq_iff_eq] at h; omega
  | g :: gs, o, h => by simp only [rowed, Bool.and_eq_true, beq_iff_eq] at h; have := rowed_le gs _ h.2; omega
theorem fits_of {H : Type} {en : TypeId × Value → H} {P : Program} {w : World} {base : Nat} {sp : Nat → Bool} {held : Bool} {fuel : Nat} {n : Nat} : ∀ (fs : List Field) (o : Nat) (cs0 cs : List Value) (ys : List (DataW H × List MemPlace)),
    rowed P o fs n = true → cs0.length = n → cs = cs0.drop o → ys.length = fs.length → (∀ (i : Nat) (f : Field), fs[i]? = some f → DataW.trod en P w base sp held fuel f.type ((cs0.drop f.offset).take (P.cellsOf f.type)) = ys[i]?) → Fits en P w base sp held fuel (fs.map (·.type)) cs ys
  | [], o, cs0, cs, ys, hr, hn, hc, hl, _ => by
    simp only [rowed, beq_iff_eq] at hr
    refine ⟨?_, List.length_eq_zero_iff.1 hl⟩
    rw [hc, hr, ← hn, List.drop_length]
  | f :: fs, o, cs0, cs, ys, hr, hn, hc, hl, h => by
    simp only [rowed, Bool.and_eq_true, beq_iff_eq] at hr
    obtain ⟨ho, hr⟩ := hr
    cases ys with
    | nil => simp at hl
    | cons y ys =>
      have h0 := h 0 f rfl
      simp only [List.getElem?_cons_zero] at h0
      have hle1 := rowed_le fs _ hr
      refine ⟨y, ys, rfl, ?_, ?_, fits_of fs (o + P.cellsOf f.type) cs0 _ ys hr hn ?_ (by simpa using hl) (fun i g hg => by simpa using h (i + 1) g (by simpa using hg))⟩
      · show P.cellsOf f.type ≤ cs.length
        rw [hc, List.length_drop]; omega
      · rw [hc, ← ho]; exact h0
      · rw [hc, List.drop_drop]
theorem opens_struct {α : Type} {P : Program} {t : TypeId} {fs : Array Field} {enc : α → List D} {J : α → Prop} (ht : P.underlying t = some (.struct fs)) (hr : rowed P 0 fs.toList (P.cellsOf t) = true) (h : OpensL P (fs.toList.map (·.type)) enc J) :
    Opens P t (fun a => .agg (enc a)) J := fun en w base sp held fuel cs x hx hw => by
  obtain ⟨xs, n, rfl, rfl, hl, hlen, hf⟩ := DataW.trod_struct ht hx
  obtain ⟨a, h1, h2, h3⟩ := h en w base sp held n cs xs (fits_of fs.toList 0 cs cs xs hr hl (by simp) (by simpa using hlen) (fun i f hi => hf i f (by simpa using hi))) (by rw [DataW.weights, ht] at hw; exact hw)
  exact ⟨a, .agg cs.toArray, by rw [rep]; exact ⟨_, rfl, by simpa using h1⟩, by simp, by simp [Value.cells], h2, h3⟩
theorem opens_iso {α β : Type} {P : Program} {t : TypeId} {enc : α → D} {enc' : β → D} {J : α → Prop} {J' : β → Prop} (h : Opens P t enc J) (g : α → β) (he : ∀ a, enc' (g a) = enc a) (hJ : ∀ a, J a → J' (g a)) : Opens P t enc' J' := fun en w base sp held fuel cs x hx hw => by
  obtain ⟨a, v, h1, h2, h3, h4, h5⟩ := h en w base sp held fuel cs x hx hw
  exact ⟨g a, v, by rw [he]; exact h1, by rw [he]; exact h2, h3, h4, hJ a h5⟩

/-! ### A row of parameters -/
def OpensA {α : Type} (P : Program) (ts : List TypeId) (enc : α → List D) (J : α → Prop) : Prop :=
  ∀ {H : Type} (en : TypeId × Value → H) (w : World) (base : Nat) (sp : Nat → Bool) (held : Bool) (r : Reach) (b0 : Nat) (args : List Value) (ds : List (DataW H)) (ps : List MemPlace),
    DataW.TrodAll en P w base sp held ts args ds ps → (∀ (j : Nat) t v, ts[j]? = some t → args[j]? = some v → Value.okWide P w r b0 t v) → (DataW.weightsEach P ts ds).all (· ≤ reachBytes) = true → ∃ a, repL bot (heapIm w) (enc a) args ∧ J a
theorem opensA_nil {P : Program} : OpensA P [] (fun _ : Unit => []) (fun _ => True) := fun en w base sp held r b0 args ds ps h _ _ => by
  obtain ⟨rfl, _⟩ := trodAll_nil h
  exact ⟨(), repL_nil.2 rfl, trivial⟩
/-- A type whose values are one kind: of one cell, or of cells in a row. -/
def kindly (P : Program) (t : TypeId) : Option Bool :=
  match P.underlying t with
  | some (.struct _) => some true
  | some (.int _) | some .bool | some (.slice _) | some .string => some false
  | _ => none
theorem okWide_kindly {P : Program} {w : World} {r : Reach} {b0 : Nat} {t : TypeId} {b : Bool} (hk : kindly P t = some b) {v u : Value} (h : Value.okWide P w r b0 t v) (hc : v.cells.toList = u.cells.toList) (hu : (∃ cs, u = .agg cs) ↔ b = true) : u = v := by
  have hc' : v.cells = u.cells := Array.ext' hc
  cases b
  · have hv : ¬ ∃ cs, v = .agg cs := by
      unfold kindly at hk
      split at hk <;> simp at hk
      · rename_i ht; obtain ⟨n, rfl⟩ := okWide_int ht h; simp
      · rename_i ht; obtain ⟨n, rfl⟩ := okWide_bool ht h; simp
      · rename_i ht; obtain ⟨a, l, c, rfl⟩ := okWide_slice ht h; simp
      · rename_i ht; obtain ⟨n, rfl⟩ := okWide_string ht h; simp
    have hu' : ¬ ∃ cs, u = .agg cs := fun h => by simpa using hu.1 h
    have e1 : ∀ x : Value, (¬ ∃ cs, x = .agg cs) → x.cells = #[x] := by
      intro x hx
      cases x <;> first | rfl | exact absurd ⟨_, rfl⟩ hx
    rw [e1 v hv, e1 u hu'] at hc'
    have := congrArg Array.toList hc'
    simpa using this.symm
  · obtain ⟨cs, rfl⟩ := hu.2 rfl
    obtain ⟨cs', rfl⟩ : ∃ cs, v = .agg cs := by
      unfold kindly at hk
      split at hk <;> simp at hk
      rename_i ht
      unfold Value.okWide at h
      rw [ht] at h
      obtain ⟨cs, hcs, _⟩ := h
      exact ⟨cs, hcs⟩
    simp only [Value.cells] at hc'
    rw [hc']
def D.isAgg : D → Bool | .agg _ => true | _ => false
theorem rep_agg {ρ : Pl} {I : Im} {d : D} {v : Value} (hj : d ≠ .junk) (h : rep ρ I d v) : (∃ cs, v = .agg cs) ↔ d.isAgg = true := by
  cases d <;> simp only [D.isAgg] <;> rw [rep] at h
  case agg cs => obtain ⟨arr, rfl, h⟩ := h; simp
  case junk => exact absurd rfl hj
  case int => subst h; simp
  case bool => subst h; simp
  case str => subst h; simp
  case nilp => subst h; simp
  case ptr => obtain ⟨p, _, _, rfl⟩ := h; simp
  case pel => obtain ⟨b, o, arr, t, fz, u, rfl, _⟩ := h; simp
  case nils => subst h; simp
  case lst => obtain ⟨A, c, us, rfl, _⟩ := h; simp
  case sl => obtain ⟨p, A, c, _, rfl, _⟩ := h; simp
  case tup => obtain ⟨arr, rfl, h⟩ := h; simp
  case fn => obtain ⟨x, y, rfl, _⟩ := h; simp
  case nilf => subst h; simp
  case mp => obtain ⟨p, _, _, rfl⟩ := h; simp
  case yl => obtain ⟨p, _, _, rfl⟩ := h; simp
theorem opensA_cons {α β : Type} {P : Program} {t : TypeId} {ts : List TypeId} {enc : α → D} {enc' : β → List D} {J : α → Prop} {J' : β → Prop} {b : Bool} (hk : kindly P t = some b) (hb : ∀ a, (enc a).isAgg = b) (h : Opens P t enc J) (h' : OpensA P ts enc' J') :
    OpensA P (t :: ts) (fun x : α × β => enc x.1 :: enc' x.2) (fun x => J x.1 ∧ J' x.2) := fun en w base sp held r b0 args ds ps hA hval hw => by
  obtain ⟨v, vs, d, ds', p, q, rfl, rfl, rfl, ⟨fuel, hf⟩, hr⟩ := trodAll_cons hA
  simp only [DataW.weightsEach, List.all_append, Bool.and_eq_true] at hw
  obtain ⟨a, u, h1, h2, h3, h4, h5⟩ := h en w base sp held fuel _ _ hf hw.1
  obtain ⟨c, k1, k2⟩ := h' en w base sp held r b0 vs ds' q hr (fun j t v ht hv => hval (j + 1) t v (by simpa using ht) (by simpa using hv)) hw.2
  have : u = v := okWide_kindly hk (hval 0 t v rfl rfl) h3.symm (by rw [rep_agg h2 h1, hb])
  subst this
  exact ⟨(a, c), repL_cons.2 ⟨_, _, rfl, h1, k1⟩, h5, k2⟩

/-! ### Behind the call -/
theorem trodAll_below {H : Type} {en : TypeId × Value → H} {P : Program} (hl : laidOutB P = true) {W W' : World} (hb : Below W.heap.size W W') : ∀ {ts : List TypeId} {vs : List Value} {ds : List (DataW H)} {ps : List MemPlace},
    (ts.all fun t => P.readableRec t && decide (t < P.types.size)) = true → DataW.TrodAll en P W 0 (fun _ => true) true ts vs ds ps → DataW.TrodAll en P W' 0 (fun b => decide (b < W.heap.size)) true ts vs ds ps
  | [], [], [], _, _, h => h
  | t :: ts, v :: vs, d :: ds, ps, ht, h => by
    simp only [List.all_cons, Bool.and_eq_true, decide_eq_true_eq] at ht
    obtain ⟨p, q, h1, h2, e⟩ := h
    have lt : ∀ x ∈ p, x.block < W.heap.size := by obtain ⟨m, hm⟩ := h1; exact DataW.trod_lt m _ _ _ hm
    exact ⟨p, q, Below.trod hl ht.1.1 ht.1.2 h1 hb lt, trodAll_below hl hb (by simpa using ht.2) h2, e⟩
  | [], _ :: _, _, _, _, h | [], [], _ :: _, _, _, h | _ :: _, [], _, _, _, h | _ :: _, _ :: _, [], _, _, h => h.elim
end Go.Proofs.Ytaplihoeephbeaa.V
end
section
namespace Go.Proofs.Ytaplihoeephbeaa.V
open Go Go.Proofs Go.RowKit Go.ChangeShapes Go.WideShapes Go.ChangeAt
set_option maxRecDepth 100000
theorem b3 : Try.prog.bytesOf 3 = 8 := by kernel_rfl
theorem opens_i : Opens Try.prog 3 (D.int .i64) I64 := by
  refine opens_iso (opens_int Try.underlying3) (fun x => x) (fun x => rfl) (fun x hx => hx)
end Go.Proofs.Ytaplihoeephbeaa.V
end
section
namespace Go.Proofs.Ytaplihoeephbeaa.V
open Go Go.Proofs Go.RowKit Go.ChangeShapes Go.WideShapes Go.ChangeAt
set_option maxRecDepth 100000
theorem b120 : Try.prog.bytesOf 120 = 24 := by kernel_rfl
theorem opens_dl7 : Opens Try.prog 120 dlT (fun x => I64 x.1 ∧ I64 x.2.1 ∧ I64 x.2.2) := by
  refine opens_iso (opens_struct (P := Try.prog) (t := 120) Try.underlying120 (by kernel_rfl) (opensL_cons opens_i (opensL_cons opens_i (opensL_one opens_i)))) (fun x => (x.1, x.2.1, x.2.2)) (fun x => rfl) (fun x hx => hx)
theorem opens_dls7 : Opens Try.prog 117 dls dlok := by
  refine opens_iso (opens_slice Try.underlying117 opens_dl7 (sz := 3) (by kernel_rfl) (by decide)) (fun x => x) (fun x => rfl) (fun x hx => ?_)
  have h1 := hx.2.1
  rw [b120] at h1
  exact ⟨h1, hx.2.2⟩
end Go.Proofs.Ytaplihoeephbeaa.V
end
