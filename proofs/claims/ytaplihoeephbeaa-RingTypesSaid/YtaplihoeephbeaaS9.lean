/- S9: a text of a symbolic executor that is proved sound, and contracts that are proved with it. -/
import Derived.Test.YtaplihoeephbeaaS8
import Derived.Test.YtaplihoeephbeaaS6
set_option linter.unusedVariables false
set_option linter.unusedSimpArgs false
namespace Go.Proofs.Ytaplihoeephbeaa.V
open Go Go.Proofs
set_option maxRecDepth 100000
set_option maxHeartbeats 4000000
def around (n m : Int) : Int := if n < 0 then (-(n + 1)).tmod m else n.tmod m
theorem around33 (n m : Int) (hn : -9223372036854775808 ≤ n ∧ n ≤ 9223372036854775807) (hm : 1 ≤ m) : Spec Try.prog 33 [.int .i64 n, .int .i64 m] [] (fun d os' => d = .int .i64 (around n m) ∧ os' = []) := by
  refine Spec.by Try.func33 rfl (by decide) (by decide +kernel) rfl ?_
  (refine goA ?_)
  refine Br.dec (fun h => ?_) (fun h => ?_)
  · (refine goA ?_)
    refine Ret.mk [.tmp _] rfl ?_; refine And.intro ?_ rfl
    simp [around, h]
  · (refine goA ?_)
    refine Ret.mk [.tmp _] rfl ?_; refine And.intro ?_ rfl
    simp [around, h]
theorem around_lt (n m : Int) (hm : 1 ≤ m) : 0 ≤ around n m ∧ around n m < m := by
  unfold around
  split
  · rw [Int.tmod_eq_emod_of_nonneg (by omega)]
    exact ⟨Int.emod_nonneg _ (by omega), Int.emod_lt_of_pos _ (by omega)⟩
  · rw [Int.tmod_eq_emod_of_nonneg (by omega)]
    exact ⟨Int.emod_nonneg _ (by omega), Int.emod_lt_of_pos _ (by omega)⟩
theorem law9 (a b : Th) (n : Int) (ha : a.okB) (hn : -9223372036854775808 ≤ n ∧ n ≤ 9223372036854775807) : Spec Try.prog 9 [thD a, thD b, .int .i64 n] [] (fun d _ => d = .bool true) := by
  have hok : a.ok := ⟨by have := ha.1; omega, by have := ha.2.1; omega, fun f hf => by have := ha.2.2 f hf; unfold Fm.ok; omega⟩
  refine Spec.by Try.func9 rfl (by decide) (by decide +kernel) rfl ?_
  (refine goA ?_)
  refine Call.mk ((clone59 a ha).onto _ rfl) ?_
  rintro d os' ⟨d1, os1, ⟨rfl, rfl⟩, rfl, rfl⟩
  (refine goR ?_)
  ((with_reducible refine Pt.go ?_); conv => whnf)
  (refine goR ?_)
  refine Br.dec (fun h => ?_) (fun h => ?_)
  · have hr := around_lt n a.sk.length (by omega)
    obtain ⟨k, hk⟩ : ∃ k : Nat, around n a.sk.length = (k : Int) := ⟨(around n a.sk.length).toNat, by omega⟩
    have hget : a.sk[0 + k]? = some (a.sk[k]'(by omega)) := by rw [Nat.zero_add]; exact List.getElem?_eq_getElem (by omega)
    (refine goR ?_)
    ((with_reducible refine Pt.go ?_); conv => whnf)
    (refine goR ?_)
    refine Call.mk ((around33 n a.sk.length hn (by omega)).only _ rfl (by rintro d rfl; rfl)) ?_
    rintro d os' ⟨rfl, rfl⟩
    rw [hk] at *
    (refine goR ?_)
    refine Opt.of (get_map hget) ?_
    (refine goR ?_)
    refine Pt.weak (Weak.frzO (fun i => Nat.beq i 2) [] 3 (ty := 29) (sz := 5) (es := [.agg [.int .i64 a.st, .int .i64 a.on, frs a.fr, .sl 2 0 1 0 a.sk.length none, .int .i64 a.code]]) rfl rfl [thD { a with sk := a.sk.set (0 + k) n }] rfl ?_ trivial) ?_
    · refine .cons (.agg (.cons (.same _) (.cons (.same _) (.cons (.same _) (.cons (View.slAll rfl rfl ?_ ?_ ?_ (pureL_map (fun _ => rfl) _)) (.same _)))))) .nil
      · simp
      · simp
      · rw [List.map_set]; exact ViewL.same _
    have hb1 : (decide (a = b) == decide (a = b)) = true := by simp
    have hb2 : (decide (a = { a with sk := a.sk.set (0 + k) n }) == decide (a = { a with sk := a.sk.set (0 + k) n })) = true := by simp
    have hb3 : decide (a = a) = true := by simp
    ((with_reducible refine Pt.go ?_); conv => whnf)
    (refine goR ?_)
    refine Call.mk ((same60 a b hok).only _ rfl (by rintro d rfl; rfl)) ?_
    rintro d os' ⟨rfl, rfl⟩
    (refine goR ?_)
    refine Call.mk ((same53 a b hok).only _ rfl (by rintro d rfl; rfl)) ?_
    rintro d os' ⟨rfl, rfl⟩
    (refine goR ?_)
    refine Call.mk ((same60 a { a with sk := a.sk.set (0 + k) n } hok).only _ rfl (by rintro d rfl; rfl)) ?_
    rintro d os' ⟨rfl, rfl⟩
    (refine goR ?_)
    refine Call.mk ((same53 a { a with sk := a.sk.set (0 + k) n } hok).only _ rfl (by rintro d rfl; rfl)) ?_
    rintro d os' ⟨rfl, rfl⟩
    (refine goR ?_)
    refine Call.mk ((clone61 a ha).only _ rfl (by rintro d rfl; rfl)) ?_
    rintro d os' ⟨rfl, rfl⟩
    (refine goR ?_)
    refine Call.mk ((same60 a a hok).only _ rfl (by rintro d rfl; rfl)) ?_
    rintro d os' ⟨rfl, rfl⟩
    (refine goR ?_)
    refine Call.mk (lives37.only _ rfl (by rintro d rfl; rfl)) ?_
    rintro d os' ⟨rfl, rfl⟩
    (refine goR ?_)
    refine Ret.mk [.tmp _] rfl ?_
    exact rfl
  · (refine goR ?_)
    refine Pt.weak (Weak.frzO (fun i => Nat.beq i 2) [] 3 (ty := 29) (sz := 5) (es := [.agg [.int .i64 a.st, .int .i64 a.on, frs a.fr, .sl 2 0 1 0 a.sk.length none, .int .i64 a.code]]) rfl rfl [thD a] rfl ?_ trivial) ?_
    · refine .cons (.agg (.cons (.same _) (.cons (.same _) (.cons (.same _) (.cons (View.slAll rfl rfl ?_ ?_ (ViewL.same _) (pureL_map (fun _ => rfl) _)) (.same _)))))) .nil
      · simp
      · simp
    have hb1 : (decide (a = b) == decide (a = b)) = true := by simp
    have hb2 : (decide (a = a) == decide (a = a)) = true := by simp
    have hb3 : decide (a = a) = true := by simp
    ((with_reducible refine Pt.go ?_); conv => whnf)
    (refine goR ?_)
    refine Call.mk ((same60 a b hok).only _ rfl (by rintro d rfl; rfl)) ?_
    rintro d os' ⟨rfl, rfl⟩
    (refine goR ?_)
    refine Call.mk ((same53 a b hok).only _ rfl (by rintro d rfl; rfl)) ?_
    rintro d os' ⟨rfl, rfl⟩
    (refine goR ?_)
    refine Call.mk ((same60 a a hok).only _ rfl (by rintro d rfl; rfl)) ?_
    rintro d os' ⟨rfl, rfl⟩
    (refine goR ?_)
    refine Call.mk ((same53 a a hok).only _ rfl (by rintro d rfl; rfl)) ?_
    rintro d os' ⟨rfl, rfl⟩
    (refine goR ?_)
    refine Call.mk ((clone61 a ha).only _ rfl (by rintro d rfl; rfl)) ?_
    rintro d os' ⟨rfl, rfl⟩
    (refine goR ?_)
    refine Call.mk ((same60 a a hok).only _ rfl (by rintro d rfl; rfl)) ?_
    rintro d os' ⟨rfl, rfl⟩
    (refine goR ?_)
    refine Call.mk (lives37.only _ rfl (by rintro d rfl; rfl)) ?_
    rintro d os' ⟨rfl, rfl⟩
    (refine goR ?_)
    refine Ret.mk [.tmp _] rfl ?_
    exact rfl
end Go.Proofs.Ytaplihoeephbeaa.V
