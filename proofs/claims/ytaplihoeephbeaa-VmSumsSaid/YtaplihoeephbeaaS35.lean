/- S35: a text of a symbolic executor that is proved sound, and contracts that are proved with it. -/
import Derived.Test.YtaplihoeephbeaaS34
namespace Go.Proofs.Ytaplihoeephbeaa.V
open Go Go.Proofs
set_option maxRecDepth 100000
set_option maxHeartbeats 40000000
theorem endT_ok (c : Int) : (endT c).ok := ⟨by show (0 : Nat) ≤ _; omega, by show (0 : Nat) ≤ _; omega, fun f hf => by cases hf⟩
theorem endT_okB (c : Int) : (endT c).okB := ⟨by show (0 : Nat) ≤ _; omega, by show (0 : Nat) ≤ _; omega, fun f hf => by cases hf⟩
/-- How a run goes. -/
theorem run_ok {g : Pg} (hg : GoodP g) : ∀ (m : Nat) (t : Th), GoodT g t → ((runT g m t).2.1.kd ≠ 1 ∧ GoodT g (runT g m t).1) ∨ ∃ c, (c = 0 ∨ c = 1 ∨ c = 2 ∨ c = 3 ∨ c = 6) ∧ (runT g m t).1 = endT c ∧ (runT g m t).2.1 = ⟨1, 0, c⟩
  | 0, t, h => .inl ⟨by show (0 : Int) ≠ 1; decide, h⟩
  | m + 1, t, h => by
    have hs := step_ok hg h
    simp only [runT]
    split
    · rename_i h0
      exact run_ok hg m _ (stepOk_0 hs h0).1
    · rcases hs with ⟨h1, h2, _⟩ | ⟨c, hc, hr⟩
      · exact .inl ⟨h1, h2⟩
      · rw [hr]; exact .inr ⟨c, hc, rfl, rfl⟩
theorem run_okT {g : Pg} (hg : GoodP g) (m : Nat) {t : Th} (ht : GoodT g t) : (runT g m t).1.ok := by
  rcases run_ok hg m t ht with ⟨_, h⟩ | ⟨c, _, h, _⟩
  · exact (kt_good h).ok hg
  · rw [h]; exact endT_ok c
theorem law20 (p : Pg) (hp : p.okB) (t : Th) (ht : t.okR) (m : Int) (hm : I64 m) : Spec Try.prog 20 [pgD p, thD t, .int .i64 m] [] (fun d _ => d = .bool true) := by
  refine Spec.by Try.func20 rfl (by decide) (by decide +kernel) rfl ?_
  (conv => whnf); repeat ((first | with_reducible (first | refine Pt.go ?_ | refine dA ?_ | refine dL ?_) | refine Br.t ?_ | refine Br.f ?_ | refine bT ?_ | refine bF ?_ | refine Opt.mk ?_ | with_reducible refine aR ?_ | refine ⟨fun h => absurd (congrArg List.length h) (Nat.succ_ne_zero _), fun _ => ?_⟩ | refine aC ?_ | refine apG ?_); conv => whnf)
  refine Call.mk ((good29 p hp).only _ rfl (by rintro d ⟨g, _, rfl⟩; rfl)) ?_
  rintro d' os' ⟨⟨g, hg, rfl⟩, rfl⟩
  (conv => whnf); repeat ((first | with_reducible (first | refine Pt.go ?_ | refine dA ?_ | refine dL ?_) | refine Br.t ?_ | refine Br.f ?_ | refine bT ?_ | refine bF ?_ | refine Opt.mk ?_ | with_reducible refine aR ?_ | refine ⟨fun h => absurd (congrArg List.length h) (Nat.succ_ne_zero _), fun _ => ?_⟩ | refine aC ?_ | refine apG ?_); conv => whnf)
  refine Call.mk ((good30f g hg t ht).only _ rfl (by rintro d ⟨x, _, rfl⟩; rfl)) ?_
  rintro d' os' ⟨⟨x, hx, rfl⟩, rfl⟩
  (conv => whnf); repeat ((first | with_reducible (first | refine Pt.go ?_ | refine dA ?_ | refine dL ?_) | refine Br.t ?_ | refine Br.f ?_ | refine bT ?_ | refine bF ?_ | refine Opt.mk ?_ | with_reducible refine aR ?_ | refine ⟨fun h => absurd (congrArg List.length h) (Nat.succ_ne_zero _), fun _ => ?_⟩ | refine aC ?_ | refine apG ?_); conv => whnf)
  have hm1 : (if 200 < m then 200 else m) ≤ 1000000 := by split <;> omega
  refine Call.mk ((run92 g hg x hx (if 200 < m then 200 else m) hm1).only _ rfl (by rintro d rfl; rfl)) ?_; rintro d os' ⟨rfl, rfl⟩
  (conv => whnf); repeat ((first | with_reducible (first | refine Pt.go ?_ | refine dA ?_ | refine dL ?_) | refine Br.t ?_ | refine Br.f ?_ | refine bT ?_ | refine bF ?_ | refine Opt.mk ?_ | with_reducible refine aR ?_ | refine ⟨fun h => absurd (congrArg List.length h) (Nat.succ_ne_zero _), fun _ => ?_⟩ | refine aC ?_ | refine apG ?_); conv => whnf)
  refine Call.mk ((run93 g hg x hx (if 200 < m then 200 else m) hm1).only _ rfl (by rintro d rfl; rfl)) ?_; rintro d os' ⟨rfl, rfl⟩
  have hok := run_okT hg (if 200 < m then 200 else m).toNat hx
  obtain ⟨⟨y, q, n⟩, hr⟩ : ∃ r, runT g (if 200 < m then 200 else m).toNat x = r := ⟨_, rfl⟩
  rw [hr] at hok ⊢
  dsimp only at hok ⊢
  (conv => whnf); repeat ((first | with_reducible (first | refine dA ?_ | refine dL ?_) | refine Br.t ?_ | refine Br.f ?_ | refine bT ?_ | refine bF ?_ | refine Opt.mk ?_ | with_reducible refine aR ?_ | refine ⟨fun h => absurd (congrArg List.length h) (Nat.succ_ne_zero _), fun _ => ?_⟩ | refine aC ?_ | refine apG ?_); conv => whnf)
  refine Pt.weak (Weak.only [(9, .ptr 4 0 5 0 0), (10, .ptr 5 0 3 0 0), (11, .int .i64 n), (12, .ptr 6 0 5 0 0), (13, .ptr 7 0 3 0 0), (14, .int .i64 n)] [one (.row 26 7 false [pgD p]), tR t, one (.row 26 7 false [pgD g]), tR x, tR y, one (.row 131 3 false [rqD q]), tR y, one (.row 134 3 false [rqD q])] (by kernel_rfl) (by repeat (first | exact trivial | refine And.intro (by first | rfl | exact congrArg (fun n => D.sl _ _ _ _ n none) List.length_append | exact congrArg _ (by omega)) ?_))) ?_
  ((with_reducible refine Pt.go ?_); conv => whnf)
  (conv => whnf); repeat ((first | with_reducible (first | refine dA ?_ | refine dL ?_) | refine Br.t ?_ | refine Br.f ?_ | refine bT ?_ | refine bF ?_ | refine Opt.mk ?_ | with_reducible refine aR ?_ | refine ⟨fun h => absurd (congrArg List.length h) (Nat.succ_ne_zero _), fun _ => ?_⟩ | refine aC ?_ | refine apG ?_); conv => whnf)
  refine Call.mk ((same53 y y hok).only _ rfl (by rintro d rfl; rfl)) ?_; rintro d os' ⟨rfl, rfl⟩
  have b1 : decide (y = y) = true := decide_eq_true rfl
  rw [b1]
  (conv => whnf); repeat ((first | with_reducible (first | refine dA ?_ | refine dL ?_) | refine Br.t ?_ | refine Br.f ?_ | refine bT ?_ | refine bF ?_ | refine Opt.mk ?_ | with_reducible refine aR ?_ | refine ⟨fun h => absurd (congrArg List.length h) (Nat.succ_ne_zero _), fun _ => ?_⟩ | refine aC ?_ | refine apG ?_); conv => whnf)
  refine Call.mk ((as94 q).only _ rfl (by rintro d rfl; rfl)) ?_; rintro d os' ⟨rfl, rfl⟩
  have b2 : (decide (q.kd = q.kd) && (decide (q.a = q.a) && (decide (q.v = q.v) && true))) = true := by simp
  have b3 : decide ((n : Int) = (n : Int)) = true := decide_eq_true rfl
  (conv => whnf); repeat ((first | with_reducible (first | refine dA ?_ | refine dL ?_) | refine Br.t ?_ | refine Br.f ?_ | refine bT ?_ | refine bF ?_ | refine Opt.mk ?_ | with_reducible refine aR ?_ | refine ⟨fun h => absurd (congrArg List.length h) (Nat.succ_ne_zero _), fun _ => ?_⟩ | refine aC ?_ | refine apG ?_); conv => whnf)
  rw [b2]
  (conv => whnf); repeat ((first | with_reducible (first | refine dA ?_ | refine dL ?_) | refine Br.t ?_ | refine Br.f ?_ | refine bT ?_ | refine bF ?_ | refine Opt.mk ?_ | with_reducible refine aR ?_ | refine ⟨fun h => absurd (congrArg List.length h) (Nat.succ_ne_zero _), fun _ => ?_⟩ | refine aC ?_ | refine apG ?_); conv => whnf)
  refine Call.mk ((lives95).only _ rfl (by rintro d rfl; rfl)) ?_; rintro d os' ⟨rfl, rfl⟩
  (conv => whnf); repeat ((first | with_reducible (first | refine dA ?_ | refine dL ?_) | refine Br.t ?_ | refine Br.f ?_ | refine bT ?_ | refine bF ?_ | refine Opt.mk ?_ | with_reducible refine aR ?_ | refine ⟨fun h => absurd (congrArg List.length h) (Nat.succ_ne_zero _), fun _ => ?_⟩ | refine aC ?_ | refine apG ?_); conv => whnf)
  exact Ret.mk [.tmp _] rfl rfl
theorem law21 (p : Pg) (hp : p.okB) (t : Th) (ht : t.okR) (m : Int) (hm : I64 m) : Spec Try.prog 21 [pgD p, thD t, .int .i64 m] [] (fun d _ => d = .bool true) := by
  refine Spec.by Try.func21 rfl (by decide) (by decide +kernel) rfl ?_
  (conv => whnf); repeat ((first | with_reducible (first | refine Pt.go ?_ | refine dA ?_ | refine dL ?_) | refine Br.t ?_ | refine Br.f ?_ | refine bT ?_ | refine bF ?_ | refine Opt.mk ?_ | with_reducible refine aR ?_ | refine ⟨fun h => absurd (congrArg List.length h) (Nat.succ_ne_zero _), fun _ => ?_⟩ | refine aC ?_ | refine apG ?_); conv => whnf)
  refine Call.mk ((good29 p hp).only _ rfl (by rintro d ⟨g, _, rfl⟩; rfl)) ?_
  rintro d' os' ⟨⟨g, hg, rfl⟩, rfl⟩
  (conv => whnf); repeat ((first | with_reducible (first | refine Pt.go ?_ | refine dA ?_ | refine dL ?_) | refine Br.t ?_ | refine Br.f ?_ | refine bT ?_ | refine bF ?_ | refine Opt.mk ?_ | with_reducible refine aR ?_ | refine ⟨fun h => absurd (congrArg List.length h) (Nat.succ_ne_zero _), fun _ => ?_⟩ | refine aC ?_ | refine apG ?_); conv => whnf)
  refine Call.mk ((good30f g hg t ht).only _ rfl (by rintro d ⟨x, _, rfl⟩; rfl)) ?_
  rintro d' os' ⟨⟨x, hx, rfl⟩, rfl⟩
  (conv => whnf); repeat ((first | with_reducible (first | refine Pt.go ?_ | refine dA ?_ | refine dL ?_) | refine Br.t ?_ | refine Br.f ?_ | refine bT ?_ | refine bF ?_ | refine Opt.mk ?_ | with_reducible refine aR ?_ | refine ⟨fun h => absurd (congrArg List.length h) (Nat.succ_ne_zero _), fun _ => ?_⟩ | refine aC ?_ | refine apG ?_); conv => whnf)
  refine Call.mk ((around33 m 101 hm (by decide)).only _ rfl (by rintro d rfl; rfl)) ?_; rintro d os' ⟨rfl, rfl⟩
  (conv => whnf); repeat ((first | with_reducible (first | refine Pt.go ?_ | refine dA ?_ | refine dL ?_) | refine Br.t ?_ | refine Br.f ?_ | refine bT ?_ | refine bF ?_ | refine Opt.mk ?_ | with_reducible refine aR ?_ | refine ⟨fun h => absurd (congrArg List.length h) (Nat.succ_ne_zero _), fun _ => ?_⟩ | refine aC ?_ | refine apG ?_); conv => whnf)
  have hlt := around_lt m 101 (by omega)
  obtain ⟨a, ha⟩ : ∃ a, around m 101 = a := ⟨_, rfl⟩
  rw [ha] at hlt ⊢
  refine Call.mk ((run92 g hg x hx a (by omega)).only _ rfl (by rintro d rfl; rfl)) ?_; rintro d os' ⟨rfl, rfl⟩
  have hok := run_okT hg a.toNat hx
  have hro := run_ok hg a.toNat x hx
  obtain ⟨⟨y, q, n⟩, hr⟩ : ∃ r, runT g a.toNat x = r := ⟨_, rfl⟩
  rw [hr] at hok hro ⊢
  dsimp only at hok hro ⊢
  (conv => whnf); repeat ((first | with_reducible (first | refine dA ?_ | refine dL ?_) | refine Br.t ?_ | refine Br.f ?_ | refine bT ?_ | refine bF ?_ | refine Opt.mk ?_ | with_reducible refine aR ?_ | refine ⟨fun h => absurd (congrArg List.length h) (Nat.succ_ne_zero _), fun _ => ?_⟩ | refine aC ?_ | refine apG ?_); conv => whnf)
  refine Pt.weak (Weak.only [(9, .ptr 4 0 5 0 0), (10, .ptr 5 0 3 0 0)] [one (.row 26 7 false [pgD p]), tR t, one (.row 26 7 false [pgD g]), tR x, tR y, one (.row 131 3 false [rqD q])] (by kernel_rfl) (by repeat (first | exact trivial | refine And.intro (by first | rfl | exact congrArg (fun n => D.sl _ _ _ _ n none) List.length_append | exact congrArg _ (by omega)) ?_))) ?_
  rcases hro with ⟨h1, hy⟩ | ⟨c, hc, rfl, rfl⟩
  · ((with_reducible refine Pt.go ?_); conv => whnf)
    (conv => whnf); repeat ((first | with_reducible (first | refine dA ?_ | refine dL ?_) | refine Br.t ?_ | refine Br.f ?_ | refine bT ?_ | refine bF ?_ | refine Opt.mk ?_ | with_reducible refine aR ?_ | refine ⟨fun h => absurd (congrArg List.length h) (Nat.succ_ne_zero _), fun _ => ?_⟩ | refine aC ?_ | refine apG ?_); conv => whnf)
    have e1 := hy.st
    have e2 := hy.fl
    have e3 : 0 < (((y.fr.map frD).length : Nat) : Int) := by rw [List.length_map]; omega
    (conv => whnf); repeat ((first | with_reducible (first | refine Pt.go ?_ | refine dA ?_ | refine dL ?_) | refine Br.t ?_ | refine Br.f ?_ | refine bT ?_ | refine bF ?_ | refine Opt.mk ?_ | with_reducible refine aR ?_ | refine ⟨fun h => absurd (congrArg List.length h) (Nat.succ_ne_zero _), fun _ => ?_⟩ | refine aC ?_ | refine apG ?_); conv => whnf)
    refine Call.mk ((lives95).only _ rfl (by rintro d rfl; rfl)) ?_; rintro d os' ⟨rfl, rfl⟩
    (conv => whnf); repeat ((first | with_reducible (first | refine Pt.go ?_ | refine dA ?_ | refine dL ?_) | refine Br.t ?_ | refine Br.f ?_ | refine bT ?_ | refine bF ?_ | refine Opt.mk ?_ | with_reducible refine aR ?_ | refine ⟨fun h => absurd (congrArg List.length h) (Nat.succ_ne_zero _), fun _ => ?_⟩ | refine aC ?_ | refine apG ?_); conv => whnf)
    exact Ret.mk [.tmp _] rfl rfl
  · (conv => whnf); repeat ((first | with_reducible (first | refine Pt.go ?_ | refine dA ?_ | refine dL ?_) | refine Br.t ?_ | refine Br.f ?_ | refine bT ?_ | refine bF ?_ | refine Opt.mk ?_ | with_reducible refine aR ?_ | refine ⟨fun h => absurd (congrArg List.length h) (Nat.succ_ne_zero _), fun _ => ?_⟩ | refine aC ?_ | refine apG ?_); conv => whnf)
    refine Call.mk ((end34 c).only _ rfl (by rintro d rfl; rfl)) ?_; rintro d os' ⟨rfl, rfl⟩
    (conv => whnf); repeat ((first | with_reducible (first | refine Pt.go ?_ | refine dA ?_ | refine dL ?_) | refine Br.t ?_ | refine Br.f ?_ | refine bT ?_ | refine bF ?_ | refine Opt.mk ?_ | with_reducible refine aR ?_ | refine ⟨fun h => absurd (congrArg List.length h) (Nat.succ_ne_zero _), fun _ => ?_⟩ | refine aC ?_ | refine apG ?_); conv => whnf)
    refine Call.mk ((same53 (endT c) (endT c) hok).only _ rfl (by rintro d rfl; rfl)) ?_; rintro d os' ⟨rfl, rfl⟩
    have b1 : decide (endT c = endT c) = true := decide_eq_true rfl
    rw [b1]
    have hc1 : 0 ≤ c := by omega
    have hc2 : c ≤ 6 := by omega
    have hc3 : c ≠ 4 := by omega
    have hc4 : c ≠ 5 := by omega
    (conv => whnf); repeat ((first | with_reducible (first | refine Pt.go ?_ | refine dA ?_ | refine dL ?_) | refine Br.t ?_ | refine Br.f ?_ | refine bT ?_ | refine bF ?_ | refine Opt.mk ?_ | with_reducible refine aR ?_ | refine ⟨fun h => absurd (congrArg List.length h) (Nat.succ_ne_zero _), fun _ => ?_⟩ | refine aC ?_ | refine apG ?_); conv => whnf)
    refine Call.mk ((lives95).only _ rfl (by rintro d rfl; rfl)) ?_; rintro d os' ⟨rfl, rfl⟩
    (conv => whnf); repeat ((first | with_reducible (first | refine Pt.go ?_ | refine dA ?_ | refine dL ?_) | refine Br.t ?_ | refine Br.f ?_ | refine bT ?_ | refine bF ?_ | refine Opt.mk ?_ | with_reducible refine aR ?_ | refine ⟨fun h => absurd (congrArg List.length h) (Nat.succ_ne_zero _), fun _ => ?_⟩ | refine aC ?_ | refine apG ?_); conv => whnf)
    exact Ret.mk [.tmp _] rfl rfl
end Go.Proofs.Ytaplihoeephbeaa.V
