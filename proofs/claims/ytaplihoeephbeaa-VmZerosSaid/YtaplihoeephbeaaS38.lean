/- S38: a text of a symbolic executor that is proved sound, and contracts that are proved with it. -/
import Derived.Test.YtaplihoeephbeaaS35
namespace Go.Proofs.Ytaplihoeephbeaa.V
open Go Go.Proofs
set_option maxRecDepth 100000
set_option maxHeartbeats 40000000
theorem keep_keep (a : Int) : keep (keep a) = keep a := ((keep_id _).2 (keep_range a)).symm
@[reducible] def sumP (a b o : Int) : List (Int × Int) := [(0, a), (0, b), (o, 0), (25, 0)]
theorem sum_good {a b o : Int} (ha : kept2 a) (hb : kept2 b) (ho : o = 3 ∨ o = 4) : GoodP (vmP (sumP a b o)) := by
  refine vm_good (by simp) ?_
  intro x hx
  simp only [List.mem_cons, List.not_mem_nil, or_false] at hx
  obtain ⟨a1, a2⟩ := ha
  obtain ⟨b1, b2⟩ := hb
  rcases hx with rfl | rfl | rfl | rfl
  · unfold inOk; dsimp only; simp; omega
  · unfold inOk; dsimp only; simp; omega
  · unfold inOk; dsimp only; rcases ho with rfl | rfl <;> simp
  · unfold inOk; dsimp only; simp
theorem sum_run3 (a b : Int) : (runT (vmP (sumP a b 3)) 9 t0).2.1 = ⟨16, 0, keep (keep a + keep b)⟩ ∧ (runT (vmP (sumP a b 3)) 9 t0).2.2 = 4 := ⟨rfl, rfl⟩
theorem sum_run4 (a b : Int) : (runT (vmP (sumP a b 4)) 9 t0).2.1 = ⟨16, 0, keep (keep a - keep b)⟩ ∧ (runT (vmP (sumP a b 4)) 9 t0).2.2 = 4 := ⟨rfl, rfl⟩
@[reducible] def zeroP (a : Int) : List (Int × Int) := [(0, a), (8, 3), (12, 0), (26, 0)]
theorem zero_good {a : Int} (ha : kept2 a) : GoodP (vmP (zeroP a)) := by
  refine vm_good (by simp) ?_
  intro x hx
  simp only [List.mem_cons, List.not_mem_nil, or_false] at hx
  obtain ⟨a1, a2⟩ := ha
  rcases hx with rfl | rfl | rfl | rfl
  · unfold inOk; dsimp only; simp; omega
  · unfold inOk; dsimp only; simp
  · unfold inOk; dsimp only; simp
  · unfold inOk; dsimp only; simp
theorem zero_run (a : Int) (ha : keep a = a) : (runT (vmP (zeroP a)) 9 t0).2.1 = (if a = 0 then ⟨1, 0, 0⟩ else ⟨2, 0, 0⟩) ∧ (runT (vmP (zeroP a)) 9 t0).2.2 = 3 := by
  by_cases h : a = 0
  · subst h; rw [if_pos rfl]; exact ⟨by decide +kernel, by decide +kernel⟩
  · rw [if_neg h]
    have e1 : stepT (vmP (zeroP a)) t0 = (⟨0, 0, [⟨0, 1, []⟩], [keep a], 0⟩, nq) := rfl
    have e2 : stepT (vmP (zeroP a)) ⟨0, 0, [⟨0, 1, []⟩], [keep a], 0⟩ = (⟨0, 0, [⟨0, 2, []⟩], [], 0⟩, nq) := by
      have hk : ¬ keep a = 0 := by rw [ha]; exact h
      show stepX (execM (vmP (zeroP a)) [] ⟨0, 2, []⟩ ⟨0, 0, [⟨0, 2, []⟩], [keep a], 0⟩ 8 3) = _
      show stepX (if keep a = 0 then _ else _, _, nq) = _
      rw [if_neg hk]
      rfl
    have e3 : stepT (vmP (zeroP a)) ⟨0, 0, [⟨0, 2, []⟩], [], 0⟩ = (⟨0, 0, [⟨0, 3, []⟩], [], 0⟩, ⟨2, 0, 0⟩) := rfl
    simp only [runT, e1, e2, e3]
    exact ⟨rfl, rfl⟩
theorem law23 (a : Int) : Spec Try.prog 23 [.int .i64 a] [] (fun d _ => d = .bool true) := by
  have hr := keep_range a
  have hkk := keep_keep a
  refine Spec.by Try.func23 rfl (by decide) (by decide +kernel) rfl ?_
  (conv => whnf); repeat ((first | with_reducible (first | refine Pt.go ?_ | refine dA ?_ | refine dL ?_) | refine Br.t ?_ | refine Br.f ?_ | refine bT ?_ | refine bF ?_ | refine Opt.mk ?_ | with_reducible refine aR ?_ | refine ⟨fun h => absurd (congrArg List.length h) (Nat.succ_ne_zero _), fun _ => ?_⟩ | refine aC ?_ | refine apG ?_); conv => whnf)
  refine Call.mk (keep36 a _) ?_
  rintro d os' ⟨rfl, rfl⟩
  obtain ⟨b, hb⟩ : ∃ b, keep a = b := ⟨_, rfl⟩
  rw [hb] at hr hkk ⊢
  have hzr := zero_run b hkk
  have hgd := zero_good hr
  (conv => whnf); repeat ((first | with_reducible (first | refine Pt.go ?_ | refine dA ?_ | refine dL ?_) | refine Br.t ?_ | refine Br.f ?_ | refine bT ?_ | refine bF ?_ | refine Opt.mk ?_ | with_reducible refine aR ?_ | refine ⟨fun h => absurd (congrArg List.length h) (Nat.succ_ne_zero _), fun _ => ?_⟩ | refine aC ?_ | refine apG ?_); conv => whnf)
  refine App.only false rfl rfl ?_
  (conv => whnf); repeat ((first | with_reducible (first | refine Pt.go ?_ | refine dA ?_ | refine dL ?_) | refine Br.t ?_ | refine Br.f ?_ | refine bT ?_ | refine bF ?_ | refine Opt.mk ?_ | with_reducible refine aR ?_ | refine ⟨fun h => absurd (congrArg List.length h) (Nat.succ_ne_zero _), fun _ => ?_⟩ | refine aC ?_ | refine apG ?_); conv => whnf)
  refine App.only false rfl rfl ?_
  (conv => whnf); repeat ((first | with_reducible (first | refine dA ?_ | refine dL ?_) | refine Br.t ?_ | refine Br.f ?_ | refine bT ?_ | refine bF ?_ | refine Opt.mk ?_ | with_reducible refine aR ?_ | refine ⟨fun h => absurd (congrArg List.length h) (Nat.succ_ne_zero _), fun _ => ?_⟩ | refine aC ?_ | refine apG ?_); conv => whnf)
  refine Pt.weak (Weak.frzO (fun _ => false) [(0, .int .i64 b), (2, .bool false), (3, .ptr 0 0 7 0 0)] 0 (ty := 26) (sz := 7) (es := [vmR (zeroP b)]) rfl rfl [pgD (vmP (zeroP b))] rfl (.cons (vmV _ _ (zeroP b)) .nil) ⟨View.same _, View.same _, View.same _, trivial⟩) ?_
  (conv => whnf); repeat ((first | with_reducible (first | refine Pt.go ?_ | refine dA ?_ | refine dL ?_) | refine Br.t ?_ | refine Br.f ?_ | refine bT ?_ | refine bF ?_ | refine Opt.mk ?_ | with_reducible refine aR ?_ | refine ⟨fun h => absurd (congrArg List.length h) (Nat.succ_ne_zero _), fun _ => ?_⟩ | refine aC ?_ | refine apG ?_); conv => whnf)
  refine Call.mk ((new96v (zeroP b)).only _ rfl (by rintro d rfl; rfl)) ?_; rintro d os' ⟨rfl, rfl⟩
  (conv => whnf); repeat ((first | with_reducible (first | refine Pt.go ?_ | refine dA ?_ | refine dL ?_) | refine Br.t ?_ | refine Br.f ?_ | refine bT ?_ | refine bF ?_ | refine Opt.mk ?_ | with_reducible refine aR ?_ | refine ⟨fun h => absurd (congrArg List.length h) (Nat.succ_ne_zero _), fun _ => ?_⟩ | refine aC ?_ | refine apG ?_); conv => whnf)
  refine Call.mk ((run92 (vmP (zeroP b)) hgd t0 (t0_good (zeroP b)) 9 (by decide)).only _ rfl (by rintro d rfl; rfl)) ?_; rintro d os' ⟨rfl, rfl⟩
  have e : (9 : Int).toNat = 9 := rfl
  rw [e]
  obtain ⟨⟨y, q, n⟩, hr⟩ : ∃ r, runT (vmP (zeroP b)) 9 t0 = r := ⟨_, rfl⟩
  rw [hr] at hzr ⊢
  dsimp only at hzr ⊢
  obtain ⟨rfl, rfl⟩ := hzr
  (conv => whnf); repeat ((first | with_reducible (first | refine Pt.go ?_ | refine dA ?_ | refine dL ?_) | refine Br.t ?_ | refine Br.f ?_ | refine bT ?_ | refine bF ?_ | refine Opt.mk ?_ | with_reducible refine aR ?_ | refine ⟨fun h => absurd (congrArg List.length h) (Nat.succ_ne_zero _), fun _ => ?_⟩ | refine aC ?_ | refine apG ?_); conv => whnf)
  refine Br.dec (fun h => ?_) (fun h => ?_)
  · rw [if_pos h]
    (conv => whnf); repeat ((first | with_reducible (first | refine Pt.go ?_ | refine dA ?_ | refine dL ?_) | refine Br.t ?_ | refine Br.f ?_ | refine bT ?_ | refine bF ?_ | refine Opt.mk ?_ | with_reducible refine aR ?_ | refine ⟨fun h => absurd (congrArg List.length h) (Nat.succ_ne_zero _), fun _ => ?_⟩ | refine aC ?_ | refine apG ?_); conv => whnf)
    refine Call.mk ((lives95).only _ rfl (by rintro d rfl; rfl)) ?_; rintro d os' ⟨rfl, rfl⟩
    (conv => whnf); repeat ((first | with_reducible (first | refine Pt.go ?_ | refine dA ?_ | refine dL ?_) | refine Br.t ?_ | refine Br.f ?_ | refine bT ?_ | refine bF ?_ | refine Opt.mk ?_ | with_reducible refine aR ?_ | refine ⟨fun h => absurd (congrArg List.length h) (Nat.succ_ne_zero _), fun _ => ?_⟩ | refine aC ?_ | refine apG ?_); conv => whnf)
    exact Ret.mk [.tmp _] rfl rfl
  · rw [if_neg h]
    (conv => whnf); repeat ((first | with_reducible (first | refine Pt.go ?_ | refine dA ?_ | refine dL ?_) | refine Br.t ?_ | refine Br.f ?_ | refine bT ?_ | refine bF ?_ | refine Opt.mk ?_ | with_reducible refine aR ?_ | refine ⟨fun h => absurd (congrArg List.length h) (Nat.succ_ne_zero _), fun _ => ?_⟩ | refine aC ?_ | refine apG ?_); conv => whnf)
    refine Call.mk ((lives95).only _ rfl (by rintro d rfl; rfl)) ?_; rintro d os' ⟨rfl, rfl⟩
    (conv => whnf); repeat ((first | with_reducible (first | refine Pt.go ?_ | refine dA ?_ | refine dL ?_) | refine Br.t ?_ | refine Br.f ?_ | refine bT ?_ | refine bF ?_ | refine Opt.mk ?_ | with_reducible refine aR ?_ | refine ⟨fun h => absurd (congrArg List.length h) (Nat.succ_ne_zero _), fun _ => ?_⟩ | refine aC ?_ | refine apG ?_); conv => whnf)
    exact Ret.mk [.tmp _] rfl rfl
theorem law22 (a b : Int) : Spec Try.prog 22 [.int .i64 a, .int .i64 b] [] (fun d _ => d = .bool true) := by
  have hra := keep_range a
  have hrb := keep_range b
  have hka := keep_keep a
  have hkb := keep_keep b
  refine Spec.by Try.func22 rfl (by decide) (by decide +kernel) rfl ?_
  (conv => whnf); repeat ((first | with_reducible (first | refine Pt.go ?_ | refine dA ?_ | refine dL ?_) | refine Br.t ?_ | refine Br.f ?_ | refine bT ?_ | refine bF ?_ | refine Opt.mk ?_ | with_reducible refine aR ?_ | refine ⟨fun h => absurd (congrArg List.length h) (Nat.succ_ne_zero _), fun _ => ?_⟩ | refine aC ?_ | refine apG ?_); conv => whnf)
  refine Call.mk (keep36 a _) ?_
  rintro d os' ⟨rfl, rfl⟩
  (conv => whnf); repeat ((first | with_reducible (first | refine Pt.go ?_ | refine dA ?_ | refine dL ?_) | refine Br.t ?_ | refine Br.f ?_ | refine bT ?_ | refine bF ?_ | refine Opt.mk ?_ | with_reducible refine aR ?_ | refine ⟨fun h => absurd (congrArg List.length h) (Nat.succ_ne_zero _), fun _ => ?_⟩ | refine aC ?_ | refine apG ?_); conv => whnf)
  refine Call.mk (keep36 b _) ?_
  rintro d os' ⟨rfl, rfl⟩
  obtain ⟨x, hx⟩ : ∃ x, keep a = x := ⟨_, rfl⟩
  obtain ⟨y, hy⟩ : ∃ y, keep b = y := ⟨_, rfl⟩
  rw [hx] at hra hka ⊢
  rw [hy] at hrb hkb ⊢
  (conv => whnf); repeat ((first | with_reducible (first | refine Pt.go ?_ | refine dA ?_ | refine dL ?_) | refine Br.t ?_ | refine Br.f ?_ | refine bT ?_ | refine bF ?_ | refine Opt.mk ?_ | with_reducible refine aR ?_ | refine ⟨fun h => absurd (congrArg List.length h) (Nat.succ_ne_zero _), fun _ => ?_⟩ | refine aC ?_ | refine apG ?_); conv => whnf)
  refine App.only false rfl rfl ?_
  (conv => whnf); repeat ((first | with_reducible (first | refine Pt.go ?_ | refine dA ?_ | refine dL ?_) | refine Br.t ?_ | refine Br.f ?_ | refine bT ?_ | refine bF ?_ | refine Opt.mk ?_ | with_reducible refine aR ?_ | refine ⟨fun h => absurd (congrArg List.length h) (Nat.succ_ne_zero _), fun _ => ?_⟩ | refine aC ?_ | refine apG ?_); conv => whnf)
  refine Call.mk (keep36 (x + y) _) ?_
  rintro d os' ⟨rfl, rfl⟩
  (conv => whnf); repeat ((first | with_reducible (first | refine Pt.go ?_ | refine dA ?_ | refine dL ?_) | refine Br.t ?_ | refine Br.f ?_ | refine bT ?_ | refine bF ?_ | refine Opt.mk ?_ | with_reducible refine aR ?_ | refine ⟨fun h => absurd (congrArg List.length h) (Nat.succ_ne_zero _), fun _ => ?_⟩ | refine aC ?_ | refine apG ?_); conv => whnf)
  refine Call.mk (keep36 (x - y) _) ?_
  rintro d os' ⟨rfl, rfl⟩
  (conv => whnf); repeat ((first | with_reducible (first | refine Pt.go ?_ | refine dA ?_ | refine dL ?_) | refine Br.t ?_ | refine Br.f ?_ | refine bT ?_ | refine bF ?_ | refine Opt.mk ?_ | with_reducible refine aR ?_ | refine ⟨fun h => absurd (congrArg List.length h) (Nat.succ_ne_zero _), fun _ => ?_⟩ | refine aC ?_ | refine apG ?_); conv => whnf)
  refine App.only false rfl rfl ?_
  (conv => whnf); repeat ((first | with_reducible (first | refine Pt.go ?_ | refine dA ?_ | refine dL ?_) | refine Br.t ?_ | refine Br.f ?_ | refine bT ?_ | refine bF ?_ | refine Opt.mk ?_ | with_reducible refine aR ?_ | refine ⟨fun h => absurd (congrArg List.length h) (Nat.succ_ne_zero _), fun _ => ?_⟩ | refine aC ?_ | refine apG ?_); conv => whnf)
  refine Loop.inv (A := Nat) (List.range 64) (fun i => [(0, .int .i64 x), (1, .int .i64 y), (4, .bool false), (5, ints [3, 4]), (6, ints [keep (x + y), keep (x - y)]), (7, .int .i64 (i : Int))]) (fun i => []) (fun i => i ≤ 2) (fun i => 2 - i) 0 (Nat.zero_le _) ?_ ?_
  · exact Weak.start' rfl rfl (by repeat (first | exact trivial | refine And.intro (by first | rfl | exact congrArg (fun n => D.sl _ _ _ _ n none) List.length_append | exact congrArg _ (by omega)) ?_))
  rintro i hi
  obtain rfl | rfl | rfl : i = 0 ∨ i = 1 ∨ i = 2 := by omega
  · have hgd := sum_good hra hrb (o := 3) (by decide)
    have hzr := sum_run3 x y
    rw [hka, hkb] at hzr
    (conv => whnf); repeat ((first | with_reducible (first | refine Pt.go ?_ | refine dA ?_ | refine dL ?_) | refine Br.t ?_ | refine Br.f ?_ | refine bT ?_ | refine bF ?_ | refine Opt.mk ?_ | with_reducible refine aR ?_ | refine ⟨fun h => absurd (congrArg List.length h) (Nat.succ_ne_zero _), fun _ => ?_⟩ | refine aC ?_ | refine apG ?_); conv => whnf)
    refine App.only false rfl rfl ?_
    (conv => whnf); repeat ((first | with_reducible (first | refine Pt.go ?_ | refine dA ?_ | refine dL ?_) | refine Br.t ?_ | refine Br.f ?_ | refine bT ?_ | refine bF ?_ | refine Opt.mk ?_ | with_reducible refine aR ?_ | refine ⟨fun h => absurd (congrArg List.length h) (Nat.succ_ne_zero _), fun _ => ?_⟩ | refine aC ?_ | refine apG ?_); conv => whnf)
    refine App.only false rfl rfl ?_
    (conv => whnf); repeat ((first | with_reducible (first | refine dA ?_ | refine dL ?_) | refine Br.t ?_ | refine Br.f ?_ | refine bT ?_ | refine bF ?_ | refine Opt.mk ?_ | with_reducible refine aR ?_ | refine ⟨fun h => absurd (congrArg List.length h) (Nat.succ_ne_zero _), fun _ => ?_⟩ | refine aC ?_ | refine apG ?_); conv => whnf)
    refine Pt.weak (Weak.frzO (fun _ => false) [(0, .int .i64 x), (1, .int .i64 y), (4, .bool false), (5, ints [3, 4]), (6, ints [keep (x + y), keep (x - y)]), (7, .int .i64 ((0 : Nat) : Int)), (8, .ptr 0 0 7 0 0)] 0 (ty := 26) (sz := 7) (es := [vmR (sumP x y 3)]) rfl rfl [pgD (vmP (sumP x y 3))] rfl (.cons (vmV _ _ (sumP x y 3)) .nil) ⟨View.same _, View.same _, View.same _, View.same _, View.same _, View.same _, View.same _, trivial⟩) ?_
    (conv => whnf); repeat ((first | with_reducible (first | refine Pt.go ?_ | refine dA ?_ | refine dL ?_) | refine Br.t ?_ | refine Br.f ?_ | refine bT ?_ | refine bF ?_ | refine Opt.mk ?_ | with_reducible refine aR ?_ | refine ⟨fun h => absurd (congrArg List.length h) (Nat.succ_ne_zero _), fun _ => ?_⟩ | refine aC ?_ | refine apG ?_); conv => whnf)
    refine Call.mk ((new96v (sumP x y 3)).only _ rfl (by rintro d rfl; rfl)) ?_; rintro d os' ⟨rfl, rfl⟩
    (conv => whnf); repeat ((first | with_reducible (first | refine Pt.go ?_ | refine dA ?_ | refine dL ?_) | refine Br.t ?_ | refine Br.f ?_ | refine bT ?_ | refine bF ?_ | refine Opt.mk ?_ | with_reducible refine aR ?_ | refine ⟨fun h => absurd (congrArg List.length h) (Nat.succ_ne_zero _), fun _ => ?_⟩ | refine aC ?_ | refine apG ?_); conv => whnf)
    refine Call.mk ((run92 (vmP (sumP x y 3)) hgd t0 (t0_good (sumP x y 3)) 9 (by decide)).only _ rfl (by rintro d rfl; rfl)) ?_; rintro d os' ⟨rfl, rfl⟩
    have e : (9 : Int).toNat = 9 := rfl
    rw [e]
    obtain ⟨⟨z, q, n⟩, hr⟩ : ∃ r, runT (vmP (sumP x y 3)) 9 t0 = r := ⟨_, rfl⟩
    rw [hr] at hzr ⊢
    dsimp only at hzr ⊢
    obtain ⟨rfl, rfl⟩ := hzr
    have b2 : (decide ((16 : Int) = 16) && (decide ((0 : Int) = 0) && (decide (keep (x + y) = keep (x + y)) && true))) = true := by simp
    (conv => whnf); repeat ((first | with_reducible (first | refine Pt.go ?_ | refine dA ?_ | refine dL ?_) | refine Br.t ?_ | refine Br.f ?_ | refine bT ?_ | refine bF ?_ | refine Opt.mk ?_ | with_reducible refine aR ?_ | refine ⟨fun h => absurd (congrArg List.length h) (Nat.succ_ne_zero _), fun _ => ?_⟩ | refine aC ?_ | refine apG ?_); conv => whnf)
    rw [b2]
    (conv => whnf); repeat ((first | with_reducible (first | refine Pt.go ?_ | refine dA ?_ | refine dL ?_) | refine Br.t ?_ | refine Br.f ?_ | refine bT ?_ | refine bF ?_ | refine Opt.mk ?_ | with_reducible refine aR ?_ | refine ⟨fun h => absurd (congrArg List.length h) (Nat.succ_ne_zero _), fun _ => ?_⟩ | refine aC ?_ | refine apG ?_); conv => whnf)
    refine ⟨_, _, _, ?_, ⟨0 + 1, ?_, rfl, rfl, rfl⟩, ?_⟩
    · show 2 - (0 + 1) < 2 - 0; omega
    · show 0 + 1 ≤ 2; omega
    · refine Weak.backT 0 (by simp) (by first | rfl | kernel_rfl) (by kernel_rfl) (Nat.le_of_ble_eq_true rfl) (by repeat (first | exact trivial | refine And.intro (by first | rfl | exact congrArg (fun n => D.sl _ _ _ _ n none) List.length_append | exact congrArg _ (by omega)) ?_)) (by kernel_rfl) (by kernel_rfl)
  · have hgd := sum_good hra hrb (o := 4) (by decide)
    have hzr := sum_run4 x y
    rw [hka, hkb] at hzr
    (conv => whnf); repeat ((first | with_reducible (first | refine Pt.go ?_ | refine dA ?_ | refine dL ?_) | refine Br.t ?_ | refine Br.f ?_ | refine bT ?_ | refine bF ?_ | refine Opt.mk ?_ | with_reducible refine aR ?_ | refine ⟨fun h => absurd (congrArg List.length h) (Nat.succ_ne_zero _), fun _ => ?_⟩ | refine aC ?_ | refine apG ?_); conv => whnf)
    refine App.only false rfl rfl ?_
    (conv => whnf); repeat ((first | with_reducible (first | refine Pt.go ?_ | refine dA ?_ | refine dL ?_) | refine Br.t ?_ | refine Br.f ?_ | refine bT ?_ | refine bF ?_ | refine Opt.mk ?_ | with_reducible refine aR ?_ | refine ⟨fun h => absurd (congrArg List.length h) (Nat.succ_ne_zero _), fun _ => ?_⟩ | refine aC ?_ | refine apG ?_); conv => whnf)
    refine App.only false rfl rfl ?_
    (conv => whnf); repeat ((first | with_reducible (first | refine dA ?_ | refine dL ?_) | refine Br.t ?_ | refine Br.f ?_ | refine bT ?_ | refine bF ?_ | refine Opt.mk ?_ | with_reducible refine aR ?_ | refine ⟨fun h => absurd (congrArg List.length h) (Nat.succ_ne_zero _), fun _ => ?_⟩ | refine aC ?_ | refine apG ?_); conv => whnf)
    refine Pt.weak (Weak.frzO (fun _ => false) [(0, .int .i64 x), (1, .int .i64 y), (4, .bool false), (5, ints [3, 4]), (6, ints [keep (x + y), keep (x - y)]), (7, .int .i64 ((1 : Nat) : Int)), (8, .ptr 0 0 7 0 0)] 0 (ty := 26) (sz := 7) (es := [vmR (sumP x y 4)]) rfl rfl [pgD (vmP (sumP x y 4))] rfl (.cons (vmV _ _ (sumP x y 4)) .nil) ⟨View.same _, View.same _, View.same _, View.same _, View.same _, View.same _, View.same _, trivial⟩) ?_
    (conv => whnf); repeat ((first | with_reducible (first | refine Pt.go ?_ | refine dA ?_ | refine dL ?_) | refine Br.t ?_ | refine Br.f ?_ | refine bT ?_ | refine bF ?_ | refine Opt.mk ?_ | with_reducible refine aR ?_ | refine ⟨fun h => absurd (congrArg List.length h) (Nat.succ_ne_zero _), fun _ => ?_⟩ | refine aC ?_ | refine apG ?_); conv => whnf)
    refine Call.mk ((new96v (sumP x y 4)).only _ rfl (by rintro d rfl; rfl)) ?_; rintro d os' ⟨rfl, rfl⟩
    (conv => whnf); repeat ((first | with_reducible (first | refine Pt.go ?_ | refine dA ?_ | refine dL ?_) | refine Br.t ?_ | refine Br.f ?_ | refine bT ?_ | refine bF ?_ | refine Opt.mk ?_ | with_reducible refine aR ?_ | refine ⟨fun h => absurd (congrArg List.length h) (Nat.succ_ne_zero _), fun _ => ?_⟩ | refine aC ?_ | refine apG ?_); conv => whnf)
    refine Call.mk ((run92 (vmP (sumP x y 4)) hgd t0 (t0_good (sumP x y 4)) 9 (by decide)).only _ rfl (by rintro d rfl; rfl)) ?_; rintro d os' ⟨rfl, rfl⟩
    have e : (9 : Int).toNat = 9 := rfl
    rw [e]
    obtain ⟨⟨z, q, n⟩, hr⟩ : ∃ r, runT (vmP (sumP x y 4)) 9 t0 = r := ⟨_, rfl⟩
    rw [hr] at hzr ⊢
    dsimp only at hzr ⊢
    obtain ⟨rfl, rfl⟩ := hzr
    have b2 : (decide ((16 : Int) = 16) && (decide ((0 : Int) = 0) && (decide (keep (x - y) = keep (x - y)) && true))) = true := by simp
    (conv => whnf); repeat ((first | with_reducible (first | refine Pt.go ?_ | refine dA ?_ | refine dL ?_) | refine Br.t ?_ | refine Br.f ?_ | refine bT ?_ | refine bF ?_ | refine Opt.mk ?_ | with_reducible refine aR ?_ | refine ⟨fun h => absurd (congrArg List.length h) (Nat.succ_ne_zero _), fun _ => ?_⟩ | refine aC ?_ | refine apG ?_); conv => whnf)
    rw [b2]
    (conv => whnf); repeat ((first | with_reducible (first | refine Pt.go ?_ | refine dA ?_ | refine dL ?_) | refine Br.t ?_ | refine Br.f ?_ | refine bT ?_ | refine bF ?_ | refine Opt.mk ?_ | with_reducible refine aR ?_ | refine ⟨fun h => absurd (congrArg List.length h) (Nat.succ_ne_zero _), fun _ => ?_⟩ | refine aC ?_ | refine apG ?_); conv => whnf)
    refine ⟨_, _, _, ?_, ⟨1 + 1, ?_, rfl, rfl, rfl⟩, ?_⟩
    · show 2 - (1 + 1) < 2 - 1; omega
    · show 1 + 1 ≤ 2; omega
    · refine Weak.backT 0 (by simp) (by first | rfl | kernel_rfl) (by kernel_rfl) (Nat.le_of_ble_eq_true rfl) (by repeat (first | exact trivial | refine And.intro (by first | rfl | exact congrArg (fun n => D.sl _ _ _ _ n none) List.length_append | exact congrArg _ (by omega)) ?_)) (by kernel_rfl) (by kernel_rfl)
  · (conv => whnf); repeat ((first | with_reducible (first | refine Pt.go ?_ | refine dA ?_ | refine dL ?_) | refine Br.t ?_ | refine Br.f ?_ | refine bT ?_ | refine bF ?_ | refine Opt.mk ?_ | with_reducible refine aR ?_ | refine ⟨fun h => absurd (congrArg List.length h) (Nat.succ_ne_zero _), fun _ => ?_⟩ | refine aC ?_ | refine apG ?_); conv => whnf)
    refine Call.mk ((lives95).only _ rfl (by rintro d rfl; rfl)) ?_; rintro d os' ⟨rfl, rfl⟩
    (conv => whnf); repeat ((first | with_reducible (first | refine Pt.go ?_ | refine dA ?_ | refine dL ?_) | refine Br.t ?_ | refine Br.f ?_ | refine bT ?_ | refine bF ?_ | refine Opt.mk ?_ | with_reducible refine aR ?_ | refine ⟨fun h => absurd (congrArg List.length h) (Nat.succ_ne_zero _), fun _ => ?_⟩ | refine aC ?_ | refine apG ?_); conv => whnf)
    exact Ret.mk [.tmp _] rfl rfl
end Go.Proofs.Ytaplihoeephbeaa.V
