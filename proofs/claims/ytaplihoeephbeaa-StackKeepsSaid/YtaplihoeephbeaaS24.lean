/- S24: a text of a symbolic executor that is proved sound, and contracts that are proved with it. -/
import Derived.Test.YtaplihoeephbeaaS23
namespace Go.Proofs.Ytaplihoeephbeaa.V
open Go Go.Proofs
set_option maxRecDepth 100000
set_option maxHeartbeats 40000000
/-- A deed. -/
structure Dd where
  kd : Int
  v : Int
  ix : Int
@[reducible] def ddD (d : Dd) : D := .agg [.int .i64 d.kd, .int .i64 d.v, .int .i64 d.ix]
theorem kt_good {g : Pg} {x : Th} (hx : GoodT g x) : KT g x := ⟨hx.fl, hx.sk, hx.fr⟩
theorem KT.ok {g : Pg} (hg : GoodP g) {x : Th} (hx : KT g x) : x.ok := ⟨by have := hx.fl; omega, by have := hx.sl; omega, fun f hf => by have := odd_ls hg (hx.fr f hf); unfold Fm.ok; omega⟩
theorem clone59f (t : Th) (h : t.okB) : Spec Try.prog 59 [thD t] [] (fun d os' => d = thD t ∧ os' = []) := by
  refine Spec.frz (post' := fun d => d = thD t) ((clone59o t h).mono ?_)
  rintro d os' ⟨rfl, rfl⟩
  exact ⟨thD t, View.agg (.cons (.same _) (.cons (.same _) (.cons (View.slAll rfl rfl (by simp) (by simp) (ViewL.same _) (pureL_map (fun _ => rfl) _)) (.cons (View.slAll rfl rfl (by simp) (by simp) (ViewL.same _) (pureL_map (fun _ => rfl) _)) (.same _))))), rfl, rfl⟩
@[reducible] def tR (x : Th) : Fam := one (.row 29 5 false [thD x])
theorem law10 (p : Pg) (hp : p.okB) (t : Th) (ht : t.okR) (d e : Dd) (hd : I64 d.kd ∧ I64 d.v ∧ I64 d.ix) (he : I64 e.kd ∧ I64 e.v ∧ I64 e.ix) : Spec Try.prog 10 [pgD p, thD t, ddD d, ddD e] [] (fun d _ => d = .bool true) := by
  refine Spec.by Try.func10 rfl (by decide) (by decide +kernel) rfl ?_
  (conv => whnf); repeat (first | ((with_reducible refine Pt.go ?_); conv => whnf) | ((with_reducible refine dA ?_); conv => whnf) | ((with_reducible refine dL ?_); conv => whnf) | (refine Br.t ?_; conv => whnf) | (refine Br.f ?_; conv => whnf) | (refine bT ?_; conv => whnf) | (refine bF ?_; conv => whnf) | (refine Opt.mk ?_; conv => whnf) | ((with_reducible refine aR ?_); conv => whnf) | (refine ⟨fun h => absurd (congrArg List.length h) (Nat.succ_ne_zero _), fun _ => ?_⟩; conv => whnf) | (refine aC ?_; conv => whnf) | (refine apG ?_; conv => whnf) | fail)
  refine Call.mk ((good29 p hp).only _ rfl (by rintro d ⟨g, _, rfl⟩; rfl)) ?_
  rintro d' os' ⟨⟨g, hg, rfl⟩, rfl⟩
  (conv => whnf); repeat (first | ((with_reducible refine Pt.go ?_); conv => whnf) | ((with_reducible refine dA ?_); conv => whnf) | ((with_reducible refine dL ?_); conv => whnf) | (refine Br.t ?_; conv => whnf) | (refine Br.f ?_; conv => whnf) | (refine bT ?_; conv => whnf) | (refine bF ?_; conv => whnf) | (refine Opt.mk ?_; conv => whnf) | ((with_reducible refine aR ?_); conv => whnf) | (refine ⟨fun h => absurd (congrArg List.length h) (Nat.succ_ne_zero _), fun _ => ?_⟩; conv => whnf) | (refine aC ?_; conv => whnf) | (refine apG ?_; conv => whnf) | fail)
  refine Call.mk ((good30f g hg t ht).only _ rfl (by rintro d ⟨x, _, rfl⟩; rfl)) ?_
  rintro d' os' ⟨⟨x, hx0, rfl⟩, rfl⟩
  have hx := kt_good hx0
  (conv => whnf); repeat (first | ((with_reducible refine Pt.go ?_); conv => whnf) | ((with_reducible refine dA ?_); conv => whnf) | ((with_reducible refine dL ?_); conv => whnf) | (refine Br.t ?_; conv => whnf) | (refine Br.f ?_; conv => whnf) | (refine bT ?_; conv => whnf) | (refine bF ?_; conv => whnf) | (refine Opt.mk ?_; conv => whnf) | ((with_reducible refine aR ?_); conv => whnf) | (refine ⟨fun h => absurd (congrArg List.length h) (Nat.succ_ne_zero _), fun _ => ?_⟩; conv => whnf) | (refine aC ?_; conv => whnf) | (refine apG ?_; conv => whnf) | fail)
  refine Call.mk ((clone59f x (hx.okB hg)).only _ rfl (by rintro d rfl; rfl)) ?_; rintro d os' ⟨rfl, rfl⟩
  (conv => whnf); repeat (first | ((with_reducible refine dA ?_); conv => whnf) | ((with_reducible refine dL ?_); conv => whnf) | (refine Br.t ?_; conv => whnf) | (refine Br.f ?_; conv => whnf) | (refine bT ?_; conv => whnf) | (refine bF ?_; conv => whnf) | (refine Opt.mk ?_; conv => whnf) | ((with_reducible refine aR ?_); conv => whnf) | (refine ⟨fun h => absurd (congrArg List.length h) (Nat.succ_ne_zero _), fun _ => ?_⟩; conv => whnf) | (refine aC ?_; conv => whnf) | (refine apG ?_; conv => whnf) | fail)
  refine Pt.weak (Weak.only [(6, .ptr 2 0 3 0 0), (7, .ptr 3 0 3 0 0), (9, .ptr 4 0 7 0 0), (10, .ptr 5 0 5 0 0), (11, .ptr 6 0 5 0 0)] [one (.row 26 7 false [pgD p]), tR t, one (.row 79 3 false [ddD d]), one (.row 79 3 false [ddD e]), one (.row 26 7 false [pgD g]), tR x, tR x] (by kernel_rfl) (by repeat (first | exact trivial | refine And.intro (by first | rfl | exact congrArg (fun n => D.sl _ _ _ _ n none) List.length_append | exact congrArg _ (by omega)) ?_))) ?_
  (conv => whnf); repeat (first | ((with_reducible refine Pt.go ?_); conv => whnf) | ((with_reducible refine dA ?_); conv => whnf) | ((with_reducible refine dL ?_); conv => whnf) | (refine Br.t ?_; conv => whnf) | (refine Br.f ?_; conv => whnf) | (refine bT ?_; conv => whnf) | (refine bF ?_; conv => whnf) | (refine Opt.mk ?_; conv => whnf) | ((with_reducible refine aR ?_); conv => whnf) | (refine ⟨fun h => absurd (congrArg List.length h) (Nat.succ_ne_zero _), fun _ => ?_⟩; conv => whnf) | (refine aC ?_; conv => whnf) | (refine apG ?_; conv => whnf) | fail)
  refine Call.mk ((does62 g hg x hx d.kd d.v d.ix hd.2.1 hd.2.2).only _ rfl (by rintro d ⟨y, _, rfl⟩; rfl)) ?_
  rintro d' os' ⟨⟨y, hy, rfl⟩, rfl⟩
  (conv => whnf); repeat (first | ((with_reducible refine Pt.go ?_); conv => whnf) | ((with_reducible refine dA ?_); conv => whnf) | ((with_reducible refine dL ?_); conv => whnf) | (refine Br.t ?_; conv => whnf) | (refine Br.f ?_; conv => whnf) | (refine bT ?_; conv => whnf) | (refine bF ?_; conv => whnf) | (refine Opt.mk ?_; conv => whnf) | ((with_reducible refine aR ?_); conv => whnf) | (refine ⟨fun h => absurd (congrArg List.length h) (Nat.succ_ne_zero _), fun _ => ?_⟩; conv => whnf) | (refine aC ?_; conv => whnf) | (refine apG ?_; conv => whnf) | fail)
  refine Call.mk ((clone59f y (hy.okB hg)).only _ rfl (by rintro d rfl; rfl)) ?_; rintro d os' ⟨rfl, rfl⟩
  (conv => whnf); repeat (first | ((with_reducible refine dA ?_); conv => whnf) | ((with_reducible refine dL ?_); conv => whnf) | (refine Br.t ?_; conv => whnf) | (refine Br.f ?_; conv => whnf) | (refine bT ?_; conv => whnf) | (refine bF ?_; conv => whnf) | (refine Opt.mk ?_; conv => whnf) | ((with_reducible refine aR ?_); conv => whnf) | (refine ⟨fun h => absurd (congrArg List.length h) (Nat.succ_ne_zero _), fun _ => ?_⟩; conv => whnf) | (refine aC ?_; conv => whnf) | (refine apG ?_; conv => whnf) | fail)
  refine Pt.weak (Weak.only [(7, .ptr 3 0 3 0 0), (9, .ptr 4 0 7 0 0), (10, .ptr 5 0 5 0 0), (11, .ptr 6 0 5 0 0), (12, .ptr 7 0 5 0 0), (13, .ptr 8 0 5 0 0), (15, .ptr 9 0 5 0 0)] [one (.row 26 7 false [pgD p]), tR t, one (.row 79 3 false [ddD d]), one (.row 79 3 false [ddD e]), one (.row 26 7 false [pgD g]), tR x, tR x, tR y, tR y, tR y] (by kernel_rfl) (by repeat (first | exact trivial | refine And.intro (by first | rfl | exact congrArg (fun n => D.sl _ _ _ _ n none) List.length_append | exact congrArg _ (by omega)) ?_))) ?_
  ((with_reducible refine Pt.go ?_); conv => whnf)
  (conv => whnf); repeat (first | ((with_reducible refine dA ?_); conv => whnf) | ((with_reducible refine dL ?_); conv => whnf) | (refine Br.t ?_; conv => whnf) | (refine Br.f ?_; conv => whnf) | (refine bT ?_; conv => whnf) | (refine bF ?_; conv => whnf) | (refine Opt.mk ?_; conv => whnf) | ((with_reducible refine aR ?_); conv => whnf) | (refine ⟨fun h => absurd (congrArg List.length h) (Nat.succ_ne_zero _), fun _ => ?_⟩; conv => whnf) | (refine aC ?_; conv => whnf) | (refine apG ?_; conv => whnf) | fail)
  refine Call.mk ((does62 g hg y hy e.kd e.v e.ix he.2.1 he.2.2).only _ rfl (by rintro d ⟨y, _, rfl⟩; rfl)) ?_
  rintro d' os' ⟨⟨z, hz, rfl⟩, rfl⟩
  (conv => whnf); repeat (first | ((with_reducible refine dA ?_); conv => whnf) | ((with_reducible refine dL ?_); conv => whnf) | (refine Br.t ?_; conv => whnf) | (refine Br.f ?_; conv => whnf) | (refine bT ?_; conv => whnf) | (refine bF ?_; conv => whnf) | (refine Opt.mk ?_; conv => whnf) | ((with_reducible refine aR ?_); conv => whnf) | (refine ⟨fun h => absurd (congrArg List.length h) (Nat.succ_ne_zero _), fun _ => ?_⟩; conv => whnf) | (refine aC ?_; conv => whnf) | (refine apG ?_; conv => whnf) | fail)
  refine Pt.weak (Weak.only [(7, .ptr 3 0 3 0 0), (9, .ptr 4 0 7 0 0), (10, .ptr 5 0 5 0 0), (11, .ptr 6 0 5 0 0), (12, .ptr 7 0 5 0 0), (15, .ptr 9 0 5 0 0), (16, .ptr 10 0 5 0 0), (18, .bool true)] [one (.row 26 7 false [pgD p]), tR t, one (.row 79 3 false [ddD d]), one (.row 79 3 false [ddD e]), one (.row 26 7 false [pgD g]), tR x, tR x, tR y, tR y, tR y, tR z, tR z] (by kernel_rfl) (by repeat (first | exact trivial | refine And.intro (by first | rfl | exact congrArg (fun n => D.sl _ _ _ _ n none) List.length_append | exact congrArg _ (by omega)) ?_))) ?_
  ((with_reducible refine Pt.go ?_); conv => whnf)
  (conv => whnf); repeat (first | ((with_reducible refine dA ?_); conv => whnf) | ((with_reducible refine dL ?_); conv => whnf) | (refine Br.t ?_; conv => whnf) | (refine Br.f ?_; conv => whnf) | (refine bT ?_; conv => whnf) | (refine bF ?_; conv => whnf) | (refine Opt.mk ?_; conv => whnf) | ((with_reducible refine aR ?_); conv => whnf) | (refine ⟨fun h => absurd (congrArg List.length h) (Nat.succ_ne_zero _), fun _ => ?_⟩; conv => whnf) | (refine aC ?_; conv => whnf) | (refine apG ?_; conv => whnf) | fail)
  refine Call.mk ((does62 g hg x hx e.kd e.v e.ix he.2.1 he.2.2).only _ rfl (by rintro d ⟨y, _, rfl⟩; rfl)) ?_
  rintro d' os' ⟨⟨u, hu, rfl⟩, rfl⟩
  (conv => whnf); repeat (first | ((with_reducible refine dA ?_); conv => whnf) | ((with_reducible refine dL ?_); conv => whnf) | (refine Br.t ?_; conv => whnf) | (refine Br.f ?_; conv => whnf) | (refine bT ?_; conv => whnf) | (refine bF ?_; conv => whnf) | (refine Opt.mk ?_; conv => whnf) | ((with_reducible refine aR ?_); conv => whnf) | (refine ⟨fun h => absurd (congrArg List.length h) (Nat.succ_ne_zero _), fun _ => ?_⟩; conv => whnf) | (refine aC ?_; conv => whnf) | (refine apG ?_; conv => whnf) | fail)
  refine Pt.weak (Weak.only [(10, .ptr 5 0 5 0 0), (11, .ptr 6 0 5 0 0), (12, .ptr 7 0 5 0 0), (15, .ptr 9 0 5 0 0), (16, .ptr 10 0 5 0 0), (18, .bool true), (19, .ptr 12 0 5 0 0), (20, .ptr 13 0 5 0 0), (21, .bool true)] [one (.row 26 7 false [pgD p]), tR t, one (.row 79 3 false [ddD d]), one (.row 79 3 false [ddD e]), one (.row 26 7 false [pgD g]), tR x, tR x, tR y, tR y, tR y, tR z, tR z, tR u, tR u] (by kernel_rfl) (by repeat (first | exact trivial | refine And.intro (by first | rfl | exact congrArg (fun n => D.sl _ _ _ _ n none) List.length_append | exact congrArg _ (by omega)) ?_))) ?_
  ((with_reducible refine Pt.go ?_); conv => whnf)
  (conv => whnf); repeat (first | ((with_reducible refine dA ?_); conv => whnf) | ((with_reducible refine dL ?_); conv => whnf) | (refine Br.t ?_; conv => whnf) | (refine Br.f ?_; conv => whnf) | (refine bT ?_; conv => whnf) | (refine bF ?_; conv => whnf) | (refine Opt.mk ?_; conv => whnf) | ((with_reducible refine aR ?_); conv => whnf) | (refine ⟨fun h => absurd (congrArg List.length h) (Nat.succ_ne_zero _), fun _ => ?_⟩; conv => whnf) | (refine aC ?_; conv => whnf) | (refine apG ?_; conv => whnf) | fail)
  refine Call.mk ((same53 x x (hx.ok hg)).only _ rfl (by rintro d rfl; rfl)) ?_; rintro d os' ⟨rfl, rfl⟩
  have b1 : decide (x = x) = true := decide_eq_true rfl
  rw [b1]
  (conv => whnf); repeat (first | ((with_reducible refine dA ?_); conv => whnf) | ((with_reducible refine dL ?_); conv => whnf) | (refine Br.t ?_; conv => whnf) | (refine Br.f ?_; conv => whnf) | (refine bT ?_; conv => whnf) | (refine bF ?_; conv => whnf) | (refine Opt.mk ?_; conv => whnf) | ((with_reducible refine aR ?_); conv => whnf) | (refine ⟨fun h => absurd (congrArg List.length h) (Nat.succ_ne_zero _), fun _ => ?_⟩; conv => whnf) | (refine aC ?_; conv => whnf) | (refine apG ?_; conv => whnf) | fail)
  refine Call.mk ((same53 y y (hy.ok hg)).only _ rfl (by rintro d rfl; rfl)) ?_; rintro d os' ⟨rfl, rfl⟩
  have b2 : decide (y = y) = true := decide_eq_true rfl
  rw [b2]
  (conv => whnf); repeat (first | ((with_reducible refine dA ?_); conv => whnf) | ((with_reducible refine dL ?_); conv => whnf) | (refine Br.t ?_; conv => whnf) | (refine Br.f ?_; conv => whnf) | (refine bT ?_; conv => whnf) | (refine bF ?_; conv => whnf) | (refine Opt.mk ?_; conv => whnf) | ((with_reducible refine aR ?_); conv => whnf) | (refine ⟨fun h => absurd (congrArg List.length h) (Nat.succ_ne_zero _), fun _ => ?_⟩; conv => whnf) | (refine aC ?_; conv => whnf) | (refine apG ?_; conv => whnf) | fail)
  refine Call.mk ((same53 u u (hu.ok hg)).only _ rfl (by rintro d rfl; rfl)) ?_; rintro d os' ⟨rfl, rfl⟩
  have b3 : decide (u = u) = true := decide_eq_true rfl
  rw [b3]
  have hfz := hz.fl
  have b4 : 0 < (((z.fr.map frD).length : Nat) : Int) := by rw [List.length_map]; omega
  (conv => whnf); repeat (first | ((with_reducible refine dA ?_); conv => whnf) | ((with_reducible refine dL ?_); conv => whnf) | (refine Br.t ?_; conv => whnf) | (refine Br.f ?_; conv => whnf) | (refine bT ?_; conv => whnf) | (refine bF ?_; conv => whnf) | (refine Opt.mk ?_; conv => whnf) | ((with_reducible refine aR ?_); conv => whnf) | (refine ⟨fun h => absurd (congrArg List.length h) (Nat.succ_ne_zero _), fun _ => ?_⟩; conv => whnf) | (refine aC ?_; conv => whnf) | (refine apG ?_; conv => whnf) | fail)
  refine Call.mk ((lives37).only _ rfl (by rintro d rfl; rfl)) ?_; rintro d os' ⟨rfl, rfl⟩
  (conv => whnf); repeat (first | ((with_reducible refine dA ?_); conv => whnf) | ((with_reducible refine dL ?_); conv => whnf) | (refine Br.t ?_; conv => whnf) | (refine Br.f ?_; conv => whnf) | (refine bT ?_; conv => whnf) | (refine bF ?_; conv => whnf) | (refine Opt.mk ?_; conv => whnf) | ((with_reducible refine aR ?_); conv => whnf) | (refine ⟨fun h => absurd (congrArg List.length h) (Nat.succ_ne_zero _), fun _ => ?_⟩; conv => whnf) | (refine aC ?_; conv => whnf) | (refine apG ?_; conv => whnf) | fail)
  exact Ret.mk [.tmp _] rfl rfl
end Go.Proofs.Ytaplihoeephbeaa.V
