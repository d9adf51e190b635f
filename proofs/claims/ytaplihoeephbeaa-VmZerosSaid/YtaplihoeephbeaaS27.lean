/- S27: a text of a symbolic executor that is proved sound, and contracts that are proved with it. -/
import Derived.Test.YtaplihoeephbeaaS26
namespace Go.Proofs.Ytaplihoeephbeaa.V
open Go Go.Proofs
set_option maxRecDepth 100000
set_option maxHeartbeats 40000000
@[reducible] def fnD (n : Nat) : D := .fn (.func n) [] []
@[reducible] def fnC (n : Nat) (d : D) : D := .fn (.func n) [] [.pel d 0]
/-- What instructions do. -/
def doesM : List (Int × D) := [(0, fnD 197), (1, fnD 198), (2, fnD 200), (3, fnC 227 (fnD 202)), (4, fnC 227 (fnD 203)), (5, fnD 204), (6, fnD 205), (7, fnD 206), (8, fnD 207), (9, fnD 208), (10, fnD 209), (26, fnD 210),
  (12, fnC 228 (.int .i64 2)), (11, fnC 228 (.int .i64 3)), (15, fnC 228 (.int .i64 6)), (16, fnC 228 (.int .i64 7)), (17, fnC 228 (.int .i64 8)), (18, fnC 228 (.int .i64 9)), (19, fnC 228 (.int .i64 10)), (20, fnC 228 (.int .i64 11)), (21, fnC 228 (.int .i64 12)), (23, fnC 228 (.int .i64 14)), (24, fnC 228 (.int .i64 15)),
  (13, fnC 229 (.int .i64 4)), (14, fnC 229 (.int .i64 5)), (25, fnC 229 (.int .i64 16)), (22, fnC 229 (.int .i64 13))]
theorem does162 : Spec Try.prog 162 [] [] (fun d os' => d = .mp 0 0 ∧ os' = [one (.map doesM)]) := by
  refine Spec.by Try.func162 rfl (by decide) (by decide +kernel) rfl ?_
  (conv => whnf); repeat ((first | with_reducible (first | refine Pt.go ?_ | refine dA ?_ | refine dL ?_) | refine Br.t ?_ | refine Br.f ?_ | refine bT ?_ | refine bF ?_ | refine Opt.mk ?_ | with_reducible refine aR ?_ | refine ⟨fun h => absurd (congrArg List.length h) (Nat.succ_ne_zero _), fun _ => ?_⟩ | refine aC ?_ | refine apG ?_); conv => whnf)
  refine Call.mk ((c201 202).only _ rfl (by rintro d rfl; rfl)) ?_; rintro d os' ⟨rfl, rfl⟩
  (conv => whnf); repeat ((first | with_reducible (first | refine Pt.go ?_ | refine dA ?_ | refine dL ?_) | refine Br.t ?_ | refine Br.f ?_ | refine bT ?_ | refine bF ?_ | refine Opt.mk ?_ | with_reducible refine aR ?_ | refine ⟨fun h => absurd (congrArg List.length h) (Nat.succ_ne_zero _), fun _ => ?_⟩ | refine aC ?_ | refine apG ?_); conv => whnf)
  refine Call.mk ((c201 203).only _ rfl (by rintro d rfl; rfl)) ?_; rintro d os' ⟨rfl, rfl⟩
  (conv => whnf); repeat ((first | with_reducible (first | refine Pt.go ?_ | refine dA ?_ | refine dL ?_) | refine Br.t ?_ | refine Br.f ?_ | refine bT ?_ | refine bF ?_ | refine Opt.mk ?_ | with_reducible refine aR ?_ | refine ⟨fun h => absurd (congrArg List.length h) (Nat.succ_ne_zero _), fun _ => ?_⟩ | refine aC ?_ | refine apG ?_); conv => whnf)
  refine Call.mk ((c211 2).only _ rfl (by rintro d rfl; rfl)) ?_; rintro d os' ⟨rfl, rfl⟩
  (conv => whnf); repeat ((first | with_reducible (first | refine Pt.go ?_ | refine dA ?_ | refine dL ?_) | refine Br.t ?_ | refine Br.f ?_ | refine bT ?_ | refine bF ?_ | refine Opt.mk ?_ | with_reducible refine aR ?_ | refine ⟨fun h => absurd (congrArg List.length h) (Nat.succ_ne_zero _), fun _ => ?_⟩ | refine aC ?_ | refine apG ?_); conv => whnf)
  refine Call.mk ((c211 3).only _ rfl (by rintro d rfl; rfl)) ?_; rintro d os' ⟨rfl, rfl⟩
  (conv => whnf); repeat ((first | with_reducible (first | refine Pt.go ?_ | refine dA ?_ | refine dL ?_) | refine Br.t ?_ | refine Br.f ?_ | refine bT ?_ | refine bF ?_ | refine Opt.mk ?_ | with_reducible refine aR ?_ | refine ⟨fun h => absurd (congrArg List.length h) (Nat.succ_ne_zero _), fun _ => ?_⟩ | refine aC ?_ | refine apG ?_); conv => whnf)
  refine Call.mk ((c211 6).only _ rfl (by rintro d rfl; rfl)) ?_; rintro d os' ⟨rfl, rfl⟩
  (conv => whnf); repeat ((first | with_reducible (first | refine Pt.go ?_ | refine dA ?_ | refine dL ?_) | refine Br.t ?_ | refine Br.f ?_ | refine bT ?_ | refine bF ?_ | refine Opt.mk ?_ | with_reducible refine aR ?_ | refine ⟨fun h => absurd (congrArg List.length h) (Nat.succ_ne_zero _), fun _ => ?_⟩ | refine aC ?_ | refine apG ?_); conv => whnf)
  refine Call.mk ((c211 7).only _ rfl (by rintro d rfl; rfl)) ?_; rintro d os' ⟨rfl, rfl⟩
  (conv => whnf); repeat ((first | with_reducible (first | refine Pt.go ?_ | refine dA ?_ | refine dL ?_) | refine Br.t ?_ | refine Br.f ?_ | refine bT ?_ | refine bF ?_ | refine Opt.mk ?_ | with_reducible refine aR ?_ | refine ⟨fun h => absurd (congrArg List.length h) (Nat.succ_ne_zero _), fun _ => ?_⟩ | refine aC ?_ | refine apG ?_); conv => whnf)
  refine Call.mk ((c211 8).only _ rfl (by rintro d rfl; rfl)) ?_; rintro d os' ⟨rfl, rfl⟩
  (conv => whnf); repeat ((first | with_reducible (first | refine Pt.go ?_ | refine dA ?_ | refine dL ?_) | refine Br.t ?_ | refine Br.f ?_ | refine bT ?_ | refine bF ?_ | refine Opt.mk ?_ | with_reducible refine aR ?_ | refine ⟨fun h => absurd (congrArg List.length h) (Nat.succ_ne_zero _), fun _ => ?_⟩ | refine aC ?_ | refine apG ?_); conv => whnf)
  refine Call.mk ((c211 9).only _ rfl (by rintro d rfl; rfl)) ?_; rintro d os' ⟨rfl, rfl⟩
  (conv => whnf); repeat ((first | with_reducible (first | refine Pt.go ?_ | refine dA ?_ | refine dL ?_) | refine Br.t ?_ | refine Br.f ?_ | refine bT ?_ | refine bF ?_ | refine Opt.mk ?_ | with_reducible refine aR ?_ | refine ⟨fun h => absurd (congrArg List.length h) (Nat.succ_ne_zero _), fun _ => ?_⟩ | refine aC ?_ | refine apG ?_); conv => whnf)
  refine Call.mk ((c211 10).only _ rfl (by rintro d rfl; rfl)) ?_; rintro d os' ⟨rfl, rfl⟩
  (conv => whnf); repeat ((first | with_reducible (first | refine Pt.go ?_ | refine dA ?_ | refine dL ?_) | refine Br.t ?_ | refine Br.f ?_ | refine bT ?_ | refine bF ?_ | refine Opt.mk ?_ | with_reducible refine aR ?_ | refine ⟨fun h => absurd (congrArg List.length h) (Nat.succ_ne_zero _), fun _ => ?_⟩ | refine aC ?_ | refine apG ?_); conv => whnf)
  refine Call.mk ((c211 11).only _ rfl (by rintro d rfl; rfl)) ?_; rintro d os' ⟨rfl, rfl⟩
  (conv => whnf); repeat ((first | with_reducible (first | refine Pt.go ?_ | refine dA ?_ | refine dL ?_) | refine Br.t ?_ | refine Br.f ?_ | refine bT ?_ | refine bF ?_ | refine Opt.mk ?_ | with_reducible refine aR ?_ | refine ⟨fun h => absurd (congrArg List.length h) (Nat.succ_ne_zero _), fun _ => ?_⟩ | refine aC ?_ | refine apG ?_); conv => whnf)
  refine Call.mk ((c211 12).only _ rfl (by rintro d rfl; rfl)) ?_; rintro d os' ⟨rfl, rfl⟩
  (conv => whnf); repeat ((first | with_reducible (first | refine Pt.go ?_ | refine dA ?_ | refine dL ?_) | refine Br.t ?_ | refine Br.f ?_ | refine bT ?_ | refine bF ?_ | refine Opt.mk ?_ | with_reducible refine aR ?_ | refine ⟨fun h => absurd (congrArg List.length h) (Nat.succ_ne_zero _), fun _ => ?_⟩ | refine aC ?_ | refine apG ?_); conv => whnf)
  refine Call.mk ((c211 14).only _ rfl (by rintro d rfl; rfl)) ?_; rintro d os' ⟨rfl, rfl⟩
  (conv => whnf); repeat ((first | with_reducible (first | refine Pt.go ?_ | refine dA ?_ | refine dL ?_) | refine Br.t ?_ | refine Br.f ?_ | refine bT ?_ | refine bF ?_ | refine Opt.mk ?_ | with_reducible refine aR ?_ | refine ⟨fun h => absurd (congrArg List.length h) (Nat.succ_ne_zero _), fun _ => ?_⟩ | refine aC ?_ | refine apG ?_); conv => whnf)
  refine Call.mk ((c211 15).only _ rfl (by rintro d rfl; rfl)) ?_; rintro d os' ⟨rfl, rfl⟩
  (conv => whnf); repeat ((first | with_reducible (first | refine Pt.go ?_ | refine dA ?_ | refine dL ?_) | refine Br.t ?_ | refine Br.f ?_ | refine bT ?_ | refine bF ?_ | refine Opt.mk ?_ | with_reducible refine aR ?_ | refine ⟨fun h => absurd (congrArg List.length h) (Nat.succ_ne_zero _), fun _ => ?_⟩ | refine aC ?_ | refine apG ?_); conv => whnf)
  refine Call.mk ((c212 4).only _ rfl (by rintro d rfl; rfl)) ?_; rintro d os' ⟨rfl, rfl⟩
  (conv => whnf); repeat ((first | with_reducible (first | refine Pt.go ?_ | refine dA ?_ | refine dL ?_) | refine Br.t ?_ | refine Br.f ?_ | refine bT ?_ | refine bF ?_ | refine Opt.mk ?_ | with_reducible refine aR ?_ | refine ⟨fun h => absurd (congrArg List.length h) (Nat.succ_ne_zero _), fun _ => ?_⟩ | refine aC ?_ | refine apG ?_); conv => whnf)
  refine Call.mk ((c212 5).only _ rfl (by rintro d rfl; rfl)) ?_; rintro d os' ⟨rfl, rfl⟩
  (conv => whnf); repeat ((first | with_reducible (first | refine Pt.go ?_ | refine dA ?_ | refine dL ?_) | refine Br.t ?_ | refine Br.f ?_ | refine bT ?_ | refine bF ?_ | refine Opt.mk ?_ | with_reducible refine aR ?_ | refine ⟨fun h => absurd (congrArg List.length h) (Nat.succ_ne_zero _), fun _ => ?_⟩ | refine aC ?_ | refine apG ?_); conv => whnf)
  refine Call.mk ((c212 16).only _ rfl (by rintro d rfl; rfl)) ?_; rintro d os' ⟨rfl, rfl⟩
  (conv => whnf); repeat ((first | with_reducible (first | refine Pt.go ?_ | refine dA ?_ | refine dL ?_) | refine Br.t ?_ | refine Br.f ?_ | refine bT ?_ | refine bF ?_ | refine Opt.mk ?_ | with_reducible refine aR ?_ | refine ⟨fun h => absurd (congrArg List.length h) (Nat.succ_ne_zero _), fun _ => ?_⟩ | refine aC ?_ | refine apG ?_); conv => whnf)
  refine Call.mk ((c212 13).only _ rfl (by rintro d rfl; rfl)) ?_; rintro d os' ⟨rfl, rfl⟩
  (conv => whnf); repeat ((first | with_reducible (first | refine Pt.go ?_ | refine dA ?_ | refine dL ?_) | refine Br.t ?_ | refine Br.f ?_ | refine bT ?_ | refine bF ?_ | refine Opt.mk ?_ | with_reducible refine aR ?_ | refine ⟨fun h => absurd (congrArg List.length h) (Nat.succ_ne_zero _), fun _ => ?_⟩ | refine aC ?_ | refine apG ?_); conv => whnf)
  refine Ret.trim 1 (by simp) rfl (Nat.le_of_ble_eq_true rfl) ?_
  refine Ret.mk [.tmp _] rfl ?_
  (conv => whnf)
  exact ⟨rfl, rfl⟩
/-- What an instruction makes of a machine whose thread's place is the next one. -/
@[reducible] def nq : Rq := ⟨0, 0, 0⟩
@[reducible] def mk3 (p : Th × Int) : Th × Int × Rq := (p.1, p.2, nq)
def pop2 (t : Th) : Th × Int × Int × Int := ((popM (popM t).1).1, underE (underE (-1) (popM t).2.2 1) (popM (popM t).1).2.2 1, (popM (popM t).1).2.1, (popM t).2.1)
def execM (g : Pg) (s : List Fm) (f : Fm) (t : Th) (op a : Int) : Th × Int × Rq :=
  match op with
  | 0 => mk3 (pushL t (-1) [a])
  | 1 => mk3 (popE t (-1))
  | 2 => mk3 (pushL (popE t (-1)).1 (popE t (-1)).2 [(popM t).2.1, (popM t).2.1])
  | 3 => mk3 (pushL (pop2 t).1 (pop2 t).2.1 [(pop2 t).2.2.1 + (pop2 t).2.2.2])
  | 4 => mk3 (pushL (pop2 t).1 (pop2 t).2.1 [(pop2 t).2.2.1 - (pop2 t).2.2.2])
  | 5 => mk3 (pushL t (-1) [f.ls.getD a.toNat 0])
  | 6 => mk3 ({ (popM t).1 with fr := s ++ [⟨f.fn, f.pc, f.ls.set a.toNat (keep (popM t).2.1)⟩] }, underE (-1) (popM t).2.2 1)
  | 7 => mk3 ({ t with fr := s ++ [⟨f.fn, a, f.ls⟩] }, -1)
  | 8 => mk3 (if (popM t).2.1 = 0 then { (popM t).1 with fr := s ++ [⟨f.fn, a, f.ls⟩] } else (popM t).1, underE (-1) (popM t).2.2 1)
  | 9 => mk3 ((enterT t ⟨a, 0, List.replicate ((g.fu[a.toNat]?.map Fu.loc).getD 0).toNat 0⟩).1, if (enterT t ⟨a, 0, List.replicate ((g.fu[a.toNat]?.map Fu.loc).getD 0).toNat 0⟩).2 then -1 else 3)
  | 10 => mk3 ({ t with fr := s }, if s = [] then 0 else -1)
  | 26 => mk3 (t, 0)
  | 12 => (t, -1, ⟨2, a, 0⟩)
  | 11 => (t, -1, ⟨3, a, 0⟩)
  | 15 => (t, -1, ⟨6, a, 0⟩)
  | 16 => (t, -1, ⟨7, a, 0⟩)
  | 17 => (t, -1, ⟨8, a, 0⟩)
  | 18 => (t, -1, ⟨9, a, 0⟩)
  | 19 => (t, -1, ⟨10, a, 0⟩)
  | 20 => (t, -1, ⟨11, a, 0⟩)
  | 21 => (t, -1, ⟨12, a, 0⟩)
  | 23 => (t, -1, ⟨14, a, 0⟩)
  | 24 => (t, -1, ⟨15, a, 0⟩)
  | 13 => ((popE t (-1)).1, (popE t (-1)).2, ⟨4, a, (popM t).2.1⟩)
  | 14 => ((popE t (-1)).1, (popE t (-1)).2, ⟨5, a, (popM t).2.1⟩)
  | 25 => ((popE t (-1)).1, (popE t (-1)).2, ⟨16, a, (popM t).2.1⟩)
  | 22 => ((popE t (-1)).1, (popE t (-1)).2, ⟨13, a, (popM t).2.1⟩)
  | _ => mk3 (t, -1)
@[reducible] def kept2 (v : Int) : Prop := -1073741824 ≤ v ∧ v ≤ 1073741824
theorem popM_v {t : Th} (h : ∀ v ∈ t.sk, kept2 v) : kept2 (popM t).2.1 ∧ ∀ v ∈ (popM t).1.sk, kept2 v := by
  unfold popM
  split
  · exact ⟨⟨by show (-1073741824 : Int) ≤ 0; decide, by show (0 : Int) ≤ 1073741824; decide⟩, h⟩
  · rename_i v hv
    exact ⟨h v (List.mem_of_getLast? hv), fun x hx => h x ((List.dropLast_sublist _).mem hx)⟩
/-- What is asked of a machine's thread. -/
structure XT (g : Pg) (s : List Fm) (f : Fm) (t : Th) (op a : Int) : Prop where
  fr : t.fr = s ++ [f]
  sl : s.length ≤ 100000
  sk : t.sk.length ≤ 16
  kp : ∀ v ∈ t.sk, kept2 v
  ls : f.ls.length ≤ 1000000
  opr : 0 ≤ op ∧ op ≤ 26
  lo : op = 5 ∨ op = 6 → 0 ≤ a ∧ a < f.ls.length
  fu : op = 9 → 0 ≤ a ∧ a < g.fu.length
  gl : ∀ u ∈ g.fu, 0 ≤ u.loc ∧ u.loc ≤ 100
@[reducible] def XP (g : Pg) (a : Int) (r : Th × Int × Rq) : D → Objs → Prop := MP g a (r.1, r.2.1) r.2.2
/-- What is looked up, and does it. -/
theorem exec_fn (g : Pg) (s : List Fm) (f : Fm) (t : Th) (op a : Int) (h : XT g s f t op a) :
    (∃ n, lookM doesM op = some (fnD n) ∧ Spec Try.prog n [.ptr 0 0 17 0 0] [mO g t a (-1) nq] (XP g a (execM g s f t op a))) ∨
    (∃ n d, lookM doesM op = some (fnC n d) ∧ d.pure = true ∧ Spec Try.prog n [.ptr 0 0 17 0 0, .pel d 0] [mO g t a (-1) nq] (XP g a (execM g s f t op a))) := by
  obtain ⟨h1, h2, h3, h4, h5, h6, h7, h8, h9⟩ := h
  have hc : op = 0 ∨ op = 1 ∨ op = 2 ∨ op = 3 ∨ op = 4 ∨ op = 5 ∨ op = 6 ∨ op = 7 ∨ op = 8 ∨ op = 9 ∨ op = 10 ∨ op = 11 ∨ op = 12 ∨ op = 13 ∨ op = 14 ∨ op = 15 ∨ op = 16 ∨ op = 17 ∨ op = 18 ∨ op = 19 ∨ op = 20 ∨ op = 21 ∨ op = 22 ∨ op = 23 ∨ op = 24 ∨ op = 25 ∨ op = 26 := by omega
  have k1 := popM_v h4
  have k2 := popM_v k1.2
  rcases hc with rfl | rfl | rfl | rfl | rfl | rfl | rfl | rfl | rfl | rfl | rfl | rfl | rfl | rfl | rfl | rfl | rfl | rfl | rfl | rfl | rfl | rfl | rfl | rfl | rfl | rfl | rfl
  · exact .inl ⟨_, rfl, c197 g t a (-1) nq h3⟩
  · exact .inl ⟨_, rfl, c198 g t a (-1) nq h3⟩
  · exact .inl ⟨_, rfl, c200 g t a (-1) nq h3⟩
  · exact .inr ⟨_, _, rfl, rfl, c227 202 (· + ·) g t a (-1) nq h3 (c202 _ _ k2.1 k1.1)⟩
  · exact .inr ⟨_, _, rfl, rfl, c227 203 (· - ·) g t a (-1) nq h3 (c203 _ _ k2.1 k1.1)⟩
  · obtain ⟨a0, a1⟩ := h7 (.inl rfl)
    exact .inl ⟨_, rfl, c204 g t a (-1) nq h3 s f h1 (by omega) a.toNat (by omega) _ (by rw [List.getD_eq_getElem?_getD, List.getElem?_eq_getElem (by omega)]; rfl)⟩
  · obtain ⟨a0, a1⟩ := h7 (.inr rfl)
    exact .inl ⟨_, rfl, c205 g t a (-1) nq h3 s f h1 (by omega) h5 a.toNat (by omega) (by omega)⟩
  · exact .inl ⟨_, rfl, c206 g t a (-1) nq s f h1 (by omega)⟩
  · exact .inl ⟨_, rfl, c207 g t a (-1) nq h3 s f h1 (by omega)⟩
  · obtain ⟨a0, a1⟩ := h8 rfl
    obtain ⟨u, hu⟩ : ∃ u, g.fu[a.toNat]? = some u := ⟨_, List.getElem?_eq_getElem (by omega)⟩
    have hfl : t.fr.length ≤ 100000 + 1 := by rw [h1]; simp; omega
    have := c208 g t a (-1) nq a.toNat u (by omega) hu (h9 u (List.mem_of_getElem? hu)) (by omega)
    refine .inl ⟨_, rfl, ?_⟩
    simp only [execM, hu, Option.map_some, Option.getD_some]
    rw [show ((a.toNat : Nat) : Int) = a by omega] at this
    exact this
  · exact .inl ⟨_, rfl, c209 g t a (-1) nq s f h1 (by omega)⟩
  · exact .inr ⟨_, _, rfl, rfl, c228 3 g t a (-1) nq⟩
  · exact .inr ⟨_, _, rfl, rfl, c228 2 g t a (-1) nq⟩
  · exact .inr ⟨_, _, rfl, rfl, c229 4 g t a (-1) nq h3⟩
  · exact .inr ⟨_, _, rfl, rfl, c229 5 g t a (-1) nq h3⟩
  · exact .inr ⟨_, _, rfl, rfl, c228 6 g t a (-1) nq⟩
  · exact .inr ⟨_, _, rfl, rfl, c228 7 g t a (-1) nq⟩
  · exact .inr ⟨_, _, rfl, rfl, c228 8 g t a (-1) nq⟩
  · exact .inr ⟨_, _, rfl, rfl, c228 9 g t a (-1) nq⟩
  · exact .inr ⟨_, _, rfl, rfl, c228 10 g t a (-1) nq⟩
  · exact .inr ⟨_, _, rfl, rfl, c228 11 g t a (-1) nq⟩
  · exact .inr ⟨_, _, rfl, rfl, c228 12 g t a (-1) nq⟩
  · exact .inr ⟨_, _, rfl, rfl, c229 13 g t a (-1) nq h3⟩
  · exact .inr ⟨_, _, rfl, rfl, c228 14 g t a (-1) nq⟩
  · exact .inr ⟨_, _, rfl, rfl, c228 15 g t a (-1) nq⟩
  · exact .inr ⟨_, _, rfl, rfl, c229 16 g t a (-1) nq h3⟩
  · exact .inl ⟨_, rfl, c210 g t a (-1) nq⟩
end Go.Proofs.Ytaplihoeephbeaa.V
