/- C3: a text of a symbolic executor that is proved sound, and contracts that are proved with it. -/
import Derived.Test.YtkceciebmkklpaaGreatVA
import Derived.Test.YtkceciebmkklpaaGreatVB
import Derived.Test.YtkceciebmkklpaaGreatVT
import Derived.Test.YtkceciebmkklpaaGreatVC
import Derived.Test.YtkceciebmkklpaaGreatC0
import Derived.Test.YtkceciebmkklpaaGreatC1
import Derived.Test.YtkceciebmkklpaaGreatC2
import Derived.ChangeArms
import Derived.ChangeSlices
import Derived.ChangeShapes
import Derived.WideShapes
import Derived.SizedLaws
import Derived.Carry
import Derived.OpenShut
import Derived.Test.YtkceciebmkklpaaGreatRows
import Derived.WalkKit
import Derived.ProofKit
import Derived.ShutString
import Derived.ChangeOld
import Derived.Below
set_option linter.unusedVariables false
set_option linter.unusedSimpArgs false
section
namespace Go.Proofs.YtkceciebmkklpaaGreat.V
open Go Go.Proofs
set_option maxRecDepth 100000
set_option maxHeartbeats 40000000
theorem rqPlain (g : Pg) : RqOk g nq := ⟨.inr rfl, ⟨by show (-1073741824 : Int) ≤ 0; decide, by show (0 : Int) ≤ 1073741824; decide⟩, fun h => absurd h (by decide), fun h => absurd h (by decide), fun h => absurd h (by decide), fun h => absurd h (by decide), fun h => absurd h (by decide), fun h => absurd h (by decide)⟩
theorem rqEnd (g : Pg) (c : Int) (hc : 0 ≤ c ∧ c ≤ 6) : RqOk g ⟨1, 0, c⟩ := ⟨.inl ⟨by show (1 : Int) ≤ 1; decide, by show (1 : Int) ≤ 16; decide⟩, ⟨by show -1073741824 ≤ c; omega, by show c ≤ 1073741824; omega⟩, fun h => absurd h (show ¬ (1 : Int) = 3 by decide), fun h => absurd h (show ¬ ((1 : Int) = 6 ∨ (1 : Int) = 7) by decide), fun h => absurd h (show ¬ ((1 : Int) = 8 ∨ (1 : Int) = 9 ∨ (1 : Int) = 10) by decide), fun h => absurd h (show ¬ ((1 : Int) = 11 ∨ (1 : Int) = 12) by decide), fun h => absurd h (show ¬ ((1 : Int) = 13 ∨ (1 : Int) = 14) by decide), fun h => absurd h (show ¬ (1 : Int) = 15 by decide)⟩
theorem rqPush {g : Pg} {t : Th} (ht : GoodT g t) (v : Int) : RqOk g (pushX t v).2 := by
  rcases gPush ht v with ⟨h1, _⟩ | h
  · rw [h1]; exact rqPlain g
  · rw [h]; exact rqEnd g 2 (by omega)
theorem rqAsk {g : Pg} {k a v : Int} (hk : 1 ≤ k ∧ k ≤ 16) (hv : kept2 v) (h3 : k = 3 → 0 ≤ a ∧ a < g.fu.length) (h6 : k = 6 ∨ k = 7 → 0 ≤ a ∧ a < g.mu) (h8 : k = 8 ∨ k = 9 ∨ k = 10 → 0 ≤ a ∧ a < g.co.length) (h11 : k = 11 ∨ k = 12 → 0 ≤ a ∧ a < g.se.length) (h13 : k = 13 ∨ k = 14 → 0 ≤ a ∧ a < g.ch.length) (h15 : k = 15 → 0 ≤ a ∧ a < g.cs.length) : RqOk g ⟨k, a, v⟩ := ⟨.inl hk, hv, h3, h6, h8, h11, h13, h15⟩
theorem rq_ok {g : Pg} (hg : GoodP g) {t : Th} (ht : GoodT g t) : RqOk g (stepT g t).2 := by
  obtain ⟨s, k, pc, ls, u, h⟩ := ST.of ht
  obtain ⟨⟨op, a⟩, b, hx⟩ : ∃ x b, fetchI g ⟨k, pc, ls⟩ = (x, b) := ⟨_, _, rfl⟩
  cases b with
  | false => rw [stepT_off h.fr hx]; exact rqEnd g 6 (by omega)
  | true =>
    rw [stepT_go h.fr hx]
    dsimp only
    have hxt := xt_of hg h hx
    have hpl := (fetch_in h.hu hx).2
    have hgu := hg.fu u (List.mem_of_getElem? h.hu)
    have hin := hgu.2.2 _ (fetch_in h.hu hx).1
    obtain ⟨i1, i2, i3, i4, i5, i6, i7, i8, i9, i10, _⟩ := hin
    have hlsl := h.lsl
    have hloc := hgu.1
    have odd : ∀ (q : Int) (l : List Int), 0 ≤ q → q ≤ u.code.length → l.length = ls.length → kept l = true → oddF g ⟨k, q, l⟩ = false := fun q l h0 h1 h2 h3 => odd_not h.hu ⟨h0, h1⟩ (by omega) hloc.1 h3
    obtain ⟨t1, ht1⟩ : ∃ t1 : Th, t1 = { t with fr := s ++ [⟨k, (pc : Int) + 1, ls⟩] } := ⟨_, rfl⟩
    have hG : GoodT g t1 := by rw [ht1]; exact gTop ht h.fr (odd _ ls (by omega) (by omega) rfl h.kl)
    have hfr1 : t1.fr = s ++ [⟨k, (pc : Int) + 1, ls⟩] := by rw [ht1]
    rw [← ht1] at hxt ⊢
    by_cases hu : (t1.sk.length : Int) < needsI op
    · rw [ex_under g s _ t1 a hu]; exact rqEnd g 1 (by omega)
    have hpG := gPop hG
    have hppG := gPop hpG
    have hpf : (popM t1).1.fr = s ++ [⟨k, (pc : Int) + 1, ls⟩] := by rw [popM_fr]; exact hfr1
    have hc : op = 0 ∨ op = 1 ∨ op = 2 ∨ op = 3 ∨ op = 4 ∨ op = 5 ∨ op = 6 ∨ op = 7 ∨ op = 8 ∨ op = 9 ∨ op = 10 ∨ op = 11 ∨ op = 12 ∨ op = 13 ∨ op = 14 ∨ op = 15 ∨ op = 16 ∨ op = 17 ∨ op = 18 ∨ op = 19 ∨ op = 20 ∨ op = 21 ∨ op = 22 ∨ op = 23 ∨ op = 24 ∨ op = 25 ∨ op = 26 := by have := hxt.opr; omega
    have n1 : needsI op = 1 → 0 < t1.sk.length := fun e => by omega
    have n2 : needsI op = 2 → 1 < t1.sk.length := fun e => by omega
    dsimp only at i3 i4 i5 i6 i7 i8 i9 i10
    have hpv := (popM_v ((kept_iff _).1 hG.kp)).1
    rcases hc with rfl | rfl | rfl | rfl | rfl | rfl | rfl | rfl | rfl | rfl | rfl | rfl | rfl | rfl | rfl | rfl | rfl | rfl | rfl | rfl | rfl | rfl | rfl | rfl | rfl | rfl | rfl
    · rw [ex0]; exact rqPush hG _
    · rw [ex1 g s _ t1 a (n1 rfl)]; exact rqPlain g
    · rw [ex2 g s _ t1 a (n1 rfl) hG.sk]
      rcases gPush hpG (popM t1).2.1 with ⟨_, h2⟩ | h2
      · exact rqPush h2 _
      · exfalso
        have htt := (popM_tt (n1 rfl)).2
        have h16 := hG.sk
        have hne : ¬ (popM t1).1.sk.length = 16 := by omega
        unfold pushX pushT at h2
        simp [hne] at h2
    · rw [ex3 g s _ t1 a (n2 rfl)]; exact rqPush hppG _
    · rw [ex4 g s _ t1 a (n2 rfl)]; exact rqPush hppG _
    · obtain ⟨a0, a1⟩ := hxt.lo (.inl rfl)
      dsimp only at a1
      rw [ex5 g s _ t1 a (List.getElem?_eq_getElem (l := ls) (i := a.toNat) (by omega))]; exact rqPush hG _
    · rw [ex6 g s _ t1 a (n1 rfl)]; exact rqPlain g
    · rw [ex7]; exact rqPlain g
    · rw [ex8 g s _ t1 a (n1 rfl)]
      split
      · exact rqPlain g
      · exact rqPlain g
    · obtain ⟨a0, a1⟩ := hxt.fu rfl
      obtain ⟨v, hv⟩ : ∃ v, g.fu[a.toNat]? = some v := ⟨_, List.getElem?_eq_getElem (by omega)⟩
      rw [ex9 g s _ t1 a hv]
      unfold enterT
      by_cases h8 : t1.fr.length = 8
      · rw [if_pos h8]; exact rqEnd g 3 (by omega)
      · rw [if_neg h8]; exact rqPlain g
    · rw [ex10]
      by_cases hz : s = []
      · rw [if_pos hz, if_pos hz]; exact rqEnd g 0 (by omega)
      · rw [if_neg hz, if_neg hz]; exact rqPlain g
    · rw [exR g s _ t1 a (op := 11) (k := 3) rfl]; exact rqAsk (k := 3) (by decide) ⟨by show (-1073741824 : Int) ≤ 0; decide, by show (0 : Int) ≤ 1073741824; decide⟩ (fun _ => i5 (.inr rfl)) (fun h => absurd h (by decide)) (fun h => absurd h (by decide)) (fun h => absurd h (by decide)) (fun h => absurd h (by decide)) (fun h => absurd h (by decide))
    · rw [exR g s _ t1 a (op := 12) (k := 2) rfl]; exact rqAsk (k := 2) (by decide) ⟨by show (-1073741824 : Int) ≤ 0; decide, by show (0 : Int) ≤ 1073741824; decide⟩ (fun h => absurd h (by decide)) (fun h => absurd h (by decide)) (fun h => absurd h (by decide)) (fun h => absurd h (by decide)) (fun h => absurd h (by decide)) (fun h => absurd h (by decide))
    · rw [exQ g s _ t1 a (op := 13) (k := 4) (n1 rfl) rfl]; exact rqAsk (k := 4) (by decide) hpv (fun h => absurd h (by decide)) (fun h => absurd h (by decide)) (fun h => absurd h (by decide)) (fun h => absurd h (by decide)) (fun h => absurd h (by decide)) (fun h => absurd h (by decide))
    · rw [exQ g s _ t1 a (op := 14) (k := 5) (n1 rfl) rfl]; exact rqAsk (k := 5) (by decide) hpv (fun h => absurd h (by decide)) (fun h => absurd h (by decide)) (fun h => absurd h (by decide)) (fun h => absurd h (by decide)) (fun h => absurd h (by decide)) (fun h => absurd h (by decide))
    · rw [exR g s _ t1 a (op := 15) (k := 6) rfl]; exact rqAsk (k := 6) (by decide) ⟨by show (-1073741824 : Int) ≤ 0; decide, by show (0 : Int) ≤ 1073741824; decide⟩ (fun h => absurd h (by decide)) (fun _ => i6 (.inl rfl)) (fun h => absurd h (by decide)) (fun h => absurd h (by decide)) (fun h => absurd h (by decide)) (fun h => absurd h (by decide))
    · rw [exR g s _ t1 a (op := 16) (k := 7) rfl]; exact rqAsk (k := 7) (by decide) ⟨by show (-1073741824 : Int) ≤ 0; decide, by show (0 : Int) ≤ 1073741824; decide⟩ (fun h => absurd h (by decide)) (fun _ => i6 (.inr rfl)) (fun h => absurd h (by decide)) (fun h => absurd h (by decide)) (fun h => absurd h (by decide)) (fun h => absurd h (by decide))
    · rw [exR g s _ t1 a (op := 17) (k := 8) rfl]; exact rqAsk (k := 8) (by decide) ⟨by show (-1073741824 : Int) ≤ 0; decide, by show (0 : Int) ≤ 1073741824; decide⟩ (fun h => absurd h (by decide)) (fun h => absurd h (by decide)) (fun _ => i7 (.inl rfl)) (fun h => absurd h (by decide)) (fun h => absurd h (by decide)) (fun h => absurd h (by decide))
    · rw [exR g s _ t1 a (op := 18) (k := 9) rfl]; exact rqAsk (k := 9) (by decide) ⟨by show (-1073741824 : Int) ≤ 0; decide, by show (0 : Int) ≤ 1073741824; decide⟩ (fun h => absurd h (by decide)) (fun h => absurd h (by decide)) (fun _ => i7 (.inr (.inl rfl))) (fun h => absurd h (by decide)) (fun h => absurd h (by decide)) (fun h => absurd h (by decide))
    · rw [exR g s _ t1 a (op := 19) (k := 10) rfl]; exact rqAsk (k := 10) (by decide) ⟨by show (-1073741824 : Int) ≤ 0; decide, by show (0 : Int) ≤ 1073741824; decide⟩ (fun h => absurd h (by decide)) (fun h => absurd h (by decide)) (fun _ => i7 (.inr (.inr rfl))) (fun h => absurd h (by decide)) (fun h => absurd h (by decide)) (fun h => absurd h (by decide))
    · rw [exR g s _ t1 a (op := 20) (k := 11) rfl]; exact rqAsk (k := 11) (by decide) ⟨by show (-1073741824 : Int) ≤ 0; decide, by show (0 : Int) ≤ 1073741824; decide⟩ (fun h => absurd h (by decide)) (fun h => absurd h (by decide)) (fun h => absurd h (by decide)) (fun _ => i8 (.inl rfl)) (fun h => absurd h (by decide)) (fun h => absurd h (by decide))
    · rw [exR g s _ t1 a (op := 21) (k := 12) rfl]; exact rqAsk (k := 12) (by decide) ⟨by show (-1073741824 : Int) ≤ 0; decide, by show (0 : Int) ≤ 1073741824; decide⟩ (fun h => absurd h (by decide)) (fun h => absurd h (by decide)) (fun h => absurd h (by decide)) (fun _ => i8 (.inr rfl)) (fun h => absurd h (by decide)) (fun h => absurd h (by decide))
    · rw [exQ g s _ t1 a (op := 22) (k := 13) (n1 rfl) rfl]; exact rqAsk (k := 13) (by decide) hpv (fun h => absurd h (by decide)) (fun h => absurd h (by decide)) (fun h => absurd h (by decide)) (fun h => absurd h (by decide)) (fun _ => i9 (.inl rfl)) (fun h => absurd h (by decide))
    · rw [exR g s _ t1 a (op := 23) (k := 14) rfl]; exact rqAsk (k := 14) (by decide) ⟨by show (-1073741824 : Int) ≤ 0; decide, by show (0 : Int) ≤ 1073741824; decide⟩ (fun h => absurd h (by decide)) (fun h => absurd h (by decide)) (fun h => absurd h (by decide)) (fun h => absurd h (by decide)) (fun _ => i9 (.inr rfl)) (fun h => absurd h (by decide))
    · rw [exR g s _ t1 a (op := 24) (k := 15) rfl]; exact rqAsk (k := 15) (by decide) ⟨by show (-1073741824 : Int) ≤ 0; decide, by show (0 : Int) ≤ 1073741824; decide⟩ (fun h => absurd h (by decide)) (fun h => absurd h (by decide)) (fun h => absurd h (by decide)) (fun h => absurd h (by decide)) (fun h => absurd h (by decide)) (fun _ => i10 rfl)
    · rw [exQ g s _ t1 a (op := 25) (k := 16) (n1 rfl) rfl]; exact rqAsk (k := 16) (by decide) hpv (fun h => absurd h (by decide)) (fun h => absurd h (by decide)) (fun h => absurd h (by decide)) (fun h => absurd h (by decide)) (fun h => absurd h (by decide)) (fun h => absurd h (by decide))
    · rw [ex26]; exact rqEnd g 0 (by omega)
end Go.Proofs.YtkceciebmkklpaaGreat.V
end
section
namespace Go.Proofs.YtkceciebmkklpaaGreat.V
open Go Go.Proofs
set_option maxRecDepth 100000
set_option maxHeartbeats 4000000
/-! A step keeps what is kept. -/
theorem CI.ki {g : Pg} (hg : GoodP g) {C : Cr} (h : CI g C) : KI g 8 8 ⟨C, [], [], []⟩ := by
  have h8 := g_th8 hg h.z
  have hn : nj C ≤ C.th.length := List.countP_le_length
  refine ⟨h.z, h.rk, ⟨h.th, fun k hk => ?_⟩, ⟨by show nj C ≤ 100; omega, by show C.th.length ≤ 100; omega, fun f hf => thI_ok hg (h.th f hf), by show 0 + nj C ≤ 8; omega, by show 0 + nj C ≤ 8; omega, by show 0 + nj C ≤ 8; omega⟩⟩
  obtain ⟨u, h1, h2, h3, h4⟩ := h.jn k hk
  exact ⟨u, h1, h2, h3, .inl h4⟩
theorem CI.at {g : Pg} {C : Cr} (h : CI g C) (k : Nat) : ThI g (thAt C k) := by
  rcases Nat.lt_or_ge k C.th.length with h1 | h1
  · rw [thAt_lt h1]; exact h.th _ (List.getElem_mem h1)
  · rw [thAt_ge h1]; exact thI_end ⟨by omega, by omega⟩
theorem KI.put {g : Pg} (hg : GoodP g) {b w : Nat} {x : Xs} (h : KI g b w x) {t : Nat} (ht : t < x.C.th.length) (h0 : need g (thAt x.C t) = 0) {f : Th} (hf : GoodT g f) : KI g b w ⟨putT x.C t f, x.ev, x.wk, x.wp⟩ := by
  have hs := hf.st
  refine ⟨h.z.th rfl (putT_len _ _ _), rk_put h.rk h0 (need0 (.inl hs)), h.ei.put ht (thI_good hf) (by omega) (fun _ h => h) (fun h => by omega) _ _ _, ?_⟩
  have hok : okT f := thI_ok hg (thI_good hf)
  have := (put_xb h.xb ht hok (by omega) x.ev x.wk x.wp).1
  exact this.le (by omega) (by omega)
theorem newT_good {g : Pg} (hg : GoodP g) {a : Int} (ha : 0 ≤ a ∧ a < g.fu.length) : GoodT g (newT g a) := by
  obtain ⟨u, hu⟩ : ∃ u, g.fu[a.toNat]? = some u := ⟨_, List.getElem?_eq_getElem (by omega)⟩
  have hgu := hg.fu u (List.mem_of_getElem? hu)
  have e := (newT_okT g a.toNat u hu hgu.1).1
  rw [show ((a.toNat : Nat) : Int) = a from by omega] at e
  rw [e]
  refine ⟨rfl, rfl, rfl, by show (0 : Nat) ≤ 16; omega, rfl, ⟨by show (1 : Nat) ≤ 1; omega, by show (1 : Nat) ≤ 8; omega⟩, fun f hf => ?_⟩
  simp only [List.mem_singleton] at hf
  subst hf
  have := odd_not (g := g) (k := a.toNat) (u := u) (pc := 0) (l := List.replicate u.loc.toNat 0) hu ⟨by omega, by omega⟩ (by simp) hgu.1.1 (kept_of (fun y hy => by rw [List.eq_of_mem_replicate hy]; exact ⟨by decide, by decide⟩))
  rwa [show ((a.toNat : Nat) : Int) = a by omega] at this
theorem thAt_app {C : Cr} {f : Th} (k : Nat) : thAt { C with th := C.th ++ [f] } k = if k = C.th.length then f else thAt C k := by
  unfold thAt
  dsimp only
  rw [List.getD_eq_getElem?_getD, List.getD_eq_getElem?_getD]
  by_cases h : k = C.th.length
  · subst h; simp
  · rw [if_neg h]
    rcases Nat.lt_or_ge k C.th.length with h1 | h1
    · rw [List.getElem?_append_left h1]
    · rw [List.getElem?_eq_none (by rw [List.length_append, List.length_singleton]; omega), List.getElem?_eq_none h1]
theorem spawn_ki {g : Pg} (hg : GoodP g) {b w : Nat} {x : Xs} (h : KI g b w x) {t : Nat} (ht : t < x.C.th.length) (h0 : (thAt x.C t).st = 0) {a : Int} (ha : 0 ≤ a ∧ a < g.fu.length) : KI g (b + 2) (w + 1) (spawnX g x t a) := by
  have hgt := newT_good hg ha
  unfold spawnX
  split
  · exact ((h.ev (1, (t : Int), -1)).tell (x := seeX x 1 t (-1)) ht h0 [-1]).le (by omega) (by omega)
  · rename_i hl
    have htt : thAt { x.C with th := x.C.th ++ [newT g a] } t = thAt x.C t := by rw [thAt_app, if_neg (by omega)]
    have hnj : nj { x.C with th := x.C.th ++ [newT g a] } = nj x.C := by
      unfold nj
      dsimp only
      rw [List.countP_append]
      have : List.countP (fun f => decide (f.st = 2)) [newT g a] = 0 := by
        have hs : (newT g a).st = 0 := rfl
        simp [hs]
      omega
    have hk : KI g (b + 1) (w + 1) { seeX { x with C := { x.C with th := x.C.th ++ [newT g a] } } 1 t x.C.th.length with wk := x.wk ++ [(x.C.th.length : Int)], wp := x.wp ++ [(x.C.th.length : Int)] } := by
      refine ⟨?_, ?_, ⟨fun f hf => ?_, fun k hk => ?_⟩, ?_⟩
      · exact ⟨by show 1 ≤ (x.C.th ++ [newT g a]).length; rw [List.length_append]; show 1 ≤ _ + 1; omega, by show ((x.C.th ++ [newT g a]).length : Int) ≤ g.th; rw [List.length_append, List.length_singleton]; omega, h.z.now, h.z.L, h.z.ow, h.z.co, h.z.bu, h.z.sq, h.z.rq, h.z.ev, h.z.bc⟩
      · refine h.rk.same (by show _ ≤ (x.C.th ++ [newT g a]).length; rw [List.length_append]; omega) (fun r hr => ?_) (fun k hk => ?_) (fun k h1 h2 => ?_) (fun s hs => by cases hs)
        · have hc : r = 0 ∨ r = 1 ∨ r = 2 ∨ r = 3 ∨ r = 4 := by omega
          rcases hc with rfl | rfl | rfl | rfl | rfl <;> rfl
        · left
          show thAt { x.C with th := x.C.th ++ [newT g a] } k = _
          rw [thAt_app, if_neg (by omega)]
        · have h2' : k < (x.C.th ++ [newT g a]).length := h2
          rw [List.length_append, List.length_singleton] at h2'
          show need g (thAt { x.C with th := x.C.th ++ [newT g a] } k) = 0
          rw [thAt_app, if_pos (by omega)]
          exact need0 (.inl rfl)
      · have hf' : f ∈ x.C.th ++ [newT g a] := hf
        rcases List.mem_append.1 hf' with hf' | hf'
        · exact h.ei.th _ hf'
        · rw [List.mem_singleton] at hf'; subst hf'; exact thI_good hgt
      · have hk2 : (thAt { x.C with th := x.C.th ++ [newT g a] } k).st = 2 := hk
        show ∃ u : Nat, (thAt { x.C with th := x.C.th ++ [newT g a] } k).on = _ ∧ u < (x.C.th ++ [newT g a]).length ∧ u ≠ k ∧ ((thAt { x.C with th := x.C.th ++ [newT g a] } u).st ≠ 9 ∨ _)
        rw [thAt_app] at hk2 ⊢
        by_cases e : k = x.C.th.length
        · rw [if_pos e] at hk2
          have hs : (0 : Int) = 2 := hk2
          omega
        · rw [if_neg e] at hk2 ⊢
          obtain ⟨u, e1, e2, e3, e4⟩ := h.ei.jn k hk2
          refine ⟨u, e1, by rw [List.length_append]; omega, e3, ?_⟩
          rw [thAt_app, if_neg (by omega)]
          exact e4
      · have x1 := h.xb.ev
        have x2 := h.xb.wp
        have x3 := h.xb.wk
        have x4 := h.xb.jn
        have x5 := h.z.tl
        have x6 := hg.th
        refine ⟨?_, ?_, fun f hf => ?_, ?_, ?_, ?_⟩
        · show nj { x.C with th := x.C.th ++ [newT g a] } ≤ 100; omega
        · show (x.C.th ++ [newT g a]).length ≤ 100
          rw [List.length_append, List.length_singleton]
          omega
        · have hf' : f ∈ x.C.th ++ [newT g a] := hf
          rcases List.mem_append.1 hf' with hf' | hf'
          · exact h.xb.th _ hf'
          · rw [List.mem_singleton] at hf'; subst hf'; exact thI_ok hg (thI_good hgt)
        · show (x.ev ++ [_]).length + nj { x.C with th := x.C.th ++ [newT g a] } ≤ _
          rw [hnj, List.length_append, List.length_singleton]; omega
        · show (x.wp ++ [_]).length + nj { x.C with th := x.C.th ++ [newT g a] } ≤ _
          rw [hnj, List.length_append, List.length_singleton]; omega
        · show (x.wk ++ [_]).length + nj { x.C with th := x.C.th ++ [newT g a] } ≤ _
          rw [hnj, List.length_append, List.length_singleton]; omega
    exact (hk.tell (by show t < (x.C.th ++ [newT g a]).length; rw [List.length_append]; omega) (by show (thAt { x.C with th := x.C.th ++ [newT g a] } t).st = 0; rw [htt]; exact h0) _).le (by omega) (by omega)
theorem meet_ki {g : Pg} (hg : GoodP g) {b w : Nat} {t : Nat} {x : Xs} (h : KI g b w x) (hm : MI g t x) {q : Rq} (hq : RqOk g q) (h1 : q.kd ≠ 1) (h0 : (thAt x.C t).st = 0) : KI g (b + 100) (w + 100) (meetX g x t q) := by
  have ht := hm.tl
  obtain ⟨kd, a, v⟩ := q
  obtain ⟨q1, q2, q3, q4, q5, q6, q7, q8⟩ := hq
  dsimp only at q1 q2 q3 q4 q5 q6 q7 q8 h1
  have hc : kd = 0 ∨ kd = 2 ∨ kd = 3 ∨ kd = 4 ∨ kd = 5 ∨ kd = 6 ∨ kd = 7 ∨ kd = 8 ∨ kd = 9 ∨ kd = 10 ∨ kd = 11 ∨ kd = 12 ∨ kd = 13 ∨ kd = 14 ∨ kd = 15 ∨ kd = 16 := by omega
  rcases hc with rfl | rfl | rfl | rfl | rfl | rfl | rfl | rfl | rfl | rfl | rfl | rfl | rfl | rfl | rfl | rfl
  · exact KI.le (x := x) h (by omega) (by omega)
  · exact KI.le (x := x) h (by omega) (by omega)
  · exact (spawn_ki hg h ht h0 (q3 rfl)).le (by omega) (by omega)
  · exact (sleep_ki h ht h0 v).le (by omega) (by omega)
  · exact (join_ki hg h ht h0 v).le (by omega) (by omega)
  · exact (lock_ki hg h ht h0 (q4 (.inl rfl))).le (by omega) (by omega)
  · exact (unlock_ki h ht h0 a).le (by omega) (by omega)
  · exact (wait_ki hg h ht h0 (q5 (.inl rfl))).le (by omega) (by omega)
  · exact (signal_ki hg h (q5 (.inr (.inl rfl)))).le (by omega) (by omega)
  · have ha := q5 (.inr (.inr rfl))
    have he := hm.eo hg
    have htot := hm.tot hg
    show KI g _ _ (broadX g x a)
    rw [broad_eq hg h.z he.L he.N (nodup_wq hm) ha (fun v hv => (hm.std (r := 1) (by omega) (k := a.toNat) hv).1)]
    obtain ⟨b', w', e1, e2, hk⟩ := broadI_ki hg ha (qAt x.C.L.wq a.toNat).length h
    have hl : (qAt x.C.L.wq a.toNat).length ≤ 32 := by
      have := sumL_mem (qAt_mem (l := x.C.L.wq) (m := a.toNat) (by have := h.z.L.wq; omega))
      omega
    exact hk.le (by omega) (by omega)
  · exact (down_ki hg h ht h0 (q6 (.inl rfl))).le (by omega) (by omega)
  · exact (up_ki h a).le (by omega) (by omega)
  · exact (send_ki hg h ht h0 (q7 (.inl rfl)) v).le (by omega) (by omega)
  · exact (recv_ki hg h ht h0 (q7 (.inr rfl))).le (by omega) (by omega)
  · exact (choose_ki hg h ht h0 (q8 rfl)).le (by omega) (by omega)
  · exact KI.le (x := seeX x 0 t v) (h.ev (0, (t : Int), v)) (by omega) (by omega)
/-- What a step begins with. -/
theorem beg_all {g : Pg} (hg : GoodP g) {C : Cr} (h : CI g C) {t : Nat} (ht : t < C.th.length) (h0 : (thAt C t).st = 0) :
    MI g t (begX g C t) ∧ ((stepT g (thAt C t)).2.kd ≠ 1 → (thAt (begX g C t).C t).st = 0) ∧ ((thAt (begX g C t).C t).st = 0 ∨ (thAt (begX g C t).C t).st = 9) ∧ KI g 108 108 (meetX g (begX g C t) t (stepT g (thAt C t)).2) := by
  have hgt := thI_ready (h.at t) h0
  have hq := rq_ok hg hgt
  have hki := h.ki hg
  unfold begX
  rcases step_ok hg hgt with ⟨h1, h2, _⟩ | ⟨c, hc, hr⟩
  · obtain ⟨f, hf⟩ : ∃ f, (stepT g (thAt C t)).1 = f := ⟨_, rfl⟩
    rw [hf] at h2 ⊢
    have hk := hki.put hg ht (need0 (.inl h0)) h2
    have hst : (thAt (putT C t f) t).st = 0 := by rw [thAt_eq ht]; exact h2.st
    have hm : MI g t ⟨putT C t f, [], [], []⟩ := ⟨hk.z, hk.rk, hk.ei.th, by show t < (putT C t f).th.length; rw [putT_len]; exact ht, rfl, rfl, rfl⟩
    exact ⟨hm, fun _ => hst, .inl hst, meet_ki hg hk hm hq h1 hst⟩
  · rw [hr]
    have hst : (thAt (putT C t (endT c)) t).st = 9 := by rw [thAt_eq ht]
    have hth : ∀ f ∈ (putT C t (endT c)).th, ThI g f := fun f hf => by
      rcases mem_put hf with hf | rfl
      · exact h.th _ hf
      · exact thI_end (by omega)
    refine ⟨⟨h.z.th rfl (putT_len _ _ _), rk_put h.rk (need0 (.inl h0)) (need0 (.inr (.inr (.inr rfl)))), hth, by show t < (putT C t (endT c)).th.length; rw [putT_len]; exact ht, rfl, rfl, rfl⟩, fun hne => absurd rfl hne, .inr hst, ?_⟩
    have e : meetX g ⟨putT C t (endT c), [], [], []⟩ t ⟨1, 0, c⟩ = endF ⟨C, [], [], []⟩ t c := by
      show endX 100 ⟨putT C t (endT c), [], [], []⟩ t c = endX 100 ⟨C, [], [], []⟩ t c
      have ed : deadX ⟨putT C t (endT c), [], [], []⟩ t c = deadX ⟨C, [], [], []⟩ t c := by
        unfold deadX
        dsimp only
        rw [putT_put]
      rw [endX, endX, ed]
      show (List.range (putT C t (endT c)).th.length).foldl _ _ = _
      rw [putT_len]
    rw [e]
    exact (hki.end ht (need0 (.inl h0)) (by omega)).le (by omega) (by omega)
theorem stepC_ci {g : Pg} (hg : GoodP g) {C : Cr} (h : CI g C) (t : Int) : CI g (stepC g C t).1 := by
  unfold stepC
  split
  · exact h
  · rename_i ht
    split
    · exact h
    · rename_i h0
      exact (beg_all hg h (by omega) (by omega)).2.2.2.ci
end Go.Proofs.YtkceciebmkklpaaGreat.V
end
section
namespace Go.Proofs.YtkceciebmkklpaaGreat.V
open Go Go.Proofs
set_option maxRecDepth 100000
set_option maxHeartbeats 4000000
/-! Ticks. -/
def stepF (C : Cr) (b : Int) (t : Nat) : Int := if (thAt C t).st = 1 ∧ (thAt C t).on ≤ C.now ∧ (b < 0 ∨ (thAt C t).on < (thAt C b.toNat).on) then (t : Int) else b
def firstK (C : Cr) (k : Nat) : Int := (List.range k).foldl (stepF C) (-1)
theorem firstK_succ (C : Cr) (k : Nat) : firstK C (k + 1) = stepF C (firstK C k) k := by
  unfold firstK
  rw [List.range_succ, List.foldl_append]
  rfl
theorem firstK_at (C : Cr) : ∀ k, firstK C k = -1 ∨ ∃ u : Nat, firstK C k = (u : Int) ∧ u < k ∧ (thAt C u).st = 1 ∧ (thAt C u).on ≤ C.now
  | 0 => .inl rfl
  | k + 1 => by
    rw [firstK_succ]
    unfold stepF
    split
    · rename_i h
      exact .inr ⟨k, rfl, by omega, h.1, h.2.1⟩
    · rcases firstK_at C k with h | ⟨u, h1, h2, h3⟩
      · exact .inl h
      · exact .inr ⟨u, h1, by omega, h3⟩
def upTh (C : Cr) (u : Nat) : Cr := putT C u { thAt C u with st := 0, on := 0 }
def tickW : Nat → Cr → List Int → Cr × List Int
  | 0, C, l => (C, l)
  | n + 1, C, l => if firstK C C.th.length < 0 then (C, l) else tickW n (upTh C (firstK C C.th.length).toNat) (l ++ [firstK C C.th.length])
def ns (C : Cr) : Nat := C.th.countP (fun f => decide (f.st = 1))
def mn (n : Int) : Int := if 1073741824 < n then 1073741824 else n
def tick0 (C : Cr) (n : Int) : Cr := if 0 < mn n then { C with now := keep (C.now + mn n) } else C
def tickC (C : Cr) (n : Int) : Cr × List Int := tickW C.th.length (tick0 C n) []
theorem ns_put (C : Cr) (t : Nat) (f : Th) (ht : t < C.th.length) : ns (putT C t f) + (if (thAt C t).st = 1 then 1 else 0) = ns C + (if f.st = 1 then 1 else 0) := by
  have e : thAt C t = C.th[t] := thAt_lt ht
  unfold ns putT
  dsimp only
  rw [List.countP_set ht, e]
  have hp : (if (decide (C.th[t].st = 1)) = true then 1 else 0) ≤ C.th.countP (fun f => decide (f.st = 1)) := by
    split
    · rename_i h; exact List.countP_pos_iff.2 ⟨_, List.getElem_mem ht, h⟩
    · omega
  simp only [decide_eq_true_eq] at hp ⊢
  omega
theorem ns_up {C : Cr} {u : Nat} (hu : u < C.th.length) (h1 : (thAt C u).st = 1) : ns (upTh C u) + 1 = ns C := by
  have := ns_put C u { thAt C u with st := 0, on := 0 } hu
  rw [if_pos h1, if_neg (show ¬ (0 : Int) = 1 by decide)] at this
  exact this
theorem tickW_end {C : Cr} (h : firstK C C.th.length < 0) (n : Nat) (l : List Int) : tickW n C l = (C, l) := by
  cases n with
  | zero => rfl
  | succ n => rw [tickW, if_pos h]
theorem up_ci {g : Pg} {C : Cr} (h : CI g C) {u : Nat} (hu : u < C.th.length) (h1 : (thAt C u).st = 1) : CI g (upTh C u) := by
  refine ⟨h.z.th rfl (putT_len _ _ _), rk_put h.rk (need0 (.inr (.inl h1))) (need0 (.inl rfl)), fun f hf => ?_, fun k hk => ?_⟩
  · rcases mem_put hf with hf | rfl
    · exact h.th _ hf
    · exact thI_rest0 (h.at u) (by omega)
  · have hk2 : (thAt (putT C u { thAt C u with st := 0, on := 0 }) k).st = 2 := hk
    have hku : k ≠ u := by
      rintro rfl
      rw [thAt_eq hu] at hk2
      have : (0 : Int) = 2 := hk2
      omega
    rw [thAt_ne hku] at hk2
    obtain ⟨v, e1, e2, e3, e4⟩ := h.jn k hk2
    refine ⟨v, by show (thAt (putT C u _) k).on = _; rw [thAt_ne hku]; exact e1, by show v < (putT C u _).th.length; rw [putT_len]; exact e2, e3, ?_⟩
    show (thAt (putT C u _) v).st ≠ 9
    rw [thAt_put]
    split
    · show (0 : Int) ≠ 9; decide
    · exact e4
theorem tickW_ci {g : Pg} : ∀ (n : Nat) (C : Cr) (l : List Int), CI g C → CI g (tickW n C l).1
  | 0, C, l, h => h
  | n + 1, C, l, h => by
    rw [tickW]
    split
    · exact h
    · rename_i h0
      rcases firstK_at C C.th.length with e | ⟨u, e, hu, h1, _⟩
      · rw [e] at h0; exact absurd (by decide) h0
      · rw [e, Int.toNat_natCast]
        exact tickW_ci n _ _ (up_ci h hu h1)
theorem tick0_ci {g : Pg} {C : Cr} (h : CI g C) (n : Int) : CI g (tick0 C n) := by
  unfold tick0
  split
  · rename_i hp
    have := keep_range (C.now + mn n)
    have hn := h.z.now
    have h0 : 0 ≤ keep (C.now + mn n) := by
      unfold keep
      rw [if_neg (by omega)]
      split <;> omega
    exact ⟨⟨h.z.t1, h.z.tl, ⟨h0, this.2⟩, h.z.L, h.z.ow, h.z.co, h.z.bu, h.z.sq, h.z.rq, h.z.ev, h.z.bc⟩, rk_same h.rk rfl (fun r hr => by
      have hc : r = 0 ∨ r = 1 ∨ r = 2 ∨ r = 3 ∨ r = 4 := by omega
      rcases hc with rfl | rfl | rfl | rfl | rfl <;> rfl), h.th, h.jn⟩
  · exact h
theorem tickC_ci {g : Pg} {C : Cr} (h : CI g C) (n : Int) : CI g (tickC C n).1 := tickW_ci _ _ _ (tick0_ci h n)
end Go.Proofs.YtkceciebmkklpaaGreat.V
end
section
namespace Go.Proofs.YtkceciebmkklpaaGreat.V
open Go Go.Proofs
set_option maxRecDepth 100000
set_option maxHeartbeats 40000000
theorem tick63 {C : Cr} (hl : C.th.length ≤ 100) (hn : -1073741824 ≤ C.now ∧ C.now ≤ 1073741824) (n : Int) (hN : -9223372036854775808 ≤ n ∧ n ≤ 9223372036854775807) : Spec Tryz.prog 63 [coreV C, .int .i64 n] [] (fun d os' => d = .tup [coreV (tickC C n).1, ints (tickC C n).2] ∧ os' = []) := by
  refine Spec.frz (post' := fun d => d = .tup [coreV (tickC C n).1, ints (tickC C n).2]) ?_
  obtain ⟨R, hR⟩ : ∃ R, tickC C n = R := ⟨_, rfl⟩
  have hR' := hR
  unfold tickC at hR'
  have htl : (tick0 C n).th.length = C.th.length := by unfold tick0; split <;> rfl
  rw [hR]
  refine Spec.by Tryz.func63 rfl (by decide) (by decide +kernel) rfl ?_
  (refine goA ?_)
  apply cutG (A := Unit) (n0 := 0) (fun _ => [(2, .ptr 0 0 10 0 0), (4, .ptr 1 0 10 0 0)]) (fun _ => [one (.row 30 10 false [coreV (tick0 C n)]), one (.row 30 10 false [z30])]) (fun _ => True)
  · intro key
    refine Br.dec (fun h0 => ?_) (fun h0 => ?_)
    · have e : tick0 C n = { C with now := keep (C.now + 1073741824) } := by
        unfold tick0 mn
        rw [if_pos h0, if_pos (by decide)]
      rw [e] at key
      (refine goA ?_)
      refine Call.mk (keep36 _ _) ?_
      rintro d os' ⟨rfl, rfl⟩
      (refine goR ?_)
      refine Pt.weak (Weak.on [(2, .ptr 0 0 10 0 0), (4, .ptr 1 0 10 0 0)] [one (.row 30 10 false [coreV { C with now := keep (C.now + 1073741824) }]), one (.row 30 10 false [z30])]) ?_
      exact key () trivial
    · (refine goA ?_)
      refine Br.dec (fun h1 => ?_) (fun h1 => ?_)
      · have e : tick0 C n = { C with now := keep (C.now + n) } := by
          unfold tick0 mn
          rw [if_neg h0, if_pos h1]
        rw [e] at key
        (refine goA ?_)
        refine Call.mk (keep36 _ _) ?_
        rintro d os' ⟨rfl, rfl⟩
        (refine goR ?_)
        refine Pt.weak (Weak.on [(2, .ptr 0 0 10 0 0), (4, .ptr 1 0 10 0 0)] [one (.row 30 10 false [coreV { C with now := keep (C.now + n) }]), one (.row 30 10 false [z30])]) ?_
        exact key () trivial
      · have e : tick0 C n = C := by
          unfold tick0 mn
          rw [if_neg h0, if_neg h1]
        rw [e] at key
        (refine goR ?_)
        refine Pt.weak (Weak.on [(2, .ptr 0 0 10 0 0), (4, .ptr 1 0 10 0 0)] [one (.row 30 10 false [coreV C]), one (.row 30 10 false [z30])]) ?_
        exact key () trivial
  · intro _ _
    generalize tick0 C n = C0 at hR' htl ⊢
    have hns : ns C0 ≤ C.th.length := by have : ns C0 ≤ C0.th.length := List.countP_le_length; omega
    (refine goA ?_)
    refine Loop.inv (A := Cr × List Int × Nat) (List.range 78) (fun a => [(2, .ptr 0 0 10 0 0), (4, .ptr 1 0 10 0 0), (6, .sl 2 0 1 0 a.2.1.length none)]) (fun a => [one (.row 30 10 false [coreV a.1]), one (.row 30 10 false [z30]), rowI a.2.1]) (fun a => tickW a.2.2 a.1 a.2.1 = R ∧ ns a.1 ≤ a.2.2 ∧ a.1.th.length = C.th.length ∧ a.2.1.length + ns a.1 ≤ 1000) (fun a => ns a.1) (C0, [], C.th.length) ⟨hR', hns, htl, by show 0 + ns C0 ≤ 1000; omega⟩ ?_ ?_
    · refine Weak.trans (Weak.nilrow 6 rfl 3 1 true) ?_
      exact Weak.start' rfl rfl tld
    rintro ⟨D0, l, k⟩ ⟨hk, hnk, hDl, hll⟩
    dsimp only at hk hnk hDl hll ⊢
    have hlm : (l.map (D.int .i64)).length = l.length := List.length_map ..
    have htm : (D0.th.map thD).length = D0.th.length := List.length_map ..
    (refine goA ?_)
    refine Loop.inv (A := Nat × Int) (List.range 78) (fun a => [(2, .ptr 0 0 10 0 0), (4, .ptr 1 0 10 0 0), (6, .sl 2 0 1 0 l.length none), (7, .int .i64 a.2), (8, .int .i64 (a.1 : Int))]) (fun a => [one (.row 30 10 false [coreV D0]), one (.row 30 10 false [z30]), rowI l]) (fun a => a.1 ≤ D0.th.length ∧ a.2 = firstK D0 a.1) (fun a => D0.th.length - a.1) (0, -1) ⟨Nat.zero_le _, rfl⟩ ?_ ?_
    · exact Weak.start' rfl rfl tld
    rintro ⟨i, b⟩ ⟨hi, hb⟩
    dsimp only at hi hb ⊢
    (refine goA ?_)
    refine Br.dec (fun h0 => ?_) (fun h0 => ?_)
    · have hlt : i < D0.th.length := by omega
      have hget : (D0.th.map thD)[i]? = some (thD (thAt D0 i)) := by rw [thAt_lt hlt]; exact get_map (List.getElem?_eq_getElem hlt)
      have hs := firstK_succ D0 i
      rw [← hb] at hs
      unfold stepF at hs
      have hba := firstK_at D0 i
      rw [← hb] at hba
      (refine goA ?_)
      refine Opt.of hget ?_
      (refine goA ?_)
      refine Br.dec (fun h1 => ?_) (fun h1 => ?_)
      · (refine goA ?_)
        refine Br.dec (fun h2 => ?_) (fun h2 => ?_)
        · (refine goA ?_)
          refine Br.dec (fun h3 => ?_) (fun h3 => ?_)
          · rw [if_pos ⟨h1, h2, .inl h3⟩] at hs
            (refine goA ?_)
            refine ⟨_, _, _, ?_, ⟨(i + 1, (i : Int)), ?_, rfl, rfl, rfl⟩, ?_⟩
            · show D0.th.length - (i + 1) < D0.th.length - i; omega
            · exact ⟨hlt, hs.symm⟩
            · refine Weak.backT 3 (by simp) (by first | rfl | kernel_rfl) (by kernel_rfl) (Nat.le_of_ble_eq_true rfl) tld (by kernel_rfl) (by kernel_rfl)
          · obtain ⟨u, hu, hui, _, _⟩ := hba.resolve_left (by omega)
            have hgu : (D0.th.map thD)[u]? = some (thD (thAt D0 u)) := by rw [thAt_lt (by omega)]; exact get_map (List.getElem?_eq_getElem (by omega))
            rw [hu] at hs h3 ⊢
            rw [Int.toNat_natCast] at hs
            (refine goA ?_)
            refine Opt.of hgu ?_
            (refine goA ?_)
            refine Br.dec (fun h4 => ?_) (fun h4 => ?_)
            · rw [if_pos ⟨h1, h2, .inr h4⟩] at hs
              (refine goA ?_)
              refine ⟨_, _, _, ?_, ⟨(i + 1, (i : Int)), ?_, rfl, rfl, rfl⟩, ?_⟩
              · show D0.th.length - (i + 1) < D0.th.length - i; omega
              · exact ⟨hlt, hs.symm⟩
              · refine Weak.backT 3 (by simp) (by first | rfl | kernel_rfl) (by kernel_rfl) (Nat.le_of_ble_eq_true rfl) tld (by kernel_rfl) (by kernel_rfl)
            · rw [if_neg (fun h => by rcases h.2.2 with h | h; exact h3 h; exact h4 h)] at hs
              (refine goA ?_)
              refine ⟨_, _, _, ?_, ⟨(i + 1, (u : Int)), ?_, rfl, rfl, rfl⟩, ?_⟩
              · show D0.th.length - (i + 1) < D0.th.length - i; omega
              · exact ⟨hlt, hs.symm⟩
              · refine Weak.backT 3 (by simp) (by first | rfl | kernel_rfl) (by kernel_rfl) (Nat.le_of_ble_eq_true rfl) tld (by kernel_rfl) (by kernel_rfl)
        · rw [if_neg (fun h => h2 h.2.1)] at hs
          (refine goA ?_)
          refine ⟨_, _, _, ?_, ⟨(i + 1, b), ?_, rfl, rfl, rfl⟩, ?_⟩
          · show D0.th.length - (i + 1) < D0.th.length - i; omega
          · exact ⟨hlt, hs.symm⟩
          · refine Weak.backT 3 (by simp) (by first | rfl | kernel_rfl) (by kernel_rfl) (Nat.le_of_ble_eq_true rfl) tld (by kernel_rfl) (by kernel_rfl)
      · rw [if_neg (fun h => h1 h.1)] at hs
        (refine goA ?_)
        refine ⟨_, _, _, ?_, ⟨(i + 1, b), ?_, rfl, rfl, rfl⟩, ?_⟩
        · show D0.th.length - (i + 1) < D0.th.length - i; omega
        · exact ⟨hlt, hs.symm⟩
        · refine Weak.backT 3 (by simp) (by first | rfl | kernel_rfl) (by kernel_rfl) (Nat.le_of_ble_eq_true rfl) tld (by kernel_rfl) (by kernel_rfl)
    · have hie : i = D0.th.length := by omega
      rw [hie] at hb
      (refine goA ?_)
      refine Br.dec (fun h1 => ?_) (fun h1 => ?_)
      · rw [tickW_end (by omega)] at hk
        subst hk
        (refine goA ?_)
        refine Ret.mk [.cell 4 30, .tmp 5] rfl ?_; (refine goA ?_)
        exact ⟨_, View.tup (.cons (.same _) (.cons (View.slAll (f := false) rfl rfl hlm (by simp) (ViewL.same _) (pureL_map (fun _ => rfl) _)) .nil)), rfl, rfl⟩
      · obtain ⟨u, hu, hul, hu1, _⟩ := (firstK_at D0 D0.th.length).resolve_left (by omega)
        have hnu := ns_up hul hu1
        have hgu : (D0.th.map thD)[u]? = some (thD (thAt D0 u)) := by rw [thAt_lt hul]; exact get_map (List.getElem?_eq_getElem hul)
        obtain ⟨k', rfl⟩ : ∃ k', k = k' + 1 := ⟨k - 1, by omega⟩
        rw [tickW, if_neg (by omega), hu, Int.toNat_natCast] at hk
        rw [hb, hu]
        have hw := with95 D0 u hul { thAt D0 u with st := 0, on := 0 } (by omega)
        (refine goA ?_)
        refine Opt.of hgu ?_
        (refine goA ?_)
        refine Call.mk (hw.only _ rfl (by rintro d rfl; rfl)) ?_
        rintro d os' ⟨rfl, rfl⟩
        have hdl : (upTh D0 u).th.length = C.th.length := (putT_len _ _ _).trans hDl
        (refine goA ?_)
        refine App.only false rfl rfl ?_
        (refine goA ?_)
        refine ⟨_, _, _, ?_, ⟨(upTh D0 u, l ++ [(u : Int)], k'), ?_, rfl, rfl, rfl⟩, ?_⟩
        · show ns (upTh D0 u) < ns D0; omega
        · exact ⟨hk, by show ns (upTh D0 u) ≤ k'; omega, hdl, by show (l ++ [(u : Int)]).length + ns (upTh D0 u) ≤ 1000; rw [List.length_append, List.length_singleton]; omega⟩
        · refine Weak.trans (Weak.shift 4 2 (by decide) (by simp) (Nat.le_of_ble_eq_true rfl) (Nat.le_of_ble_eq_true rfl) (fun j => by cases j <;> rfl) rfl) ?_
          refine Weak.backT 3 (by simp) ?_ (by kernel_rfl) (Nat.le_of_ble_eq_true rfl) tld (by kernel_rfl) (by kernel_rfl)
          exact congrArg (fun r => ([one (.row 30 10 false [coreV (upTh D0 u)]), one (.row 30 10 false [z30]), one (.row 3 1 true r)] : Objs)) (map_snoc _ _)
end Go.Proofs.YtkceciebmkklpaaGreat.V
end
section
namespace Go.Proofs.YtkceciebmkklpaaGreat.V
open Go Go.Proofs
set_option maxRecDepth 100000
set_option maxHeartbeats 40000000
theorem new96 (p : Pg) (f : Nat) (u : Fu) (hu : p.fu[f]? = some u) (h0 : 0 ≤ u.loc ∧ u.loc ≤ 100) : Spec Tryz.prog 62 [pgD p, .int .i64 f] [] (fun d os' => d = thD ⟨0, 0, [⟨f, 0, List.replicate u.loc.toNat 0⟩], [], 0⟩ ∧ os' = []) := by
  refine Spec.frz (post' := fun d => d = thD ⟨0, 0, [⟨f, 0, List.replicate u.loc.toNat 0⟩], [], 0⟩) ?_
  refine Spec.by Tryz.func62 rfl (by decide) (by decide +kernel) rfl ?_
  (refine goA ?_)
  refine Call.mk ((frame111f p f u hu h0).only _ rfl (by rintro d rfl; rfl)) ?_; rintro d os' ⟨rfl, rfl⟩
  (refine goA ?_)
  refine App.only false rfl rfl ?_
  (refine goA ?_)
  refine Ret.mk [.cell 4 42] rfl ?_; (refine goA ?_)
  exact ⟨thD ⟨0, 0, [⟨f, 0, List.replicate u.loc.toNat 0⟩], [], 0⟩, View.agg (.cons (.same _) (.cons (.same _) (.cons (.same _) (.cons (.nils _ _) (.same _))))), rfl, rfl⟩
/-- A program of one function, and its thread. -/
@[reducible] def vmP (l : List (Int × Int)) : Pg := ⟨[⟨0, l⟩], 0, [], [], [], [], 1⟩
def t0 : Th := ⟨0, 0, [⟨0, 0, []⟩], [], 0⟩
theorem vm_good {l : List (Int × Int)} (h : l.length ≤ 24) (hl : ∀ x ∈ l, inOk 1 (vmP l) 0 l.length x) : GoodP (vmP l) := by
  refine ⟨⟨by simp, by simp, by simp, by simp, by simp, by simp⟩, ?_, by simp, by simp, by simp, by simp, by simp⟩
  intro f hf
  simp only [vmP, List.mem_singleton] at hf
  subst hf
  exact ⟨⟨by show (0 : Int) ≤ 0; omega, by show (0 : Int) ≤ 3; omega⟩, h, hl⟩
@[reducible] def vmR (l : List (Int × Int)) : D := .agg [.lst 2 false [.agg [.int .i64 0, .lst 2 false (l.map inD)]], .int .i64 0, .nils, .nils, .nils, .nils, .int .i64 1]
theorem vmV (F : Nat → Bool) (os : Objs) (l : List (Int × Int)) : View F os (vmR l) (pgD (vmP l)) :=
  View.agg (.cons (.same _) (.cons (.same _) (.cons (.nils _ _) (.cons (.nils _ _) (.cons (.nils _ _) (.cons (.nils _ _) (.same _)))))))
end Go.Proofs.YtkceciebmkklpaaGreat.V
end
section
namespace Go.Proofs.YtkceciebmkklpaaGreat.V
open Go Go.Proofs
set_option maxRecDepth 100000
set_option maxHeartbeats 40000000
/-- Rows of nothing. -/
@[reducible] def emp (n : Nat) : List (List Int) := List.replicate n []
@[reducible] def chVn (n : Nat) : D := .agg [.int .i64 0, .nils, .nils, .nils, lists (emp n), .nils, .nils, .nils, lists (emp n), lists (emp n)]
theorem new61 (n : Nat) (h : n ≤ 1000) : Spec Tryz.prog 61 [.int .i64 n] [] (fun d os' => d = chVn n ∧ os' = []) := by
  refine Spec.frz (post' := fun d => d = chVn n) ?_
  refine Spec.by Tryz.func61 rfl (by decide) (by decide +kernel) rfl ?_
  (refine goA ?_)
  repeat (refine erC ?_)
  (refine goA ?_)
  refine Ret.mk [.cell 2 30] rfl ?_; (refine goA ?_)
  exact ⟨_, View.agg (.cons (.same _) (.cons (.same _) (.cons (.same _) (.cons (.same _) (.cons (View.slAll (f := false) rfl rfl (List.length_replicate ..) (by simp) (nilsV n) (pureL_rows _)) (.cons (.same _) (.cons (.same _) (.cons (.same _) (.cons (View.slAll (f := false) rfl rfl (List.length_replicate ..) (by simp) (nilsV n) (pureL_rows _)) (.cons (View.slAll (f := false) rfl rfl (List.length_replicate ..) (by simp) (nilsV n) (pureL_rows _)) .nil)))))))))), rfl, rfl⟩
def newC (g : Pg) : Cr := ⟨0, [newT g 0], newS g.mu.toNat g.co.length g.se, emp g.ch.length, emp g.ch.length, emp g.ch.length⟩
theorem new18 {g : Pg} (hg : GoodP g) : Spec Tryz.prog 18 [pgD g] [] (fun d os' => d = coreV (newC g) ∧ os' = []) := by
  have hmu := hg.sz.mu
  have hco := hg.sz.co
  have hse := hg.sz.se
  have hch := hg.sz.ch
  have hfu := hg.sz.fu
  have h60 := new169 g.mu.toNat (g.co.map (D.int .i64)).length g.se (by omega) (by rw [List.length_map]; omega) (by omega)
  have h61 := new61 (g.ch.map (D.int .i64)).length (by rw [List.length_map]; omega)
  rw [show ((g.mu.toNat : Nat) : Int) = g.mu from by omega] at h60
  obtain ⟨u, hu⟩ : ∃ u, g.fu[0]? = some u := ⟨_, List.getElem?_eq_getElem (by omega)⟩
  have hgu := hg.fu u (List.mem_of_getElem? hu)
  have h62 := new96 g 0 u hu (by omega)
  have e := (newT_okT g 0 u hu hgu.1).1
  rw [← e] at h62
  refine Spec.frz (post' := fun d => d = coreV (newC g)) ?_
  refine Spec.by Tryz.func18 rfl (by decide) (by decide +kernel) rfl ?_
  (refine goA ?_)
  refine Call.mk ((h60).only _ rfl (by rintro d rfl; rfl)) ?_; rintro d os' ⟨rfl, rfl⟩
  (refine goA ?_)
  refine Call.mk ((h61).only _ rfl (by rintro d rfl; rfl)) ?_; rintro d os' ⟨rfl, rfl⟩
  (refine goA ?_)
  refine Call.mk ((h62).only _ rfl (by rintro d rfl; rfl)) ?_; rintro d os' ⟨rfl, rfl⟩
  (refine goA ?_)
  refine App.only false rfl rfl ?_
  (refine goA ?_)
  refine Ret.mk [.cell 2 30] rfl ?_; (refine goA ?_)
  refine ⟨_, .same _, rfl, ?_⟩
  rw [List.length_map, List.length_map]
  rfl
end Go.Proofs.YtkceciebmkklpaaGreat.V
end
section
namespace Go.Proofs.YtkceciebmkklpaaGreat.V
open Go Go.Proofs
set_option maxRecDepth 100000
set_option maxHeartbeats 40000000
/-- Who is not told of: the thread itself, and who is not Ready. -/
def outW (t : Nat) (C : Cr) (v : Int) : Bool := decide (v = t) || !decide ((thAt C v.toNat).st = 0)
@[reducible] def tsD (g : Pg) (t : Nat) (y : Xs) : D := .agg [.lst 2 false (g.fu.map fuD), .int .i64 g.mu, ints g.co, ints g.se, ints g.ch, .lst 1 false (g.cs.map ints), .int .i64 g.th, .int .i64 y.C.now, .sl 9 0 5 0 y.C.th.length none, .sl 3 0 1 0 g.mu.toNat none, .sl 4 0 1 0 g.se.length none, .sl 10 0 1 0 y.C.bu.length none, .sl 5 0 1 0 g.mu.toNat none, .sl 6 0 1 0 g.co.length none, .sl 7 0 1 0 g.se.length none, .sl 11 0 1 0 y.C.sq.length none, .sl 12 0 1 0 y.C.rq.length none, .int .i64 t, .sl 13 0 3 0 y.ev.length none, .sl 0 0 1 0 y.wp.length none]
/-- What the test at a step's end looks at, behind the row of whom was woken. -/
@[reducible] def tsO (g : Pg) (t : Nat) (y : Xs) : Objs := one (.row 3 1 false [.int .i64 t]) :: one (.row 103 1 false [.ptr 8 0 20 0 0]) :: rowI y.C.L.ow :: rowI y.C.L.co :: rowC y.C.L.lk :: rowC y.C.L.wq :: rowC y.C.L.dq :: one (.row 105 20 false [tsD g t y]) :: rowT y.C.th :: rowC y.C.bu :: rowC y.C.sq :: rowC y.C.rq :: [rowE y.ev]
theorem is66 (g : Pg) (t : Nat) (y : Xs) (v : Int) (h0 : 0 ≤ v) (hv : v.toNat < y.C.th.length) (W : List Int) : Spec Tryz.prog 66 [.int .i64 v, .ptr 1 0 1 0 0, .ptr 2 0 1 0 0] (rowI W :: tsO g t y) (fun d os' => d = .bool (outW t y.C v) ∧ os' = rowI W :: tsO g t y) := by
  have hm : (y.C.th.map thD).length = y.C.th.length := List.length_map ..
  have hg := th_at hv
  unfold outW
  by_cases h : v = (t : Int)
  · rw [decide_eq_true h]
    refine Spec.by Tryz.func66 rfl (by decide) (by decide +kernel) rfl ?_
    (refine goA ?_)
    exact Ret.mk [.tmp _] rfl ⟨rfl, rfl⟩
  · rw [decide_eq_false h]
    refine Spec.by Tryz.func66 rfl (by decide) (by decide +kernel) rfl ?_
    (refine goA ?_)
    refine Opt.of hg ?_
    (refine goA ?_)
    exact Ret.mk [.tmp _] rfl ⟨rfl, rfl⟩
theorem step22e {g : Pg} {C : Cr} (hl : C.th.length ≤ 100) (t : Int) : (t < 0 ∨ (C.th.length : Int) ≤ t → Spec Tryz.prog 22 [pgD g, coreV C, .int .i64 t] [] (fun d os' => d = .tup [coreV C, evs [], ints [], .int .i64 1] ∧ os' = [])) ∧
    (¬ t < 0 → ¬ (C.th.length : Int) ≤ t → ¬ (thAt C t.toNat).st = 0 → Spec Tryz.prog 22 [pgD g, coreV C, .int .i64 t] [] (fun d os' => d = .tup [coreV C, evs [], ints [], .int .i64 10] ∧ os' = [])) := by
  have hm : (C.th.map thD).length = C.th.length := List.length_map ..
  refine ⟨fun h => ?_, fun h1 h2 h3 => ?_⟩
  · refine Spec.frz (post' := fun d => d = .tup [coreV C, evs [], ints [], .int .i64 1]) ?_
    refine Spec.by Tryz.func22 rfl (by decide) (by decide +kernel) rfl ?_
    (refine goA ?_)
    refine Br.dec (fun h1 => ?_) (fun h1 => ?_)
    · (refine goA ?_)
      refine Ret.mk [.cell 6 30, .tmp 7, .tmp 8, .tmp 9] rfl ?_; (refine goA ?_)
      exact ⟨_, View.tup (.cons (.same _) (.cons (View.nils _ _) (.cons (View.nils _ _) (.cons (.same _) .nil)))), rfl, rfl⟩
    · (refine goA ?_)
      refine Ret.mk [.cell 6 30, .tmp 7, .tmp 8, .tmp 9] rfl ?_; (refine goA ?_)
      exact ⟨_, View.tup (.cons (.same _) (.cons (View.nils _ _) (.cons (View.nils _ _) (.cons (.same _) .nil)))), rfl, rfl⟩
  · have hg := th_at (C := C) (t := t.toNat) (by omega)
    rw [Nat.zero_add] at hg
    refine Spec.frz (post' := fun d => d = .tup [coreV C, evs [], ints [], .int .i64 10]) ?_
    refine Spec.by Tryz.func22 rfl (by decide) (by decide +kernel) rfl ?_
    (refine goA ?_)
    refine Opt.of hg ?_
    (refine goA ?_)
    refine Ret.mk [.cell 6 30, .tmp 7, .tmp 8, .tmp 9] rfl ?_; (refine goA ?_)
    exact ⟨_, View.tup (.cons (.same _) (.cons (View.nils _ _) (.cons (View.nils _ _) (.cons (.same _) .nil)))), rfl, rfl⟩
@[reducible] def plS (g : Pg) (t : Nat) (C : Cr) (sn wk : D) : D := .agg [.lst 2 false (g.fu.map fuD), .int .i64 g.mu, ints g.co, ints g.se, ints g.ch, .lst 1 false (g.cs.map ints), .int .i64 g.th, .int .i64 C.now, .sl 6 0 5 0 C.th.length none, .sl 7 0 1 0 g.mu.toNat none, .sl 8 0 1 0 g.se.length none, .sl 10 0 1 0 C.bu.length none, .sl 11 0 1 0 g.mu.toNat none, .sl 12 0 1 0 g.co.length none, .sl 13 0 1 0 g.se.length none, .sl 14 0 1 0 C.sq.length none, .sl 15 0 1 0 C.rq.length none, .int .i64 t, sn, wk]
/-- All that a step has made: of the state C0, the state under way C. -/
@[reducible] def stO (g : Pg) (t : Nat) (C0 C : Cr) (sn wk : D) (r : Objs) : Objs := one (.row 26 7 false [pgD g]) :: one (.row 30 10 false [coreV C0]) :: one (.row 3 1 false [.int .i64 t]) :: one (.row 30 10 false [z30]) :: one .gone :: one .gone :: rowT C.th :: rowI C.L.ow :: rowI C.L.co :: one .gone :: rowC C.bu :: rowC C.L.lk :: rowC C.L.wq :: rowC C.L.dq :: rowC C.sq :: rowC C.rq :: one (.row 105 20 false [plS g t C sn wk]) :: one (.row 103 1 false [.ptr 16 0 20 0 0]) :: r
theorem stO_put {g : Pg} {t : Nat} {C0 C : Cr} {sn wk : D} {r : Objs} {f : Th} : (stO g t C0 C sn wk r).put 6 0 (.row 42 5 true ((C.th.map thD).set (0 + t) (thD f))) = stO g t C0 (putT C t f) sn wk r := by
  rw [th_put]
  have e : plS g t C sn wk = plS g t (putT C t f) sn wk := by
    show D.agg _ = D.agg _
    simp [putT]
  show [_, _, _, _, _, _, _, _, _, _, _, _, _, _, _, _, one (.row 105 20 false [plS g t C sn wk]), _] ++ r = _
  rw [e]
  rfl
theorem nil_sn {g : Pg} {t n : Nat} {C : Cr} : NilL n [plS g t C .nils .nils] [plS g t C (.sl n 0 3 0 0 none) .nils] :=
  .cons (.agg (.cons (.same _ _) (.cons (.same _ _) (.cons (.same _ _) (.cons (.same _ _) (.cons (.same _ _) (.cons (.same _ _) (.cons (.same _ _) (.cons (.same _ _) (.cons (.same _ _) (.cons (.same _ _) (.cons (.same _ _) (.cons (.same _ _) (.cons (.same _ _) (.cons (.same _ _) (.cons (.same _ _) (.cons (.same _ _) (.cons (.same _ _) (.cons (.same _ _) (.cons (.nils _ _) (.same _ _))))))))))))))))))))) (.same _ _)
theorem nil_wk {g : Pg} {t n : Nat} {C : Cr} {sn : D} : NilL n [plS g t C sn .nils] [plS g t C sn (.sl n 0 1 0 0 none)] :=
  .cons (.agg (.cons (.same _ _) (.cons (.same _ _) (.cons (.same _ _) (.cons (.same _ _) (.cons (.same _ _) (.cons (.same _ _) (.cons (.same _ _) (.cons (.same _ _) (.cons (.same _ _) (.cons (.same _ _) (.cons (.same _ _) (.cons (.same _ _) (.cons (.same _ _) (.cons (.same _ _) (.cons (.same _ _) (.cons (.same _ _) (.cons (.same _ _) (.cons (.same _ _) (.cons (.same _ _) (.cons (.nils _ _) (.same _ _)))))))))))))))))))))) (.same _ _)
@[reducible] def plF (g : Pg) (t : Nat) (y : Xs) : D := .agg [.lst 2 false (g.fu.map fuD), .int .i64 g.mu, ints g.co, ints g.se, ints g.ch, .lst 1 false (g.cs.map ints), .int .i64 g.th, .int .i64 y.C.now, .sl 23 0 5 0 y.C.th.length none, .sl 7 0 1 0 g.mu.toNat none, .sl 8 0 1 0 g.se.length none, .sl 10 0 1 0 y.C.bu.length none, .sl 11 0 1 0 g.mu.toNat none, .sl 12 0 1 0 g.co.length none, .sl 13 0 1 0 g.se.length none, .sl 14 0 1 0 y.C.sq.length none, .sl 15 0 1 0 y.C.rq.length none, .int .i64 t, .sl 24 0 3 0 y.ev.length none, .sl 25 0 1 0 y.wp.length none]
/-- The same, the row of whom was woken being W. -/
@[reducible] def stW (g : Pg) (t : Nat) (C0 : Cr) (y : Xs) (f : Th) (q : Rq) (W : List Int) : Objs := one (.row 26 7 false [pgD g]) :: one (.row 30 10 false [coreV C0]) :: one (.row 3 1 false [.int .i64 t]) :: one (.row 30 10 false [z30]) :: one .gone :: one .gone :: one .gone :: rowI y.C.L.ow :: rowI y.C.L.co :: one .gone :: rowC y.C.bu :: rowC y.C.L.lk :: rowC y.C.L.wq :: rowC y.C.L.dq :: rowC y.C.sq :: rowC y.C.rq :: one (.row 105 20 false [plF g t y]) :: one (.row 103 1 false [.ptr 16 0 20 0 0]) :: one (.row 42 5 false [thD f]) :: one (.row 107 3 false [rqD q]) :: one .gone :: one .gone :: one (.map meetsM) :: rowT y.C.th :: rowE y.ev :: [rowI W]
/-- Behind the request. -/
@[reducible] def stF (g : Pg) (t : Nat) (C0 : Cr) (y : Xs) (f : Th) (q : Rq) : Objs := stW g t C0 y f q y.wp
theorem del_st {g : Pg} {t : Nat} {C0 : Cr} {y : Xs} {f : Th} {q : Rq} (hwl : y.wp.length ≤ 1000000) (hwp : ∀ v ∈ y.wp, 0 ≤ v ∧ v.toNat < y.C.th.length) : Spec Tryz.prog 67 [.sl 25 0 1 0 y.wp.length none, .fn (.func 66) [] [.ptr 2 0 1 0 0, .ptr 17 0 1 0 0]] (stF g t C0 y f q) (fun d os' => d = .sl 25 0 1 0 (delL (outW t y.C) y.wp).length none ∧ os' = stW g t C0 y f q (delL (outW t y.C) y.wp ++ zeros (y.wp.length - (delL (outW t y.C) y.wp).length))) := by
  have hdel := del67 (g := 66) (a := []) (b := [.ptr 1 0 1 0 0, .ptr 2 0 1 0 0]) (q := outW t y.C) (l := y.wp) (r := tsO g t y) (fun W v hv => is66 g t y v (hwp v hv).1 (hwp v hv).2 W) hwl
  refine (hdel.frame (stF g t C0 y f q) [(25, 0), (2, 0), (17, 0), (7, 0), (8, 0), (11, 0), (12, 0), (13, 0), (16, 0), (23, 0), (10, 0), (14, 0), (15, 0), (24, 0)] rfl (by decide) (allQ_get0 (Q := fun k p => _) ⟨⟨Nat.le_of_ble_eq_true rfl, rfl, rfl, fun j hj => one_pos _ hj⟩, ⟨Nat.le_of_ble_eq_true rfl, rfl, rfl, fun j hj => one_pos _ hj⟩, ⟨Nat.le_of_ble_eq_true rfl, rfl, rfl, fun j hj => one_pos _ hj⟩, ⟨Nat.le_of_ble_eq_true rfl, rfl, rfl, fun j hj => one_pos _ hj⟩, ⟨Nat.le_of_ble_eq_true rfl, rfl, rfl, fun j hj => one_pos _ hj⟩, ⟨Nat.le_of_ble_eq_true rfl, rfl, rfl, fun j hj => one_pos _ hj⟩, ⟨Nat.le_of_ble_eq_true rfl, rfl, rfl, fun j hj => one_pos _ hj⟩, ⟨Nat.le_of_ble_eq_true rfl, rfl, rfl, fun j hj => one_pos _ hj⟩, ⟨Nat.le_of_ble_eq_true rfl, rfl, rfl, fun j hj => one_pos _ hj⟩, ⟨Nat.le_of_ble_eq_true rfl, rfl, rfl, fun j hj => one_pos _ hj⟩, ⟨Nat.le_of_ble_eq_true rfl, rfl, rfl, fun j hj => one_pos _ hj⟩, ⟨Nat.le_of_ble_eq_true rfl, rfl, rfl, fun j hj => one_pos _ hj⟩, ⟨Nat.le_of_ble_eq_true rfl, rfl, rfl, fun j hj => one_pos _ hj⟩, ⟨Nat.le_of_ble_eq_true rfl, rfl, rfl, fun j hj => one_pos _ hj⟩, trivial⟩) rfl).mono ?_
  rintro d os' ⟨d1, os1, ⟨rfl, rfl⟩, rfl, rfl⟩
  exact ⟨rfl, rfl⟩
theorem step22a {g : Pg} (hgp : GoodP g) {C : Cr} (hz : LkZ g.mu.toNat g.co.length g.se.length C.L) (hb : ClB C) {t : Nat} (ht : t < C.th.length) (h0 : (thAt C t).st = 0) (hgt : GoodT g (thAt C t)) (hm0 : MI g t (begX g C t)) (hq : RqOk g (stepT g (thAt C t)).2) (hk : (stepT g (thAt C t)).2.kd ≠ 1 → (thAt (begX g C t).C t).st = 0)
    (hyz : LkZ g.mu.toNat g.co.length g.se.length (meetX g (begX g C t) t (stepT g (thAt C t)).2).C.L) (hwl : (meetX g (begX g C t) t (stepT g (thAt C t)).2).wp.length ≤ 1000000)
    (hwp : ∀ v ∈ (meetX g (begX g C t) t (stepT g (thAt C t)).2).wp, 0 ≤ v ∧ v.toNat < (meetX g (begX g C t) t (stepT g (thAt C t)).2).C.th.length) :
    Spec Tryz.prog 22 [pgD g, coreV C, .int .i64 t] [] (fun d os' => d = .tup [coreV (meetX g (begX g C t) t (stepT g (thAt C t)).2).C, evs (meetX g (begX g C t) t (stepT g (thAt C t)).2).ev, ints (delL (outW t (meetX g (begX g C t) t (stepT g (thAt C t)).2).C) (meetX g (begX g C t) t (stepT g (thAt C t)).2).wp), .int .i64 0] ∧ os' = []) := by
  have hm : (C.th.map thD).length = C.th.length := List.length_map ..
  have hg0 := th_at ht
  have hg := hg0
  rw [Nat.zero_add] at hg
  have htl := hb.th
  have hcl := clone28 hb
  unfold clD slR at hcl
  rw [hz.ow, hz.co, hz.lk, hz.wq, hz.dq] at hcl
  have hs := step97 g hgp (thAt C t) hgt
  have hfn := meet_fn hgp hm0 hq hk
  obtain ⟨⟨f', q⟩, hT⟩ : ∃ r, stepT g (thAt C t) = r := ⟨_, rfl⟩
  unfold begX at hfn hwp hwl hyz ⊢
  rw [hT] at hs hfn hwp hwl hyz ⊢
  dsimp only at hs hfn hwp hwl hyz ⊢
  obtain ⟨C0, hx0C⟩ : ∃ C0, putT C t f' = C0 := ⟨_, rfl⟩
  rw [hx0C] at hfn hwp hwl hyz ⊢
  refine Spec.frz (post' := fun d => d = .tup [coreV (meetX g ⟨C0, [], [], []⟩ t q).C, evs (meetX g ⟨C0, [], [], []⟩ t q).ev, ints (delL (outW t (meetX g ⟨C0, [], [], []⟩ t q).C) (meetX g ⟨C0, [], [], []⟩ t q).wp), .int .i64 0]) ?_
  refine Spec.by Tryz.func22 rfl (by decide) (by decide +kernel) rfl ?_
  (refine goA ?_)
  refine Opt.of hg ?_
  (refine goA ?_)
  refine Call.mk (hcl.onto _ rfl) ?_
  rintro d os' ⟨d0, os0, ⟨rfl, rfl⟩, rfl, rfl⟩
  (refine goA ?_)
  refine Opt.of hg0 ?_
  (refine goA ?_)
  refine Call.mk ((hs).only _ rfl (by rintro d rfl; rfl)) ?_; rintro d os' ⟨rfl, rfl⟩
  (refine goA ?_)
  refine And.intro ?_ ?_
  · conv => whnf
    refine Opt.of hg0 ?_
    conv => whnf
  (refine goA ?_)
  refine And.intro ?_ ?_
  · conv => whnf
    refine Opt.of hg0 ?_
    conv => whnf
  (refine goR ?_)
  refine Pt.weak (Weak.on [(3, .ptr 0 0 7 0 0), (4, .ptr 1 0 10 0 0), (5, .ptr 2 0 1 0 0), (6, .ptr 3 0 10 0 0), (10, .ptr 17 0 1 0 0), (11, .ptr 18 0 5 0 0), (12, .ptr 19 0 3 0 0)] (stO g t C C .nils .nils [one (.row 42 5 false [thD f']), one (.row 107 3 false [rqD q])])) ?_
  (refine goA ?_)
  refine Opt.of hg0 ?_
  (refine goR ?_)
  refine Pt.weak (Weak.on [(3, .ptr 0 0 7 0 0), (4, .ptr 1 0 10 0 0), (5, .ptr 2 0 1 0 0), (6, .ptr 3 0 10 0 0), (10, .ptr 17 0 1 0 0), (11, .ptr 18 0 5 0 0), (12, .ptr 19 0 3 0 0)] ((stO g t C C .nils .nils [one (.row 42 5 false [thD f']), one (.row 107 3 false [rqD q])]).put 6 0 (.row 42 5 true ((C.th.map thD).set (0 + t) (thD f'))))) ?_
  rw [stO_put, hx0C]
  refine Pt.weak (Weak.nilO 16 20 rfl (ty := 105) (sz := 20) (es := [plS g t C0 .nils .nils]) rfl [plS g t C0 (.sl 20 0 3 0 0 none) .nils] rfl nil_sn 84 3 true) ?_
  refine Pt.weak (Weak.nilO 16 21 rfl (ty := 105) (sz := 20) (es := [plS g t C0 (.sl 20 0 3 0 0 none) .nils]) rfl [plS g t C0 (.sl 20 0 3 0 0 none) (.sl 21 0 1 0 0 none)] rfl nil_wk 3 1 true) ?_
  (refine goA ?_)
  refine Call.mk (meets65' _) ?_
  rintro d os' ⟨rfl, rfl⟩
  (refine goA ?_)
  apply cutG (A := Unit) (n0 := 0) (fun _ => [(5, .ptr 2 0 1 0 0), (6, .ptr 3 0 10 0 0), (10, .ptr 17 0 1 0 0)]) (fun _ => stF g t C (meetX g ⟨C0, [], [], []⟩ t q) f' q) (fun _ => True)
  · intro key
    refine Or.elim hfn ?_ ?_
    · rintro ⟨n, hl, hsp⟩
      refine Fnd.got hl ?_
      (refine goA ?_)
      refine Call.mk (hsp.frame _ [(7, 0), (8, 0), (11, 0), (12, 0), (13, 0), (16, 0), (6, 0), (10, 0), (14, 0), (15, 0), (20, 0), (21, 0)] rfl (by decide) (allQ_get0 (Q := fun k p => _) ⟨⟨Nat.le_of_ble_eq_true rfl, rfl, rfl, fun j hj => one_pos _ hj⟩, ⟨Nat.le_of_ble_eq_true rfl, rfl, rfl, fun j hj => one_pos _ hj⟩, ⟨Nat.le_of_ble_eq_true rfl, rfl, rfl, fun j hj => one_pos _ hj⟩, ⟨Nat.le_of_ble_eq_true rfl, rfl, rfl, fun j hj => one_pos _ hj⟩, ⟨Nat.le_of_ble_eq_true rfl, rfl, rfl, fun j hj => one_pos _ hj⟩, ⟨Nat.le_of_ble_eq_true rfl, rfl, rfl, fun j hj => one_pos _ hj⟩, ⟨Nat.le_of_ble_eq_true rfl, rfl, rfl, fun j hj => one_pos _ hj⟩, ⟨Nat.le_of_ble_eq_true rfl, rfl, rfl, fun j hj => one_pos _ hj⟩, ⟨Nat.le_of_ble_eq_true rfl, rfl, rfl, fun j hj => one_pos _ hj⟩, ⟨Nat.le_of_ble_eq_true rfl, rfl, rfl, fun j hj => one_pos _ hj⟩, ⟨Nat.le_of_ble_eq_true rfl, rfl, rfl, fun j hj => one_pos _ hj⟩, ⟨Nat.le_of_ble_eq_true rfl, rfl, rfl, fun j hj => one_pos _ hj⟩, trivial⟩) rfl) ?_
      rintro d os' ⟨d1, os1, ⟨rfl, rfl⟩, rfl, rfl⟩
      (refine goR ?_)
      refine Pt.weak (Weak.on [(5, .ptr 2 0 1 0 0), (6, .ptr 3 0 10 0 0), (10, .ptr 17 0 1 0 0)] (stF g t C (meetX g ⟨C0, [], [], []⟩ t q) f' q)) ?_
      exact key () trivial
    · rintro ⟨hkd, hl, hmx⟩
      have hst : stF g t C ⟨C0, [], [], []⟩ f' q = stF g t C (meetX g ⟨C0, [], [], []⟩ t q) f' q := by rw [hmx]
      refine Fnd.not hl ?_
      (refine goR ?_)
      ((with_reducible refine Pt.go ?_); conv => whnf)
      (refine goR ?_)
      refine Pt.weak (Weak.on [(5, .ptr 2 0 1 0 0), (6, .ptr 3 0 10 0 0), (10, .ptr 17 0 1 0 0)] (stO g t C C0 (.sl 20 0 3 0 0 none) (.sl 21 0 1 0 0 none) [one (.row 42 5 false [thD f']), one (.row 107 3 false [rqD q]), one (.row 84 3 true []), one (.row 3 1 true []), one (.map meetsM)])) ?_
      refine Pt.weak (Weak.trans Weak.gone (Weak.trans Weak.gone Weak.gone)) ?_
      refine Pt.weak (Weak.move 6 23 (by decide) (by simp) (Nat.le_of_ble_eq_true rfl) (Nat.le_of_ble_eq_true rfl) (fun j => by cases j <;> rfl) rfl rfl) ?_
      refine Pt.weak (Weak.move 20 24 (by decide) (by simp) (Nat.le_of_ble_eq_true rfl) (Nat.le_of_ble_eq_true rfl) (fun j => by cases j <;> rfl) rfl rfl) ?_
      refine Pt.weak (Weak.move 21 25 (by decide) (by simp) (Nat.le_of_ble_eq_true rfl) (Nat.le_of_ble_eq_true rfl) (fun j => by cases j <;> rfl) rfl rfl) ?_
      refine Pt.weak (Weak.on [(5, .ptr 2 0 1 0 0), (6, .ptr 3 0 10 0 0), (10, .ptr 17 0 1 0 0)] (stF g t C ⟨C0, [], [], []⟩ f' q)) ?_
      refine Pt.weak (Weak.objs hst) ?_
      exact key () trivial
  · intro _ _
    clear hfn hs hcl
    generalize meetX g ⟨C0, [], [], []⟩ t q = y at hwp hwl hyz ⊢
    have hwm : (y.wp.map (D.int .i64)).length = y.wp.length := List.length_map ..
    (refine goA ?_)
    have hdl := del_st (g := g) (t := t) (C0 := C) (f := f') (q := q) hwl hwp
    refine Call.mk hdl ?_
    rintro d os' ⟨rfl, rfl⟩
    (refine goA ?_)
    have hzz : ((delL (outW t y.C) y.wp ++ zeros (y.wp.length - (delL (outW t y.C) y.wp).length)).map (D.int .i64)).length = (delL (outW t y.C) y.wp).length + (y.wp.length - (delL (outW t y.C) y.wp).length) := by rw [List.length_map, List.length_append, zeros, List.length_replicate]
    refine Ret.mk [.cell 6 30, .tmp 7, .tmp 8, .tmp 9] rfl ?_; (refine goA ?_)
    exact ⟨_, View.tup (.cons (.agg (.cons (.same _) (.cons (View.slAll (f := false) rfl rfl (by simp) (by simp) (ViewL.same _) (pureTh _))
      (.cons (View.slAll (f := false) rfl rfl (by simp [hyz.ow]) (by simp) (ViewL.same _) (pureL_map (fun _ => rfl) _))
      (.cons (View.slAll (f := false) rfl rfl (by simp [hyz.co]) (by simp) (ViewL.same _) (pureL_map (fun _ => rfl) _))
      (.cons (View.slAll (f := false) rfl rfl (by simp) (by simp) (ViewL.same _) (pureL_rows _))
      (.cons (View.slAll (f := false) rfl rfl (by simp [hyz.lk]) (by simp) (ViewL.same _) (pureL_rows _))
      (.cons (View.slAll (f := false) rfl rfl (by simp [hyz.wq]) (by simp) (ViewL.same _) (pureL_rows _))
      (.cons (View.slAll (f := false) rfl rfl (by simp [hyz.dq]) (by simp) (ViewL.same _) (pureL_rows _))
      (.cons (View.slAll (f := false) rfl rfl (by simp) (by simp) (ViewL.same _) (pureL_rows _))
      (.cons (View.slAll (f := false) rfl rfl (by simp) (by simp) (ViewL.same _) (pureL_rows _)) .nil)))))))))))
      (.cons (View.slAll (f := false) rfl rfl (by simp) (by simp) (ViewL.same _) (pureL_map (fun _ => rfl) _))
      (.cons (View.sl (f := false) rfl rfl (by rw [hzz]; omega) (by simp) (take_front hzz) (pureL_map (fun _ => rfl) _))
      (.cons (.same _) .nil)))), rfl, rfl⟩
end Go.Proofs.YtkceciebmkklpaaGreat.V
end
section
namespace Go.Proofs.YtkceciebmkklpaaGreat.V
open Go Go.Proofs
set_option maxRecDepth 100000
set_option maxHeartbeats 4000000
theorem CI.clB {g : Pg} (hg : GoodP g) {C : Cr} (h : CI g C) : ClB C := by
  have h8 := g_th8 hg h.z
  have hs := hg.sz
  have hmu := hs.mu
  have hco := hs.co
  have hse := hs.se
  have hch := hs.ch
  have hL := h.z.L
  have h1 := hL.ow
  have h2 := hL.co
  have h3 := hL.lk
  have h4 := hL.wq
  have h5 := hL.dq
  have h6 := h.z.bu
  have h7 := h.z.sq
  have h9 := h.z.rq
  have htot := h.rk.tot (g_cs4 hg) h8
  have hm := sumL_evens C.sq
  have hR : ∀ (R : List (List Int)), sumL R ≤ 1000 → ∀ q ∈ R, q.length ≤ 1000 := fun R hR q hq => by have := sumL_mem hq; omega
  exact ⟨by omega, fun f hf => thI_ok hg (h.th f hf), by omega, by omega, ⟨by omega, fun q hq => by have := h.z.bc q hq; omega⟩, ⟨by omega, hR _ (by omega)⟩, ⟨by omega, hR _ (by omega)⟩, ⟨by omega, hR _ (by omega)⟩, ⟨by omega, hR _ (by omega)⟩, ⟨by omega, hR _ (by omega)⟩⟩
theorem wok_eq {t : Nat} {y : Xs} (h : WF t y) : delL (outW t y.C) y.wp = y.wk.filter (fun k => decide (k ≠ (t : Int)) && decide ((thAt y.C k.toNat).st = 0)) := by
  rw [h.wp]
  unfold delL
  rw [List.filter_filter]
  refine List.filter_congr (fun v hv => ?_)
  unfold outW rdyB
  by_cases h1 : v = (t : Int)
  · simp [h1]
  · by_cases h2 : (thAt y.C v.toNat).st = 0 <;> simp [h1, h2]
/-- A step of the program's. -/
theorem step22 {g : Pg} (hg : GoodP g) {C : Cr} (h : CI g C) (t : Int) : Spec Tryz.prog 22 [pgD g, coreV C, .int .i64 t] [] (fun d os' => d = .tup [coreV (stepC g C t).1, evs (stepC g C t).2.1, ints (stepC g C t).2.2.1, .int .i64 (stepC g C t).2.2.2] ∧ os' = []) := by
  have h8 := g_th8 hg h.z
  obtain ⟨e1, e2⟩ := step22e (g := g) (C := C) (by omega) t
  unfold stepC
  by_cases ht : t < 0 ∨ (C.th.length : Int) ≤ t
  · rw [if_pos ht]; exact e1 ht
  · rw [if_neg ht]
    by_cases h0 : (thAt C t.toNat).st = 0
    · rw [if_neg (fun h => h h0)]
      obtain ⟨u, rfl⟩ : ∃ u : Nat, t = (u : Int) := ⟨t.toNat, by omega⟩
      rw [Int.toNat_natCast] at h0 ⊢
      have hul : u < C.th.length := by omega
      obtain ⟨b1, b2, b3, b4⟩ := beg_all hg h hul h0
      have hq := rq_ok hg (thI_ready (h.at u) h0)
      have hwf := meet_wf hg b1 hq b2 b3
      have hs := step22a hg h.z.L (h.clB hg) hul h0 (thI_ready (h.at u) h0) b1 hq b2 b4.z.L (by have := b4.xb.wp; omega) (fun v hv => by
        rw [hwf.wp] at hv
        have := hwf.wk v (List.mem_filter.1 hv).1
        exact ⟨this.1, this.2.1⟩)
      rw [wok_eq hwf] at hs
      exact hs
    · rw [if_pos h0]; exact e2 (by omega) (by omega) h0
end Go.Proofs.YtkceciebmkklpaaGreat.V
end
section
namespace Go.Proofs.YtkceciebmkklpaaGreat.V
open Go Go.Proofs
set_option maxRecDepth 100000
set_option maxHeartbeats 40000000
theorem qAt_emp (n k : Nat) : qAt (emp n) k = [] := by
  unfold qAt emp
  rw [List.getD_eq_getElem?_getD, List.getElem?_replicate]
  split <;> rfl
theorem newC_ci {g : Pg} (hg : GoodP g) : CI g (newC g) := by
  have hfu := hg.sz.fu
  have hgt := newT_good hg (a := 0) (by omega)
  have hrow : ∀ r k, qAt (rws (newC g) r) k = [] := by
    intro r k
    rcases r with _ | _ | _ | _ | _
    · exact qAt_emp _ _
    · exact qAt_emp _ _
    · exact qAt_emp _ _
    · show qAt ((emp g.ch.length).map evens) k = []
      rw [qAt_evens, qAt_emp]; rfl
    · exact qAt_emp _ _
  have h0 : ∀ k, (thAt (newC g) k).st = 0 ∨ (thAt (newC g) k).st = 9 := by
    intro k
    rcases k with _ | k
    · exact .inl rfl
    · exact .inr rfl
  refine ⟨⟨Nat.le_refl _, hg.th.1, ⟨by show (0 : Int) ≤ 0; omega, by show (0 : Int) ≤ 1073741824; omega⟩, ⟨List.length_replicate .., rfl, List.length_replicate .., List.length_replicate .., List.length_replicate ..⟩, fun v hv => ?_, fun v hv => ?_, List.length_replicate .., List.length_replicate .., List.length_replicate .., fun q hq => ?_, fun q hq => ?_⟩, ⟨fun r k v hr hv => ?_, fun t ht => ?_⟩, fun f hf => ?_, fun k hk => ?_⟩
  · rw [List.eq_of_mem_replicate hv]; omega
  · have := hg.se v hv; omega
  · rw [List.eq_of_mem_replicate hq]; rfl
  · rw [List.eq_of_mem_replicate hq]; exact Nat.zero_le _
  · rw [hrow] at hv; cases hv
  · rw [if_neg (by simp)]
    have hn : need g (thAt (newC g) t) = 0 := need0 (by rcases h0 t with h | h <;> simp [h])
    rw [hn]
    have hz : ∀ r, cntL (rws (newC g) r) (t : Int) = 0 := fun r => by
      refine cntL_none (fun q hq hm => ?_)
      obtain ⟨k, rfl, _⟩ := qAt_of_mem hq
      rw [hrow] at hm; cases hm
    unfold V.cnt
    rw [hz, hz, hz, hz, hz]
  · have : f = newT g 0 := List.mem_singleton.1 hf
    rw [this]; exact thI_good hgt
  · rcases h0 k with h | h <;> omega
theorem new85p (nm nw : Nat) (se : List Int) (h1 : nm ≤ 1000) (h2 : nw ≤ 1000) (h3 : se.length ≤ 1000) : Spec Tryz.prog 85 [.int .i64 nm, .int .i64 nw, ints se] [] (fun d os' => d = lkVn (newS nm nw se) ∧ os' = []) := by
  refine Spec.frz (post' := fun d => d = lkVn (newS nm nw se)) ?_
  refine (new66 nm nw se h1 h2 h3).mono ?_
  rintro d os' ⟨rfl, rfl⟩
  exact ⟨_, View.agg (.cons (.same _) (.cons (.same _) (.cons (View.slAll (f := false) rfl rfl (by simp [newS]) (by simp) (ViewL.same _) (pureL_map (fun _ => rfl) _)) (.cons (View.slAll (f := false) rfl rfl (by simp [newS]) (by simp) (ViewL.same _) (pureL_map (fun _ => rfl) _)) (.cons (.same _) (.cons (View.slAll (f := false) rfl rfl (by simp [newS]) (by simp) (ViewL.same _) (pureL_rows _)) (.cons (View.slAll (f := false) rfl rfl (by simp [newS]) (by simp) (ViewL.same _) (pureL_rows _)) (.cons (View.slAll (f := false) rfl rfl (by simp [newS]) (by simp) (ViewL.same _) (pureL_rows _)) (.cons (.same _) (.cons (.same _) .nil)))))))))), rfl, rfl⟩
theorem new86 (n : Nat) (h : n ≤ 1000) : Spec Tryz.prog 86 [.int .i64 n] [] (fun d os' => d = chVn n ∧ os' = []) := by
  refine Spec.frz (post' := fun d => d = chVn n) ?_
  refine Spec.by Tryz.func86 rfl (by decide) (by decide +kernel) rfl ?_
  (refine goA ?_)
  repeat (refine erC ?_)
  (refine goA ?_)
  refine Ret.mk [.cell 2 30] rfl ?_; (refine goA ?_)
  exact ⟨_, View.agg (.cons (.same _) (.cons (.same _) (.cons (.same _) (.cons (.same _) (.cons (View.slAll (f := false) rfl rfl (List.length_replicate ..) (by simp) (nilsV n) (pureL_rows _)) (.cons (.same _) (.cons (.same _) (.cons (.same _) (.cons (View.slAll (f := false) rfl rfl (List.length_replicate ..) (by simp) (nilsV n) (pureL_rows _)) (.cons (View.slAll (f := false) rfl rfl (List.length_replicate ..) (by simp) (nilsV n) (pureL_rows _)) .nil)))))))))), rfl, rfl⟩
theorem new44 {g : Pg} (hg : GoodP g) : Spec Tryz.prog 44 [pgD g] [] (fun d os' => d = coreV (newC g) ∧ os' = []) := by
  have hmu := hg.sz.mu
  have hco := hg.sz.co
  have hse := hg.sz.se
  have hch := hg.sz.ch
  have hfu := hg.sz.fu
  have h60 := new85p g.mu.toNat (g.co.map (D.int .i64)).length g.se (by omega) (by rw [List.length_map]; omega) (by omega)
  have h61 := new86 (g.ch.map (D.int .i64)).length (by rw [List.length_map]; omega)
  rw [show ((g.mu.toNat : Nat) : Int) = g.mu from by omega] at h60
  obtain ⟨u, hu⟩ : ∃ u, g.fu[0]? = some u := ⟨_, List.getElem?_eq_getElem (by omega)⟩
  have hgu := hg.fu u (List.mem_of_getElem? hu)
  have h62 := new38 g 0 u hu (by omega)
  have e := (newT_okT g 0 u hu hgu.1).1
  rw [← e] at h62
  refine Spec.frz (post' := fun d => d = coreV (newC g)) ?_
  refine Spec.by Tryz.func44 rfl (by decide) (by decide +kernel) rfl ?_
  (refine goA ?_)
  refine Call.mk ((h60).only _ rfl (by rintro d rfl; rfl)) ?_; rintro d os' ⟨rfl, rfl⟩
  (refine goA ?_)
  refine Call.mk ((h61).only _ rfl (by rintro d rfl; rfl)) ?_; rintro d os' ⟨rfl, rfl⟩
  (refine goA ?_)
  refine Call.mk ((h62).only _ rfl (by rintro d rfl; rfl)) ?_; rintro d os' ⟨rfl, rfl⟩
  (refine goA ?_)
  refine App.only false rfl rfl ?_
  (refine goA ?_)
  refine Ret.mk [.cell 2 30] rfl ?_; (refine goA ?_)
  refine ⟨_, .same _, rfl, ?_⟩
  rw [List.length_map, List.length_map]
  rfl
end Go.Proofs.YtkceciebmkklpaaGreat.V
end
section
namespace Go.Proofs.YtkceciebmkklpaaGreat.V
open Go Go.Proofs
set_option maxRecDepth 100000
set_option maxHeartbeats 40000000
def lvP : List (Int × Int) := [(0, 5), (25, 0), (26, 0)]
theorem lv_good : GoodP (vmP lvP) := by
  refine vm_good (by decide) ?_
  intro x hx
  simp only [lvP, List.mem_cons, List.not_mem_nil, or_false] at hx
  rcases hx with rfl | rfl | rfl <;> (unfold inOk; dsimp only; simp)
def lvR : Nat → Cr × List Ev
  | 0 => (newC (vmP lvP), [])
  | i + 1 => ((stepC (vmP lvP) (lvR i).1 0).1, (lvR i).2 ++ (stepC (vmP lvP) (lvR i).1 0).2.1)
theorem lv_ci : ∀ i, CI (vmP lvP) (lvR i).1
  | 0 => newC_ci lv_good
  | i + 1 => stepC_ci lv_good (lv_ci i) 0
theorem lv_e : ∀ i < 3, (stepC (vmP lvP) (lvR i).1 0).2.2.2 = 0 := by decide +kernel
theorem lv_l : ∀ i < 3, (lvR i).2.length ≤ 10 ∧ (stepC (vmP lvP) (lvR i).1 0).2.1.length ≤ 10 := by decide +kernel
theorem lv_end : overK (lvR 3).1 = true ∧ (lvR 3).2 = [(0, 0, 5), (2, 0, 0)] := by decide +kernel
theorem lives23 : Spec Tryz.prog 23 [] [] (fun d os' => d = .bool true ∧ os' = []) := by
  refine Spec.frz (post' := fun d => d = .bool true) ?_
  refine Spec.by Tryz.func23 rfl (by decide) (by decide +kernel) rfl ?_
  (refine goA ?_)
  refine App.only false rfl rfl ?_
  (refine goA ?_)
  refine App.only false rfl rfl ?_
  (refine goR ?_)
  refine Pt.weak (Weak.on [(0, .bool false), (1, .ptr 0 0 7 0 0)] [one (.row 26 7 false [vmR lvP])]) ?_
  refine Pt.weak (Weak.frzO (fun _ => false) [(0, .bool false), (1, .ptr 0 0 7 0 0)] 0 (ty := 26) (sz := 7) (es := [vmR lvP]) rfl rfl [pgD (vmP lvP)] rfl (.cons (vmV _ _ lvP) .nil) ⟨View.same _, View.same _, trivial⟩) ?_
  (refine goA ?_)
  refine Call.mk (((new44 lv_good)).only _ rfl (by rintro d rfl; rfl)) ?_; rintro d os' ⟨rfl, rfl⟩
  (refine goA ?_)
  refine Loop.inv (A := Nat × Nat) (List.range 45) (fun i => [(0, .bool false), (1, .ptr 0 0 7 0 0), (2, .ptr 1 0 10 0 0), (3, .sl 2 0 3 0 i.2 none), (4, .int .i64 (i.1 : Int))]) (fun i => [one (.row 26 7 false [pgD (vmP lvP)]), one (.row 30 10 false [coreV (lvR i.1).1]), rowE (lvR i.1).2]) (fun i => i.1 ≤ 3 ∧ i.2 = (lvR i.1).2.length) (fun i => 3 - i.1) (0, 0) ⟨Nat.zero_le _, rfl⟩ ?_ ?_
  · refine Weak.trans (Weak.nilrow 3 rfl 84 3 true) ?_
    exact Weak.start' rfl rfl tld
  rintro ⟨i, n⟩ ⟨hi, hn⟩
  dsimp only at hi hn ⊢
  have hci := lv_ci i
  have hst := step22 lv_good hci 0
  have hl8 := g_th8 lv_good hci.z
  have hem : ((lvR i).2.map evD).length = (lvR i).2.length := List.length_map ..
  (refine goA ?_)
  refine Br.dec (fun h0 => ?_) (fun h0 => ?_)
  · have hi3 : i < 3 := by omega
    have he := lv_e i hi3
    obtain ⟨hl1, hl2⟩ := lv_l i hi3
    rw [he] at hst
    have hem2 : ((stepC (vmP lvP) (lvR i).1 0).2.1.map evD).length = (stepC (vmP lvP) (lvR i).1 0).2.1.length := List.length_map ..
    (refine goA ?_)
    refine Call.mk ((hst).only _ rfl (by rintro d rfl; rfl)) ?_; rintro d os' ⟨rfl, rfl⟩
    (refine goA ?_)
    refine ⟨_, _, _, ?_, ⟨(i + 1, n + ((stepC (vmP lvP) (lvR i).1 0).2.1.map evD).length), ?_, rfl, rfl, rfl⟩, ?_⟩
    · show 3 - (i + 1) < 3 - i; omega
    · exact ⟨hi3, by show _ = ((lvR i).2 ++ (stepC (vmP lvP) (lvR i).1 0).2.1).length; rw [List.length_append, hem2, hn]⟩
    · refine Weak.trans (Weak.shift 4 2 (by decide) (by simp) (Nat.le_of_ble_eq_true rfl) (Nat.le_of_ble_eq_true rfl) (fun j => by cases j <;> rfl) rfl) ?_
      refine Weak.backT 3 (by simp) ?_ (by kernel_rfl) (Nat.le_of_ble_eq_true rfl) tld (by kernel_rfl) (by kernel_rfl)
      exact congrArg (fun r => ([one (.row 26 7 false [pgD (vmP lvP)]), one (.row 30 10 false [coreV (lvR (i + 1)).1]), one (.row 84 3 true r)] : Objs)) (List.map_append (l₁ := (lvR i).2) (l₂ := (stepC (vmP lvP) (lvR i).1 0).2.1) (f := evD)).symm
  · have hi3 : i = 3 := by omega
    subst hi3
    subst hn
    obtain ⟨e1, e2⟩ := lv_end
    (refine goR ?_)
    refine Pt.weak (Weak.frzK (fun i => Nat.beq i 2) [(0, .bool false), (2, .ptr 1 0 10 0 0), (3, evs (lvR 3).2)] ⟨View.same _, View.same _, View.slAll (f := false) rfl rfl hem (by simp) (ViewL.same _) (pureL_map (fun _ => rfl) _), trivial⟩) ?_
    (refine goA ?_)
    refine Call.mk ((over53 (lvR 3).1 (by omega)).only _ rfl (by rintro d rfl; rfl)) ?_; rintro d os' ⟨rfl, rfl⟩
    rw [e1, e2]
    (refine goA ?_)
    refine App.only false rfl rfl ?_
    (refine goA ?_)
    refine Call.mk ((same34 [(0, 0, 5), (2, 0, 0)] (by decide)).only _ rfl (by rintro d rfl; rfl)) ?_; rintro d os' ⟨rfl, rfl⟩
    (refine goA ?_)
    refine Ret.mk [.tmp 0] rfl ?_; (refine goA ?_)
    exact ⟨_, .same _, rfl, rfl⟩
end Go.Proofs.YtkceciebmkklpaaGreat.V
end
section
namespace Go.Proofs.YtkceciebmkklpaaGreat.V
open Go Go.Proofs
set_option maxRecDepth 100000
set_option maxHeartbeats 40000000
/-- When nobody is Ready: until the first one is to be woken. -/
def atC (C : Cr) : Int := minS C.th 0 true (ofK C [1])
def idleC (C : Cr) : Cr := if 0 < ((ofK C [1]).length : Int) then (tickC C (atC C - C.now)).1 else C
theorem idle_ci {g : Pg} {C : Cr} (h : CI g C) : CI g (idleC C) := by
  unfold idleC
  split
  · exact tickC_ci h _
  · exact h
theorem minS_kept : ∀ (l : List Int) (L : List Th) (m : Int) (b : Bool), kept2 m → (∀ f ∈ L, kept2 f.on) → kept2 (minS L m b l)
  | [], L, m, b, hm, hL => hm
  | v :: l, L, m, b, hm, hL => by
    have ho : kept2 (onAt L v) := by
      unfold onAt
      rw [List.getD_eq_getElem?_getD]
      cases e : L[v.toNat]? with
      | none => exact ⟨by decide, by decide⟩
      | some f => exact hL f (List.mem_of_getElem? e)
    rw [minS]
    split
    · exact minS_kept l L _ _ ho hL
    · exact minS_kept l L _ _ hm hL
theorem thI_on {g : Pg} {f : Th} (h : ThI g f) : kept2 f.on := by
  rcases h with ⟨h1, _⟩ | h
  · rw [h1]; exact ⟨by show (-1073741824 : Int) ≤ 0; decide, by show (0 : Int) ≤ 1073741824; decide⟩
  · have := h.2.2.2.1
    exact ((keep_id f.on).1 this.symm)
theorem atC_kept {g : Pg} {C : Cr} (h : CI g C) : kept2 (atC C) := minS_kept _ _ _ _ ⟨by decide, by decide⟩ (fun f hf => thI_on (h.th f hf))
theorem idle20 {g : Pg} (hg : GoodP g) {C : Cr} (h : CI g C) (h0 : inS C.th 0 = []) (p : Int) : Spec Tryz.prog 20 [pgD g, coreV C, ints [p], .int .i64 1] [] (fun d os' => d = .tup [coreV (idleC C), evs []] ∧ os' = []) := by
  have h8 := g_th8 hg h.z
  have hnow := h.z.now
  obtain ⟨ha1, ha2⟩ := atC_kept h
  have hN := next50 C (by omega)
  have hT := tick63 (C := C) (by omega) (by omega) (atC C - C.now) (by omega)
  have hI := in19 C 0 (by omega)
  have ha : minS C.th 0 true (ofK C [1]) = atC C := rfl
  rw [ha] at hN
  rw [h0] at hI
  obtain ⟨R, hR⟩ : ∃ R, idleC C = R := ⟨_, rfl⟩
  have hR' := hR
  unfold idleC at hR'
  refine Spec.frz (post' := fun d => d = .tup [coreV (idleC C), evs []]) ?_
  rw [hR]
  refine Spec.by Tryz.func20 rfl (by decide) (by decide +kernel) rfl ?_
  (refine goA ?_)
  refine Loop.inv (A := Nat × Cr) (List.range 77) (fun a => [(2, ints [p]), (3, .int .i64 1), (4, .ptr 0 0 7 0 0), (5, .ptr 1 0 10 0 0), (8, .ptr 2 0 10 0 0), (10, .nils), (11, .int .i64 (a.1 : Int))]) (fun a => [one (.row 26 7 false [pgD g]), one (.row 30 10 false [coreV a.2]), one (.row 30 10 false [z30])]) (fun a => (a.1 = 0 ∧ a.2 = C) ∨ (a.1 = 1 ∧ a.2 = R)) (fun a => 1 - a.1) (0, C) (.inl ⟨rfl, rfl⟩) ?_ ?_
  · exact Weak.start' rfl rfl tld
  rintro ⟨i, D0⟩ hi
  dsimp only at hi ⊢
  refine Or.elim hi ?_ ?_
  · rintro ⟨rfl, rfl⟩
    (refine goA ?_)
    refine Call.mk ((hI).only _ rfl (by rintro d rfl; rfl)) ?_; rintro d os' ⟨rfl, rfl⟩
    (refine goA ?_)
    refine Call.mk ((hN).only _ rfl (by rintro d rfl; rfl)) ?_; rintro d os' ⟨rfl, rfl⟩
    (refine goA ?_)
    refine Br.dec (fun h1 => ?_) (fun h1 => ?_)
    · rw [if_pos h1] at hR'
      (refine goA ?_)
      refine Call.mk ((hT).only _ rfl (by rintro d rfl; rfl)) ?_; rintro d os' ⟨rfl, rfl⟩
      rw [hR']
      (refine goA ?_)
      refine ⟨_, _, _, ?_, ⟨(1, R), ?_, rfl, rfl, rfl⟩, ?_⟩
      · show 1 - 1 < 1 - 0; omega
      · exact .inr ⟨rfl, rfl⟩
      · refine Weak.backT 3 (by simp) (by first | rfl | kernel_rfl) (by kernel_rfl) (Nat.le_of_ble_eq_true rfl) tld (by kernel_rfl) (by kernel_rfl)
    · rw [if_neg h1] at hR'
      (refine goA ?_)
      refine ⟨_, _, _, ?_, ⟨(1, D0), ?_, rfl, rfl, rfl⟩, ?_⟩
      · show 1 - 1 < 1 - 0; omega
      · exact .inr ⟨rfl, hR'⟩
      · refine Weak.backT 3 (by simp) (by first | rfl | kernel_rfl) (by kernel_rfl) (Nat.le_of_ble_eq_true rfl) tld (by kernel_rfl) (by kernel_rfl)
  · rintro ⟨rfl, rfl⟩
    (refine goA ?_)
    refine Ret.mk [.cell 8 30, .tmp 9] rfl ?_; (refine goA ?_)
    exact ⟨_, View.tup (.cons (.same _) (.cons (View.nils _ _) .nil)), rfl, rfl⟩
end Go.Proofs.YtkceciebmkklpaaGreat.V
end
section
namespace Go.Proofs.YtkceciebmkklpaaGreat.V
open Go Go.Proofs
set_option maxRecDepth 100000
set_option maxHeartbeats 4000000
/-! Who stays as it was. -/
def stil (f : Th) : Prop := f.st = 0 ∨ f.st = 1 ∨ f.st = 9
structure Sti (t : Nat) (x y : Xs) : Prop where
  now : y.C.now = x.C.now
  len : y.C.th.length = x.C.th.length
  stay : ∀ k, k ≠ t → stil (thAt x.C k) → thAt y.C k = thAt x.C k
theorem Sti.trans {t : Nat} {x y z : Xs} (h : Sti t x y) (h2 : Sti t y z) : Sti t x z :=
  ⟨h2.now.trans h.now, h2.len.trans h.len, fun k hk hs => by rw [h2.stay k hk (by rw [h.stay k hk hs]; exact hs), h.stay k hk hs]⟩
theorem Sti.tame {t u : Nat} {x y : Xs} (h : Tame u x y) (hu : u = t ∨ ¬ stil (thAt x.C u)) : Sti t x y :=
  ⟨by rw [h.rest], h.len, fun k hk hs => h.stay k (by
    rintro rfl
    rcases hu with hu | hu
    · exact hk hu
    · exact hu hs) (by rcases hs with hs | hs | hs <;> omega)⟩
theorem sti_inC {t : Nat} {x : Xs} {C' : Cr} (h : C'.th = x.C.th) (hn : C'.now = x.C.now) : Sti t x (inC x C') := ⟨hn, by show C'.th.length = _; rw [h], fun k _ _ => thAt_th h k⟩
theorem sti_rest {t u : Nat} {x : Xs} {st on : Int} (hu : u = t ∨ ¬ stil (thAt x.C u)) : Sti t x (restX x u st on) := ⟨rfl, rest_len _ _ _ _, fun k hk hs => thAt_ne (by
    rintro rfl
    rcases hu with hu | hu
    · exact hk hu
    · exact hu hs)⟩
theorem not_stil {f : Th} (h : 3 ≤ f.st ∧ f.st ≤ 8) : ¬ stil f := fun hs => by rcases hs with hs | hs | hs <;> omega
theorem sti_wake {t : Nat} {x : Xs} {u : Int} (hu : TSt x u) (l : List Int) : Sti t x (wakeF x u l) := by
  unfold wakeF
  split
  · exact ⟨rfl, rfl, fun _ _ _ => rfl⟩
  · exact Sti.tame (wake_tame (end_tame FU) x u.toNat l) (.inr (not_stil (hu (by omega))))
theorem sti_end {t : Nat} {x : Xs} (c : Int) : Sti t x (endF x t c) := Sti.tame (end_tame FU x t c) (.inl rfl)
theorem sti_tell {t : Nat} {x : Xs} (h0 : (thAt x.C t).st = 0) (l : List Int) : Sti t x (tellF x t l) := Sti.tame (tell_tame (end_tame FU) x t l (fun _ => h0)) (.inl rfl)
theorem sti_moved {t : Nat} {x : Xs} {u m : Int} {has : Bool} (hu : TSt x u) (h0 : 0 ≤ u) : Sti t x (movedX x u m has) := by
  unfold movedX
  split
  · exact sti_wake hu []
  · exact sti_rest (.inr (not_stil (hu h0)))
theorem sti_moves {t : Nat} (m got : Int) : ∀ (l : List Int) (x : Xs), l.Nodup → (∀ v ∈ l, 0 ≤ v ∧ (thAt x.C v.toNat).st = 4) → Sti t x (l.foldl (movedL m got) x)
  | [], x, _, _ => ⟨rfl, rfl, fun _ _ _ => rfl⟩
  | v :: l, x, hd, hs => by
    obtain ⟨hv, hv4⟩ := hs v List.mem_cons_self
    have hd' := List.nodup_cons.1 hd
    rw [List.foldl_cons]
    refine Sti.trans (sti_moved (u := v) (m := m) (has := decide (v = got)) (fun _ => by omega) hv) (sti_moves m got l _ hd'.2 (fun w hw => ?_))
    obtain ⟨hw0, hw4⟩ := hs w (List.mem_cons_of_mem _ hw)
    refine ⟨hw0, ?_⟩
    have hne : ((w.toNat : Nat) : Int) ≠ v := by
      intro e
      have : w = v := by omega
      exact hd'.1 (this ▸ hw)
    rw [movedX_stay hne hv (by omega)]
    exact hw4
theorem sendC_now (C : Cr) (c : Nat) (room t v : Int) : (sendC C c room t v).1.now = C.now := by
  unfold sendC
  split
  · rfl
  · split <;> rfl
theorem selC_now (C : Cr) (l : List Int) (t : Int) : (selC C l t).1.now = C.now := by
  unfold selC
  split <;> rfl
theorem taken_sti {t : Nat} {x : Xs} {C' : Cr} (h : C'.th = x.C.th) (hn : C'.now = x.C.now) (h0 : (thAt x.C t).st = 0) {v : Int} (hv : TSt x v) (l l' : List Int) : Sti t x (wakeF (tellF (inC x C') t l) v l') := by
  have e : ∀ k, thAt (inC x C').C k = thAt x.C k := fun k => thAt_th h k
  refine (sti_inC (t := t) h hn).trans ((sti_tell (by rw [e]; exact h0) l).trans (sti_wake (fun hv0 => ?_) l'))
  have h1 := hv hv0
  have hne : v.toNat ≠ t := by intro e; rw [e] at h1; omega
  rw [tellF_stay (by rw [e]; exact h0) hne (by rw [e]; omega), e]
  exact h1
structure StiS (t : Nat) (x y : Xs) : Prop where
  now : y.C.now = x.C.now
  len : x.C.th.length ≤ y.C.th.length ∧ y.C.th.length ≤ x.C.th.length + 1
  stay : ∀ k, k < x.C.th.length → k ≠ t → stil (thAt x.C k) → thAt y.C k = thAt x.C k
theorem Sti.s {t : Nat} {x y : Xs} (h : Sti t x y) : StiS t x y := ⟨h.now, by rw [h.len]; omega, fun k _ h1 h2 => h.stay k h1 h2⟩
theorem meet_sti {g : Pg} (hg : GoodP g) {t : Nat} {x : Xs} (h : MI g t x) {q : Rq} (hq : RqOk g q) (h0 : q.kd ≠ 1 → (thAt x.C t).st = 0) : StiS t x (meetX g x t q) := by
  have ht := h.tl
  have he := h.eo hg
  have hz := h.z.L
  obtain ⟨kd, a, v⟩ := q
  obtain ⟨q1, q2, q3, q4, q5, q6, q7, q8⟩ := hq
  dsimp only at q1 q2 q3 q4 q5 q6 q7 q8 h0
  have hid : Sti t x x := ⟨rfl, rfl, fun _ _ _ => rfl⟩
  have hL : ∀ S : Lk, Sti t x (inL x S) := fun S => sti_inC (C' := { x.C with L := S }) rfl rfl
  have hc : kd = 0 ∨ kd = 1 ∨ kd = 2 ∨ kd = 3 ∨ kd = 4 ∨ kd = 5 ∨ kd = 6 ∨ kd = 7 ∨ kd = 8 ∨ kd = 9 ∨ kd = 10 ∨ kd = 11 ∨ kd = 12 ∨ kd = 13 ∨ kd = 14 ∨ kd = 15 ∨ kd = 16 := by omega
  rcases hc with rfl | rfl | rfl | rfl | rfl | rfl | rfl | rfl | rfl | rfl | rfl | rfl | rfl | rfl | rfl | rfl | rfl
  · exact hid.s
  · exact (sti_end v).s
  · exact hid.s
  · show StiS t x (spawnX g x t a)
    have h00 := h0 (by decide)
    unfold spawnX
    split
    · have hh := sti_tell (x := seeX x 1 t (-1)) (t := t) h00 [-1]
      exact Sti.s (x := x) ⟨hh.now, hh.len, hh.stay⟩
    · have htt : thAt { x.C with th := x.C.th ++ [newT g a] } t = thAt x.C t := by rw [thAt_app, if_neg (by omega)]
      obtain ⟨y, hy⟩ : ∃ y : Xs, { seeX { x with C := { x.C with th := x.C.th ++ [newT g a] } } 1 t x.C.th.length with wk := x.wk ++ [(x.C.th.length : Int)], wp := x.wp ++ [(x.C.th.length : Int)] } = y := ⟨_, rfl⟩
      have hyC : y.C = { x.C with th := x.C.th ++ [newT g a] } := by rw [← hy]; rfl
      rw [hy]
      have hs := sti_tell (x := y) (t := t) (by rw [hyC, htt]; exact h00) [(x.C.th.length : Int)]
      have hl : y.C.th.length = x.C.th.length + 1 := by rw [hyC]; show (x.C.th ++ [_]).length = _; rw [List.length_append]; rfl
      refine ⟨by rw [hs.now, hyC], by rw [hs.len, hl]; omega, fun k hk hkt hst => ?_⟩
      have ek : thAt y.C k = thAt x.C k := by rw [hyC, thAt_app, if_neg (by omega)]
      rw [hs.stay k hkt (by rw [ek]; exact hst), ek]
  · show StiS t x (sleepX x t v)
    unfold sleepX
    split
    · exact (sti_rest (.inl rfl)).s
    · exact hid.s
  · show StiS t x (joinX x t v)
    unfold joinX
    split
    · exact (sti_end 5).s
    · split
      · exact (sti_tell (h0 (by decide)) _).s
      · exact (sti_rest (.inl rfl)).s
  · show StiS t x (lockX x t a)
    unfold lockX
    dsimp only
    split
    · exact (hL _).s
    · exact ((hL _).trans (sti_rest (.inl rfl))).s
  · show StiS t x (unlockX x t a)
    unfold unlockX
    dsimp only
    split
    · exact ((hL _).trans (sti_wake ((unlock_ts h a.toNat t).inL (unlockS x.C.L a.toNat t).1) [])).s
    · exact (sti_end 4).s
  · show StiS t x (waitX g x t a)
    unfold waitX
    dsimp only
    split
    · exact ((hL _).trans ((sti_wake ((wait_ts h a.toNat (g.co.getD a.toNat 0).toNat t).inL (waitS x.C.L a.toNat (g.co.getD a.toNat 0).toNat t).1) []).trans (sti_rest (.inl rfl)))).s
    · exact (sti_end 4).s
  · show StiS t x (signalX g x a)
    unfold signalX
    dsimp only
    split
    · exact hid.s
    · rename_i hn
      exact ((hL _).trans (sti_moved ((signal_ts h a.toNat (g.co.getD a.toNat 0).toNat).inL (signalS x.C.L a.toNat (g.co.getD a.toNat 0).toNat).1) (by omega))).s
  · have := q5 (.inr (.inr rfl))
    have hco := hg.co _ (getD_mem (l := g.co) (e := a.toNat) (by omega))
    have hall := broad_all he.L he.N (c := a.toNat) (m := (g.co.getD a.toNat 0).toNat) (by show a.toNat < g.co.length; omega) (by show (g.co.getD a.toNat 0).toNat < g.mu.toNat; omega)
    show StiS t x (broadX g x a)
    unfold broadX
    dsimp only
    rw [hall]
    refine ((hL _).trans (sti_moves _ _ _ _ (nodup_wq h _) (fun v hv => ?_))).s
    obtain ⟨h1, h2⟩ := row_st h (r := 1) (by omega) (k := a.toNat) (v := v) hv
    refine ⟨h1, ?_⟩
    show (thAt x.C v.toNat).st = 4
    omega
  · show StiS t x (downX x t a)
    unfold downX
    dsimp only
    split
    · exact (hL _).s
    · exact ((hL _).trans (sti_rest (.inl rfl))).s
  · show StiS t x (upX x a)
    unfold upX
    dsimp only
    exact ((hL _).trans (sti_wake ((up_ts h a.toNat).inL (upS x.C.L a.toNat).1) [])).s
  · show StiS t x (sendX g x t a v)
    have hs := (send_ts h a.toNat (g.ch.getD a.toNat 0) (t : Int) v).inC (sendC_th x.C a.toNat (g.ch.getD a.toNat 0) (t : Int) v).1
    have hi : Sti t x (inC x (sendC x.C a.toNat (g.ch.getD a.toNat 0) (t : Int) v).1) := sti_inC (sendC_th x.C a.toNat (g.ch.getD a.toNat 0) (t : Int) v).1 (sendC_now ..)
    unfold sendX
    dsimp only
    split
    · exact (hi.trans (sti_rest (.inl rfl))).s
    · split
      · exact hi.s
      · split
        · exact (hi.trans (sti_wake hs _)).s
        · exact (hi.trans (sti_wake hs _)).s
  · show StiS t x (recvX x t a)
    unfold recvX
    dsimp only
    split
    · exact ((sti_inC (selC_th x.C [a] (t : Int)).1 (selC_now ..)).trans (sti_rest (.inl rfl))).s
    · exact (taken_sti (selC_th x.C [a] (t : Int)).1 (selC_now ..) (h0 (by decide)) (sel_ts h [a] (t : Int)) _ _).s
  · show StiS t x (chooseX g x t a)
    unfold chooseX
    dsimp only
    split
    · exact ((sti_inC (selC_th x.C (qAt g.cs a.toNat) (t : Int)).1 (selC_now ..)).trans (sti_rest (.inl rfl))).s
    · exact (taken_sti (selC_th x.C (qAt g.cs a.toNat) (t : Int)).1 (selC_now ..) (h0 (by decide)) (sel_ts h (qAt g.cs a.toNat) (t : Int)) _ _).s
  · exact (show Sti t x (seeX x 0 t v) from ⟨rfl, rfl, fun _ _ _ => rfl⟩).s
/-- A step leaves all others that do not wait. -/
theorem step_sti {g : Pg} (hg : GoodP g) {C : Cr} (h : CI g C) {t : Nat} (ht : t < C.th.length) (h0 : (thAt C t).st = 0) : (stepC g C t).2.2.2 = 0 ∧ (stepC g C t).1.now = C.now ∧ (C.th.length ≤ (stepC g C t).1.th.length ∧ (stepC g C t).1.th.length ≤ C.th.length + 1) ∧ ∀ k, k < C.th.length → k ≠ t → stil (thAt C k) → thAt (stepC g C t).1 k = thAt C k := by
  obtain ⟨b1, b2, b3, b4⟩ := beg_all hg h ht h0
  have hs := meet_sti hg b1 (rq_ok hg (thI_ready (h.at t) h0)) b2
  unfold stepC
  rw [if_neg (by omega), Int.toNat_natCast, if_neg (fun hn => hn h0)]
  dsimp only
  have hl : (begX g C t).C.th.length = C.th.length := putT_len _ _ _
  have hk : ∀ k, k ≠ t → thAt (begX g C t).C k = thAt C k := fun k hk => thAt_ne hk
  refine ⟨rfl, hs.now, by have := hs.len; rw [hl] at this; exact this, fun k h1 h2 h3 => ?_⟩
  rw [hs.stay k (by rw [hl]; exact h1) h2 (by rw [hk k h2]; exact h3), hk k h2]
end Go.Proofs.YtkceciebmkklpaaGreat.V
end
section
namespace Go.Proofs.YtkceciebmkklpaaGreat.V
open Go Go.RowKit Go.ChangeShapes Go.WideShapes

/-- Whatever reads as data of type t is told by a D; J: what else is known of it. -/
def Opens {α : Type} (P : Program) (t : TypeId) (enc : α → D) (J : α → Prop) : Prop :=
  ∀ {H : Type} (en : TypeId × Value → H) (w : World) (base : Nat) (sp : Nat → Bool) (held : Bool) (fuel : Nat) (cs : List Value) (x : DataW H × List MemPlace),
    DataW.trod en P w base sp held fuel t cs = some x → (x.1.weights P t).all (· ≤ reachBytes) = true →
    ∃ a v, rep bot (heapIm w) (enc a) v ∧ enc a ≠ .junk ∧ v.cells.toList = cs ∧ (∀ c ∈ cs, c.oneCell' = true) ∧ J a
theorem opens_int {P : Program} {t : TypeId} (ht : P.underlying t = some (.int .i64)) : Opens P t (D.int .i64) (fun n => -9223372036854775808 ≤ n ∧ n ≤ 9223372036854775807) := fun en w base sp held fuel cs x h _ => by
  obtain ⟨n, rfl, rfl, hw⟩ := DataW.trod_int ht h
  refine ⟨n, .int .i64 n, by rw [rep], by simp, rfl, by simp [Value.oneCell'], ?_⟩
  simp [Lit.wf, IntKind.min, IntKind.max, IntKind.signed, IntKind.bits] at hw
  omega
theorem exists_list {α : Type} (n : Nat) (Q : Nat → α → Prop) (h : ∀ i, i < n → ∃ a, Q i a) : ∃ xs : List α, xs.length = n ∧ ∀ i a, xs[i]? = some a → Q i a := by
  induction n with
  | zero => exact ⟨[], rfl, fun i a hi => by simp at hi⟩
  | succ n ih =>
    obtain ⟨xs, hl, hx⟩ := ih (fun i hi => h i (by omega))
    obtain ⟨a, ha⟩ := h n (by omega)
    refine ⟨xs ++ [a], by simp [hl], fun i b hi => ?_⟩
    by_cases hlt : i < n
    · rw [List.getElem?_append_left (by omega)] at hi; exact hx i b hi
    · have hle : i = n := by
        have := (List.getElem?_eq_some_iff.1 hi).1
        simp at this; omega
      subst hle
      rw [List.getElem?_append_right (by omega), hl] at hi
      simp at hi
      exact hi ▸ ha
theorem weights_at {H : Type} {P : Program} {e : TypeId} : ∀ {l : List (DataW H)} {d : DataW H}, d ∈ l → (DataW.weightsAll P e l).all (· ≤ reachBytes) = true → (d.weights P e).all (· ≤ reachBytes) = true
  | y :: r, d, hd, h => by
    rw [DataW.weightsAll, List.all_append, Bool.and_eq_true] at h
    rcases List.mem_cons.1 hd with rfl | hd
    · exact h.1
    · exact weights_at hd h.2
theorem repL_of {ρ : Pl} {I : Im} : ∀ (ds : List D) (vs : List Value), ds.length = vs.length → (∀ (i : Nat) d v, ds[i]? = some d → vs[i]? = some v → rep ρ I d v) → repL ρ I ds vs
  | [], [], _, _ => repL_nil.2 rfl
  | [], _ :: _, h, _ => by simp at h
  | _ :: _, [], h, _ => by simp at h
  | d :: ds, v :: vs, hl, h => repL_cons.2 ⟨v, vs, rfl, h 0 d v rfl rfl, repL_of ds vs (by simpa using hl) (fun i d' v' h1 h2 => h (i + 1) d' v' (by simpa using h1) (by simpa using h2))⟩
/-- The cells of a row of values, each of sz. -/
theorem flat_get {sz : Nat} : ∀ {us : List Value}, (∀ u ∈ us, u.cells.size = sz) → ∀ {j : Nat} {c : Value}, (flat us)[j]? = some c → ∃ u, us[j / sz]? = some u ∧ u.cells.toList[j % sz]? = some c ∧ 0 < sz
  | [], _, j, c, h => by simp [flat] at h
  | u :: us, hu, j, c, h => by
    rw [flat_cons] at h
    have hs : u.cells.toList.length = sz := by simpa using hu u (by simp)
    by_cases hj : j < sz
    · rw [List.getElem?_append_left (by omega)] at h
      exact ⟨u, by rw [Nat.div_eq_of_lt hj]; rfl, by rw [Nat.mod_eq_of_lt hj]; exact h, by omega⟩
    · rw [List.getElem?_append_right (by omega), hs] at h
      obtain ⟨u', h1, h2, h3⟩ := flat_get (fun u hu' => hu u (List.mem_cons_of_mem _ hu')) h
      refine ⟨u', ?_, ?_, h3⟩
      · rw [show j / sz = (j - sz) / sz + 1 by
          rw [show j = (j - sz) + sz by omega, Nat.add_div_right _ h3]; simp]
        simpa using h1
      · rw [← h2]; congr 1
        conv => lhs; rw [show j = (j - sz) + sz by omega]
        simp
theorem prefix_of {cs l : List Value} (h : ∀ (j : Nat) c, cs[j]? = some c → l[j]? = some c) : cs <+: l := by
  have hl : cs.length ≤ l.length := by
    rcases Nat.eq_zero_or_pos cs.length with h0 | h0
    · omega
    · have := h (cs.length - 1) _ (List.getElem?_eq_getElem (by omega))
      have := (List.getElem?_eq_some_iff.1 this).1
      omega
  have : cs = l.take cs.length := by
    apply List.ext_getElem?
    intro j
    by_cases hj : j < cs.length
    · rw [List.getElem?_take, if_pos hj, h j _ (List.getElem?_eq_getElem hj), List.getElem?_eq_getElem hj]
    · rw [List.getElem?_eq_none (by omega), List.getElem?_take, if_neg hj]
  rw [this]; exact List.take_prefix _ _
theorem opens_slice {α : Type} {P : Program} {t e : TypeId} {enc : α → D} {J : α → Prop} {sz : Nat} (ht : P.underlying t = some (.slice e)) (he : Opens P e enc J) (hsz : P.cellsOf e = sz) (h0 : 0 < sz) :
    Opens P t (fun xs : List α => D.lst sz false (xs.map enc)) (fun xs => xs.length ≤ maxLen ∧ xs.length * P.bytesOf e ≤ 140737488351232 ∧ ∀ x ∈ xs, J x) := fun en w base sp held fuel cs x h hwt => by
  rcases DataW.trod_slice ht h with ⟨rfl, rfl⟩ | ⟨a, len, cap, elems, rest, n, rfl, rfl, rfl, hb, hl, hm, hlen, hel, _, _⟩
  · refine ⟨[], .slice none 0 0, ?_, by simp, rfl, by simp [Value.oneCell'], by simp [maxLen], by simp, by simp⟩
    rw [rep]
    exact ⟨none, 0, [], rfl, by simp, by simp [maxLen], by simp, repL_nil.2 rfl, by simp, .inl rfl⟩
  · rw [DataW.weights, ht] at hwt
    simp only [List.all_cons, List.all_append, Bool.and_eq_true, decide_eq_true_eq, List.length_map] at hwt
    obtain ⟨hw0, hw1, _⟩ := hwt
    obtain ⟨xs, hxl, hx⟩ := exists_list len (fun i (p : α × Value) => rep bot (heapIm w) (enc p.1) p.2 ∧ Value.fine p.2 sz ∧ J p.1 ∧ ∀ k c, p.2.cells.toList[k]? = some c → w.cell? (a.add (i * sz + k)) = some c) (fun i hi => by
      have hE := hel i hi
      have hi2 : i < elems.length := by omega
      rw [List.getElem?_eq_getElem hi2, Option.bind_eq_some_iff] at hE
      obtain ⟨c, hc, hy⟩ := hE
      obtain ⟨p, v, h1, h2, h3, h4, h5⟩ := he en w base sp held n c _ hy (weights_at (l := elems.map (·.1)) (List.mem_map.2 ⟨_, List.getElem_mem hi2, rfl⟩) hw1)
      obtain ⟨_, hcl, hcc⟩ := World.cells?_some hc
      rw [hsz] at hcl hcc
      refine ⟨(p, v), h1, ⟨by simpa [← h3] using hcl, fun c hc => h4 c (by rw [← h3]; exact hc)⟩, h5, fun k u hk => ?_⟩
      rw [h3] at hk
      have hkl : k < sz := by have := (List.getElem?_eq_some_iff.1 hk).1; omega
      have := (hcc k hkl).trans hk
      rw [← this]
      congr 1
      unfold Addr.add
      by_cases hm : i * sz = 0 <;> by_cases hn : k = 0 <;> simp [hm, hn, Nat.add_assoc])
    have hfine : ∀ u ∈ xs.map (·.2), Value.fine u sz := by
      intro u hu
      obtain ⟨p, hp, rfl⟩ := List.mem_map.1 hu
      obtain ⟨j, hj⟩ := List.getElem?_of_mem hp
      exact (hx j p hj).2.1
    refine ⟨xs.map (·.1), .slice (some a) len cap, ?_, by simp, rfl, by simp [Value.oneCell'], ?_, ?_, ?_⟩
    · rw [rep]
      refine ⟨some a, cap, xs.map (·.2), by simp [hxl], by simpa [hxl] using hl, hm, by simp, repL_of _ _ (by simp) ?_, hfine, ?_⟩
      · intro i d v h1 h2
        rw [List.map_map, List.getElem?_map, Option.map_eq_some_iff] at h1
        rw [List.getElem?_map, Option.map_eq_some_iff] at h2
        obtain ⟨p, hp, rfl⟩ := h1
        obtain ⟨q, hq, rfl⟩ := h2
        have : p = q := Option.some.inj (hp.symm.trans hq)
        subst this
        exact (hx i p hp).1
      · rcases Nat.eq_zero_or_pos len with hz | hz
        · left; rw [List.eq_nil_of_length_eq_zero (l := xs) (by omega)]; rfl
        · right
          have hcell : ∀ j c, (flat (xs.map (·.2)))[j]? = some c → w.cell? (a.add j) = some c := by
            intro j c hj
            obtain ⟨u, h1, h2, h3⟩ := flat_get (fun u hu => (hfine u hu).1) hj
            rw [List.getElem?_map, Option.map_eq_some_iff] at h1
            obtain ⟨p, hp, rfl⟩ := h1
            have := (hx _ p hp).2.2.2 _ c h2
            rwa [Nat.mul_comm, Nat.div_add_mod] at this
          have hfl : (flat (xs.map (·.2))).length = len * sz := by rw [flat_length (fun u hu => (hfine u hu).1)]; simp [hxl]
          have h00 := hcell 0 _ (List.getElem?_eq_getElem (by rw [hfl]; exact Nat.mul_pos hz h0))
          have ha0 : a.add 0 = a := by simp [Addr.add]
          rw [ha0] at h00
          obtain ⟨b, o, spt⟩ := a
          unfold World.cell? at h00
          split at h00
          case h_2 => simp at h00
          rename_i arr t' fz hblk
          have hsp : spt = none := by cases spt with | none => rfl | some k => simp at h00
          subst hsp
          refine ⟨b, o, arr, t', fz, rfl, hblk, prefix_of fun j c hj => ?_⟩
          have := hcell j c hj
          have ea : Addr.add ⟨b, o, none⟩ j = ⟨b, o + j, none⟩ := by unfold Addr.add; by_cases hj0 : j = 0 <;> simp [hj0]
          rw [ea] at this
          unfold World.cell? at this
          have hblk' : w.heap[b]? = some (.cells arr t' fz) := hblk
          rw [hblk'] at this
          simp at this
          rw [List.getElem?_drop, Array.getElem?_toList]; exact this
    · have hmm : maxLen = 9223372036854775807 := by decide
      simp only [List.length_map, hxl]; omega
    · have hle : (xs.map (·.1)).length ≤ elems.length + rest.length := by simp [hxl]; omega
      refine Nat.le_trans (Nat.mul_le_mul_right _ hle) (Nat.le_trans hw0 ?_)
      decide
    · intro p hp
      obtain ⟨q, hq, rfl⟩ := List.mem_map.1 hp
      obtain ⟨j, hj⟩ := List.getElem?_of_mem hq
      exact (hx j q hj).2.2.1

/-- The fields of a struct, one behind the other. -/
def Fits {H : Type} (en : TypeId × Value → H) (P : Program) (w : World) (base : Nat) (sp : Nat → Bool) (held : Bool) (fuel : Nat) : List TypeId → List Value → List (DataW H × List MemPlace) → Prop
  | [], cs, ys => cs = [] ∧ ys = []
  | t :: ts, cs, ys => ∃ y ys', ys = y :: ys' ∧ P.cellsOf t ≤ cs.length ∧ DataW.trod en P w base sp held fuel t (cs.take (P.cellsOf t)) = some y ∧ Fits en P w base sp held fuel ts (cs.drop (P.cellsOf t)) ys'
def OpensL {α : Type} (P : Program) (ts : List TypeId) (enc : α → List D) (J : α → Prop) : Prop :=
  ∀ {H : Type} (en : TypeId × Value → H) (w : World) (base : Nat) (sp : Nat → Bool) (held : Bool) (fuel : Nat) (cs : List Value) (ys : List (DataW H × List MemPlace)),
    Fits en P w base sp held fuel ts cs ys → (DataW.weightsEach P ts (ys.map (·.1))).all (· ≤ reachBytes) = true → ∃ a, repL bot (heapIm w) (enc a) cs ∧ (∀ c ∈ cs, c.oneCell' = true) ∧ J a
theorem opensL_one {α : Type} {P : Program} {t : TypeId} {enc : α → D} {J : α → Prop} (h : Opens P t enc J) : OpensL P [t] (fun a => (enc a).cells) J := fun en w base sp held fuel cs ys hf hw => by
  obtain ⟨y, ys', rfl, hle, hy, h0, rfl⟩ := hf
  have he : cs.take (P.cellsOf t) = cs := by
    apply List.take_of_length_le
    have := congrArg List.length h0
    simp at this; omega
  rw [he] at hy
  obtain ⟨a, v, h1, h2, h3, h4, h5⟩ := h en w base sp held fuel cs y hy (by simpa [DataW.weightsEach] using hw)
  exact ⟨a, by rw [← h3]; exact rep_cells h2 h1, h4, h5⟩
theorem opensL_cons {α β : Type} {P : Program} {t : TypeId} {ts : List TypeId} {enc : α → D} {enc' : β → List D} {J : α → Prop} {J' : β → Prop} (h : Opens P t enc J) (h' : OpensL P ts enc' J') :
    OpensL P (t :: ts) (fun x : α × β => (enc x.1).cells ++ enc' x.2) (fun x => J x.1 ∧ J' x.2) := fun en w base sp held fuel cs ys hf hw => by
  obtain ⟨y, ys', rfl, hle, hy, hr⟩ := hf
  simp only [List.map_cons, DataW.weightsEach, List.all_append, Bool.and_eq_true] at hw
  obtain ⟨a, v, h1, h2, h3, h4, h5⟩ := h en w base sp held fuel _ _ hy hw.1
  obtain ⟨b, k1, k2, k3⟩ := h' en w base sp held fuel _ _ hr hw.2
  refine ⟨(a, b), ?_, ?_, h5, k3⟩
  · rw [← List.take_append_drop (P.cellsOf t) cs]
    exact repL_append (by rw [← h3]; exact rep_cells h2 h1) k1
  · intro c hc
    rw [← List.take_append_drop (P.cellsOf t) cs] at hc
    exact (List.mem_append.1 hc).elim (h4 c) (k2 c)
/-- The fields lie one behind the other, from o on. -/
def rowed (P : Program) : Nat → List Field → Nat → Bool
  | o, [], n => o == n
  | o, f :: fs, n => f.offset == o && rowed P (o + P.cellsOf f.type) fs n
theorem rowed_le {P : Program} {n : Nat} : ∀ (gs : List Field) (o : Nat), rowed P o gs n = true → o ≤ n
  | [], o, h => by simp only [rowed, beq_iff_eq] at h; omega
  | g :: gs, o, h => by simp only [rowed, Bool.and_eq_true, beq_iff_eq] at h; have := rowed_le gs _ h.2; omega
theorem fits_of {H : Type} {en : TypeId × Value → H} {P : Program} {w : World} {base : Nat} {sp : Nat → Bool} {held : Bool} {fuel : Nat} {n : Nat} : ∀ (fs : List Field) (o : Nat) (cs0 cs : List Value) (ys : List (DataW H × List MemPlace)),
    rowed P o fs n = true → cs0.length = n → cs = cs0.drop o → ys.length = fs.length → (∀ (i : Nat) (f : Field), fs[i]? = some f → DataW.trod en P w base sp held fuel f.type ((cs0.drop f.offset).take (P.cellsOf f.type)) = ys[i]?) → Fits en P w base sp held fuel (fs.map (·.type)) cs ys
  | [], o, cs0, cs, ys, hr, hn, hc, hl, _ => by
    simp only [rowed, beq_iff_eq] at hr
    refine ⟨?_, List.length_eq_zero_iff.1 hl⟩
    rw [hc, hr, ← hn, List.drop_length]
  | f :: fs, o, cs0, cs, ys, hr, hn, hc, hl, h => by
    simp only [rowed, Bool.and_eq_true, beq_iff_eq] at hr
    obtain ⟨ho, hr⟩ := hr
    cases ys with
    | nil => simp at hl
    | cons y ys =>
      have h0 := h 0 f rfl
      simp only [List.getElem?_cons_zero] at h0
      have hle1 := rowed_le fs _ hr
      refine ⟨y, ys, rfl, ?_, ?_, fits_of fs (o + P.cellsOf f.type) cs0 _ ys hr hn ?_ (by simpa using hl) (fun i g hg => by simpa using h (i + 1) g (by simpa using hg))⟩
      · show P.cellsOf f.type ≤ cs.length
        rw [hc, List.length_drop]; omega
      · rw [hc, ← ho]; exact h0
      · rw [hc, List.drop_drop]
theorem opens_struct {α : Type} {P : Program} {t : TypeId} {fs : Array Field} {enc : α → List D} {J : α → Prop} (ht : P.underlying t = some (.struct fs)) (hr : rowed P 0 fs.toList (P.cellsOf t) = true) (h : OpensL P (fs.toList.map (·.type)) enc J) :
    Opens P t (fun a => .agg (enc a)) J := fun en w base sp held fuel cs x hx hw => by
  obtain ⟨xs, n, rfl, rfl, hl, hlen, hf⟩ := DataW.trod_struct ht hx
  obtain ⟨a, h1, h2, h3⟩ := h en w base sp held n cs xs (fits_of fs.toList 0 cs cs xs hr hl (by simp) (by simpa using hlen) (fun i f hi => hf i f (by simpa using hi))) (by rw [DataW.weights, ht] at hw; exact hw)
  exact ⟨a, .agg cs.toArray, by rw [rep]; exact ⟨_, rfl, by simpa using h1⟩, by simp, by simp [Value.cells], h2, h3⟩
theorem opens_iso {α β : Type} {P : Program} {t : TypeId} {enc : α → D} {enc' : β → D} {J : α → Prop} {J' : β → Prop} (h : Opens P t enc J) (g : α → β) (he : ∀ a, enc' (g a) = enc a) (hJ : ∀ a, J a → J' (g a)) : Opens P t enc' J' := fun en w base sp held fuel cs x hx hw => by
  obtain ⟨a, v, h1, h2, h3, h4, h5⟩ := h en w base sp held fuel cs x hx hw
  exact ⟨g a, v, by rw [he]; exact h1, by rw [he]; exact h2, h3, h4, hJ a h5⟩

/-! ### A row of parameters -/
def OpensA {α : Type} (P : Program) (ts : List TypeId) (enc : α → List D) (J : α → Prop) : Prop :=
  ∀ {H : Type} (en : TypeId × Value → H) (w : World) (base : Nat) (sp : Nat → Bool) (held : Bool) (r : Reach) (b0 : Nat) (args : List Value) (ds : List (DataW H)) (ps : List MemPlace),
    DataW.TrodAll en P w base sp held ts args ds ps → (∀ (j : Nat) t v, ts[j]? = some t → args[j]? = some v → Value.okWide P w r b0 t v) → (DataW.weightsEach P ts ds).all (· ≤ reachBytes) = true → ∃ a, repL bot (heapIm w) (enc a) args ∧ J a
theorem opensA_nil {P : Program} : OpensA P [] (fun _ : Unit => []) (fun _ => True) := fun en w base sp held r b0 args ds ps h _ _ => by
  obtain ⟨rfl, _⟩ := trodAll_nil h
  exact ⟨(), repL_nil.2 rfl, trivial⟩
/-- A type whose values are one kind: of one cell, or of cells in a row. -/
def kindly (P : Program) (t : TypeId) : Option Bool :=
  match P.underlying t with
  | some (.struct _) => some true
  | some (.int _) | some .bool | some (.slice _) | some .string => some false
  | _ => none
theorem okWide_kindly {P : Program} {w : World} {r : Reach} {b0 : Nat} {t : TypeId} {b : Bool} (hk : kindly P t = some b) {v u : Value} (h : Value.okWide P w r b0 t v) (hc : v.cells.toList = u.cells.toList) (hu : (∃ cs, u = .agg cs) ↔ b = true) : u = v := by
  have hc' : v.cells = u.cells := Array.ext' hc
  cases b
  · have hv : ¬ ∃ cs, v = .agg cs := by
      unfold kindly at hk
      split at hk <;> simp at hk
      · rename_i ht; obtain ⟨n, rfl⟩ := okWide_int ht h; simp
      · rename_i ht; obtain ⟨n, rfl⟩ := okWide_bool ht h; simp
      · rename_i ht; obtain ⟨a, l, c, rfl⟩ := okWide_slice ht h; simp
      · rename_i ht; obtain ⟨n, rfl⟩ := okWide_string ht h; simp
    have hu' : ¬ ∃ cs, u = .agg cs := fun h => by simpa using hu.1 h
    have e1 : ∀ x : Value, (¬ ∃ cs, x = .agg cs) → x.cells = #[x] := by
      intro x hx
      cases x <;> first | rfl | exact absurd ⟨_, rfl⟩ hx
    rw [e1 v hv, e1 u hu'] at hc'
    have := congrArg Array.toList hc'
    simpa using this.symm
  · obtain ⟨cs, rfl⟩ := hu.2 rfl
    obtain ⟨cs', rfl⟩ : ∃ cs, v = .agg cs := by
      unfold kindly at hk
      split at hk <;> simp at hk
      rename_i ht
      unfold Value.okWide at h
      rw [ht] at h
      obtain ⟨cs, hcs, _⟩ := h
      exact ⟨cs, hcs⟩
    simp only [Value.cells] at hc'
    rw [hc']
def D.isAgg : D → Bool | .agg _ => true | _ => false
theorem rep_agg {ρ : Pl} {I : Im} {d : D} {v : Value} (hj : d ≠ .junk) (h : rep ρ I d v) : (∃ cs, v = .agg cs) ↔ d.isAgg = true := by
  cases d <;> simp only [D.isAgg] <;> rw [rep] at h
  case agg cs => obtain ⟨arr, rfl, h⟩ := h; simp
  case junk => exact absurd rfl hj
  case int => subst h; simp
  case bool => subst h; simp
  case str => subst h; simp
  case nilp => subst h; simp
  case ptr => obtain ⟨p, _, _, rfl⟩ := h; simp
  case pel => obtain ⟨b, o, arr, t, fz, u, rfl, _⟩ := h; simp
  case nils => subst h; simp
  case lst => obtain ⟨A, c, us, rfl, _⟩ := h; simp
  case sl => obtain ⟨p, A, c, _, rfl, _⟩ := h; simp
  case tup => obtain ⟨arr, rfl, h⟩ := h; simp
  case fn => obtain ⟨x, y, rfl, _⟩ := h; simp
  case nilf => subst h; simp
  case mp => obtain ⟨p, _, _, rfl⟩ := h; simp
  case yl => obtain ⟨p, _, _, rfl⟩ := h; simp
theorem opensA_cons {α β : Type} {P : Program} {t : TypeId} {ts : List TypeId} {enc : α → D} {enc' : β → List D} {J : α → Prop} {J' : β → Prop} {b : Bool} (hk : kindly P t = some b) (hb : ∀ a, (enc a).isAgg = b) (h : Opens P t enc J) (h' : OpensA P ts enc' J') :
    OpensA P (t :: ts) (fun x : α × β => enc x.1 :: enc' x.2) (fun x => J x.1 ∧ J' x.2) := fun en w base sp held r b0 args ds ps hA hval hw => by
  obtain ⟨v, vs, d, ds', p, q, rfl, rfl, rfl, ⟨fuel, hf⟩, hr⟩ := trodAll_cons hA
  simp only [DataW.weightsEach, List.all_append, Bool.and_eq_true] at hw
  obtain ⟨a, u, h1, h2, h3, h4, h5⟩ := h en w base sp held fuel _ _ hf hw.1
  obtain ⟨c, k1, k2⟩ := h' en w base sp held r b0 vs ds' q hr (fun j t v ht hv => hval (j + 1) t v (by simpa using ht) (by simpa using hv)) hw.2
  have : u = v := okWide_kindly hk (hval 0 t v rfl rfl) h3.symm (by rw [rep_agg h2 h1, hb])
  subst this
  exact ⟨(a, c), repL_cons.2 ⟨_, _, rfl, h1, k1⟩, h5, k2⟩

/-! ### Behind the call -/
theorem trodAll_below {H : Type} {en : TypeId × Value → H} {P : Program} (hl : laidOutB P = true) {W W' : World} (hb : Below W.heap.size W W') : ∀ {ts : List TypeId} {vs : List Value} {ds : List (DataW H)} {ps : List MemPlace},
    (ts.all fun t => P.readableRec t && decide (t < P.types.size)) = true → DataW.TrodAll en P W 0 (fun _ => true) true ts vs ds ps → DataW.TrodAll en P W' 0 (fun b => decide (b < W.heap.size)) true ts vs ds ps
  | [], [], [], _, _, h => h
  | t :: ts, v :: vs, d :: ds, ps, ht, h => by
    simp only [List.all_cons, Bool.and_eq_true, decide_eq_true_eq] at ht
    obtain ⟨p, q, h1, h2, e⟩ := h
    have lt : ∀ x ∈ p, x.block < W.heap.size := by obtain ⟨m, hm⟩ := h1; exact DataW.trod_lt m _ _ _ hm
    exact ⟨p, q, Below.trod hl ht.1.1 ht.1.2 h1 hb lt, trodAll_below hl hb (by simpa using ht.2) h2, e⟩
  | [], _ :: _, _, _, _, h | [], [], _ :: _, _, _, h | _ :: _, [], _, _, _, h | _ :: _, _ :: _, [], _, _, h => h.elim
end Go.Proofs.YtkceciebmkklpaaGreat.V
end
section
namespace Go.Proofs.YtkceciebmkklpaaGreat.V
open Go Go.Proofs
set_option maxRecDepth 100000
set_option maxHeartbeats 40000000
theorem inS_at {C : Cr} {s : Int} {j : Nat} {v : Int} (h : (inS C.th s)[j]? = some v) : ∃ k : Nat, v = (k : Int) ∧ k < C.th.length ∧ (thAt C k).st = s := by
  have hm := List.mem_of_getElem? h
  unfold inS at hm
  rw [List.mem_map] at hm
  obtain ⟨k, hk, rfl⟩ := hm
  rw [List.mem_filter] at hk
  have hl := List.mem_range.1 hk.1
  have h2 := of_decide_eq_true hk.2
  refine ⟨k, rfl, hl, ?_⟩
  rw [thAt_lt hl]
  rw [List.getD_eq_getElem?_getD, List.getElem?_eq_getElem hl] at h2
  exact h2
theorem inS_len (C : Cr) (s : Int) : (inS C.th s).length ≤ C.th.length := inSi_len C.th s C.th.length
theorem pick_at {l : List Int} {p : Int} (h : 0 < l.length) : ∃ j : Nat, around p l.length = (j : Int) ∧ j < l.length := by
  obtain ⟨h1, h2⟩ := around_lt p l.length (by omega)
  exact ⟨(around p l.length).toNat, by omega, by omega⟩
end Go.Proofs.YtkceciebmkklpaaGreat.V
end
section
namespace Go.Proofs.YtkceciebmkklpaaGreat.V
open Go Go.Proofs
set_option maxRecDepth 100000
set_option maxHeartbeats 4000000
/-! Who joins is told when it is over. -/
def rdyT (f : Th) : Th := { f with st := 0, on := 0 }
/-- k, which joined, still does; or whom it joined is over, and it was told, or is over. -/
def JP (x y : Xs) (k : Nat) : Prop := thAt y.C k = thAt x.C k ∨ ∃ u : Nat, (thAt x.C k).on = (u : Int) ∧ (thAt y.C u).st = 9 ∧ ((thAt y.C k).st = 9 ∨ ((tellT (rdyT (thAt x.C k)) [(thAt y.C u).code]).2 = true ∧ thAt y.C k = (tellT (rdyT (thAt x.C k)) [(thAt y.C u).code]).1))
def JR (t : Nat) (x y : Xs) : Prop := ∀ k, k ≠ t → (thAt x.C k).st = 2 → JP x y k
/-- Who is over stays as it is. -/
def DD (x y : Xs) : Prop := ∀ j, (thAt x.C j).st = 9 → thAt y.C j = thAt x.C j
theorem JP.more {x y z : Xs} {k : Nat} (h : JP x y k) (h2 : (thAt x.C k).st = 2) (hz : (thAt y.C k).st = 2 → JP y z k) (hk : (thAt y.C k).st ≠ 2 → thAt z.C k = thAt y.C k) (hd : DD y z) : JP x z k := by
  rcases h with h | ⟨u, h3, h4, h5⟩
  · have h6 := hz (by rw [h]; exact h2)
    unfold JP at h6 ⊢
    rw [h] at h6
    exact h6
  · have hne : (thAt y.C k).st ≠ 2 := by
      rcases h5 with h5 | ⟨h5, h6⟩
      · omega
      · rw [h6, (tellT_st h5).1]; show (0 : Int) ≠ 2; decide
    have ek := hk hne
    have eu := hd u h4
    exact .inr ⟨u, h3, by rw [eu]; exact h4, by rw [ek, eu]; exact h5⟩
theorem DD.trans {x y z : Xs} (h : DD x y) (h2 : DD y z) : DD x z := fun j hj => by rw [h2 j (by rw [h j hj]; exact hj), h j hj]
theorem DD.tame {u : Nat} {x y : Xs} (h : Tame u x y) (hu : (thAt x.C u).st ≠ 9) : DD x y := fun j hj => h.stay j (by rintro rfl; exact hu hj) (by omega)
def EJ (E : Xs → Nat → Int → Xs) : Prop := ∀ x t c, t < x.C.th.length → JR t x (E x t c) ∧ thAt (E x t c).C t = endT c
theorem wake_jr {E : Xs → Nat → Int → Xs} (hT : ∀ x t c, Tame t x (E x t c)) (hE : EJ E) (y : Xs) {k0 : Nat} (hk : k0 < y.C.th.length) (l : List Int) :
    JR k0 y (wakeE E y k0 l) ∧ ((thAt (wakeE E y k0 l).C k0).st = 9 ∨ ((tellT (rdyT (thAt y.C k0)) l).2 = true ∧ thAt (wakeE E y k0 l).C k0 = (tellT (rdyT (thAt y.C k0)) l).1)) := by
  have hC : (wakeE E y k0 l).C = (tellE E (restX { y with wk := y.wk ++ [(k0 : Int)] } k0 0 0) k0 l).1.C := by unfold wakeE; split <;> rfl
  have hz : ∀ j, j ≠ k0 → thAt (restX { y with wk := y.wk ++ [(k0 : Int)] } k0 0 0).C j = thAt y.C j := fun j hj => thAt_ne hj
  have hz0 : thAt (restX { y with wk := y.wk ++ [(k0 : Int)] } k0 0 0).C k0 = rdyT (thAt y.C k0) := rest_st _ _ _ _ hk
  have hzl : k0 < (restX { y with wk := y.wk ++ [(k0 : Int)] } k0 0 0).C.th.length := by rw [rest_len]; exact hk
  generalize hzz : (restX { y with wk := y.wk ++ [(k0 : Int)] } k0 0 0) = z at hC hz hz0 hzl
  unfold tellE at hC
  by_cases hb : (tellT (thAt z.C k0) l).2 = true
  · rw [if_pos hb] at hC
    dsimp only at hC
    refine ⟨fun k hk h2 => .inl ?_, .inr ⟨by rw [← hz0]; exact hb, ?_⟩⟩
    · rw [hC, thAt_ne hk, hz k hk]
    · rw [hC, thAt_eq hzl, hz0]
  · rw [if_neg hb] at hC
    dsimp only at hC
    obtain ⟨h1, h2⟩ := hE z k0 2 hzl
    refine ⟨fun k hk hs => ?_, .inl (by rw [hC, h2])⟩
    have h3 := h1 k hk (by rw [hz k hk]; exact hs)
    unfold JP at h3 ⊢
    rw [hz k hk] at h3
    rw [hC]
    exact h3
theorem fold_jr {E : Xs → Nat → Int → Xs} (hT : ∀ x t c, Tame t x (E x t c)) (hE : EJ E) (x : Xs) (t : Nat) (c : Int) : ∀ (l : List Nat) (y : Xs), (∀ k, k ≠ t → (thAt x.C k).st = 2 → JP x y k) → thAt y.C t = endT c → (∀ k, k ≠ t → (thAt y.C k).st = 2 → thAt y.C k = thAt x.C k) →
    (∀ k, k ≠ t → (thAt x.C k).st = 2 → JP x (l.foldl (endR E t c) y) k) ∧ thAt (l.foldl (endR E t c) y).C t = endT c
  | [], y, h1, h2, _ => ⟨h1, h2⟩
  | k0 :: l, y, h1, h2, h3 => by
    rw [List.foldl_cons]
    unfold endR
    by_cases hj : joins y t k0 = true
    · rw [if_pos hj]
      obtain ⟨hk0, hk2⟩ := joins_lt hj
      have hon := (of_decide_eq_true hj).2
      have hk0t : k0 ≠ t := by rintro rfl; rw [h2] at hk2; exact absurd hk2 (show ¬ (9 : Int) = 2 by decide)
      have hw := wake_tame hT y k0 [c]
      obtain ⟨w1, w2⟩ := wake_jr hT hE y hk0 [c]
      have hdd : DD y (wakeE E y k0 [c]) := DD.tame hw (by omega)
      have h2' : thAt (wakeE E y k0 [c]).C t = endT c := by rw [hdd t (by rw [h2]), h2]
      refine fold_jr hT hE x t c l _ (fun k hk hs => ?_) h2' (fun k hk hs => ?_)
      · by_cases hkk : k = k0
        · subst hkk
          have e := h3 k hk hk2
          right
          refine ⟨t, by rw [← e]; exact hon, by rw [h2'], ?_⟩
          rw [← e, h2']
          exact w2
        · exact (h1 k hk hs).more hs (fun h => w1 k hkk h) (fun h => hw.stay k hkk h) hdd
      · have e := hw.join k hs
        rw [e]
        rw [e] at hs
        exact h3 k hk hs
    · rw [if_neg hj]
      exact fold_jr hT hE x t c l y h1 h2 h3
theorem end_jr : ∀ n, EJ (endX n)
  | 0 => fun x t c ht => ⟨fun k hk _ => .inl (thAt_ne hk), thAt_eq ht⟩
  | n + 1 => fun x t c ht => by
    rw [endX]
    exact fold_jr (end_tame n) (end_jr n) x t c _ _ (fun k hk _ => .inl (thAt_ne hk)) (thAt_eq ht) (fun k hk _ => thAt_ne hk)
/-- One thing behind the other. -/
theorem JR.trans {t : Nat} {x y z : Xs} (h : JR t x y) (h2 : JR t y z) (hs : Sti t y z) (hd : DD y z) : JR t x z := fun k hk h3 => (h k hk h3).more h3 (fun h4 => h2 k hk h4) (fun h4 => by
  rcases h k hk h3 with e | ⟨u, _, _, h5⟩
  · rw [e] at h4; exact absurd h3 h4
  · refine hs.stay k hk ?_
    rcases h5 with h5 | ⟨h5, h6⟩
    · exact .inr (.inr h5)
    · exact .inl (by rw [h6, (tellT_st h5).1]; rfl)) hd
theorem jr_same {t : Nat} {x y : Xs} (h : ∀ k, k ≠ t → (thAt x.C k).st = 2 → thAt y.C k = thAt x.C k) : JR t x y := fun k hk h2 => .inl (h k hk h2)
/-- All that is kept of one thing after the other. -/
structure JS (t : Nat) (x y : Xs) : Prop where
  jr : JR t x y
  st : Sti t x y
  dd : DD x y
theorem JS.trans {t : Nat} {x y z : Xs} (h : JS t x y) (h2 : JS t y z) : JS t x z := ⟨h.jr.trans h2.jr h2.st h2.dd, h.st.trans h2.st, h.dd.trans h2.dd⟩
theorem js_refl (t : Nat) (x : Xs) : JS t x x := ⟨jr_same (fun _ _ _ => rfl), ⟨rfl, rfl, fun _ _ _ => rfl⟩, fun _ _ => rfl⟩
theorem js_inC {t : Nat} {x : Xs} {C' : Cr} (h : C'.th = x.C.th) (hn : C'.now = x.C.now) : JS t x (inC x C') := ⟨jr_same (fun k _ _ => thAt_th h k), sti_inC h hn, fun j _ => thAt_th h j⟩
theorem js_rest {t u : Nat} {x : Xs} {st on : Int} (hu : u = t ∨ (3 ≤ (thAt x.C u).st ∧ (thAt x.C u).st ≤ 8)) (h9 : (thAt x.C u).st ≠ 9) : JS t x (restX x u st on) := by
  refine ⟨jr_same (fun k hk h2 => thAt_ne ?_), sti_rest (hu.imp id not_stil), fun j hj => thAt_ne (by rintro rfl; exact h9 hj)⟩
  rintro rfl
  rcases hu with hu | hu
  · exact hk hu
  · omega
theorem js_wake {t : Nat} {x : Xs} {u : Int} (hu : TSt x u) (l : List Int) : JS t x (wakeF x u l) := by
  refine ⟨fun k hk h2 => ?_, sti_wake hu l, ?_⟩
  · unfold wakeF
    split
    · exact .inl rfl
    · have h1 := hu (by omega)
      exact (wake_jr (end_tame FU) (end_jr FU) x (lt_of_st (by omega)) l).1 k (by rintro rfl; omega) h2
  · unfold wakeF
    split
    · exact fun _ _ => rfl
    · have h1 := hu (by omega)
      exact DD.tame (wake_tame (end_tame FU) x u.toNat l) (by omega)
theorem js_end {t : Nat} {x : Xs} (ht : t < x.C.th.length) (h9 : (thAt x.C t).st ≠ 9) (c : Int) : JS t x (endF x t c) := ⟨(end_jr FU x t c ht).1, sti_end c, DD.tame (end_tame FU x t c) h9⟩
theorem js_tell {t : Nat} {x : Xs} (ht : t < x.C.th.length) (h0 : (thAt x.C t).st = 0) (l : List Int) : JS t x (tellF x t l) := by
  refine ⟨?_, sti_tell h0 l, DD.tame (tell_tame (end_tame FU) x t l (fun _ => h0)) (by omega)⟩
  unfold tellF tellE
  split
  · exact jr_same (fun k hk _ => thAt_ne hk)
  · exact (end_jr FU x t 2 ht).1
end Go.Proofs.YtkceciebmkklpaaGreat.V
end
section
namespace Go.Proofs.YtkceciebmkklpaaGreat.V
open Go Go.Proofs
set_option maxRecDepth 100000
set_option maxHeartbeats 4000000
/-- Whoever ends is seen to. -/
structure EvM (x y : Xs) : Prop where
  len : x.ev.length ≤ y.ev.length
  die : ∀ j, (thAt x.C j).st ≠ 9 → (thAt y.C j).st = 9 → x.ev.length < y.ev.length
theorem EvM.trans {x y z : Xs} (h : EvM x y) (h2 : EvM y z) : EvM x z := by
  refine ⟨Nat.le_trans h.len h2.len, fun j h3 h4 => ?_⟩
  by_cases h5 : (thAt y.C j).st = 9
  · exact Nat.lt_of_lt_of_le (h.die j h3 h5) h2.len
  · exact Nat.lt_of_le_of_lt h.len (h2.die j h5 h4)
theorem ev_same {x y : Xs} (h : y.ev.length = x.ev.length) (hs : ∀ j, (thAt x.C j).st ≠ 9 → (thAt y.C j).st ≠ 9) : EvM x y := ⟨by omega, fun j h1 h2 => absurd h2 (hs j h1)⟩
theorem ev_grow {x y : Xs} (h : x.ev.length < y.ev.length) : EvM x y := ⟨by omega, fun _ _ _ => h⟩
def EvE (E : Xs → Nat → Int → Xs) : Prop := ∀ x t c, x.ev.length < (E x t c).ev.length
theorem ev_put {x : Xs} {t : Nat} {f : Th} {wk wp : List Int} (h9 : f.st ≠ 9) : EvM x ⟨putT x.C t f, x.ev, wk, wp⟩ := ev_same rfl (fun j hj => by
  show (thAt (putT x.C t f) j).st ≠ 9
  rw [thAt_put]
  split
  · exact h9
  · exact hj)
theorem tell_evm {E : Xs → Nat → Int → Xs} (hE : EvE E) (x : Xs) (t : Nat) (l : List Int) (h9 : (thAt x.C t).st ≠ 9) : EvM x (tellE E x t l).1 := by
  unfold tellE
  split
  · rename_i hb
    exact ev_put (by rw [(tellT_st hb).1]; exact h9)
  · exact ev_grow (hE x t 2)
theorem wake_evm {E : Xs → Nat → Int → Xs} (hE : EvE E) (x : Xs) (t : Nat) (l : List Int) (ht : t < x.C.th.length) : EvM x (wakeE E x t l) := by
  have h1 : EvM x (restX { x with wk := x.wk ++ [(t : Int)] } t 0 0) := ev_put (by show (0 : Int) ≠ 9; decide)
  have h2 := tell_evm hE (restX { x with wk := x.wk ++ [(t : Int)] } t 0 0) t l (by rw [rest_st0 { x with wk := x.wk ++ [(t : Int)] } t ht]; decide)
  have h3 := h1.trans h2
  unfold wakeE
  split
  · exact ⟨h3.len, h3.die⟩
  · exact h3
theorem fold_ev {E : Xs → Nat → Int → Xs} (hE : EvE E) (t : Nat) (c : Int) : ∀ (l : List Nat) (y : Xs), y.ev.length ≤ (l.foldl (endR E t c) y).ev.length
  | [], y => Nat.le_refl _
  | k :: l, y => by
    rw [List.foldl_cons]
    refine Nat.le_trans ?_ (fold_ev hE t c l _)
    unfold endR
    split
    · rename_i hj
      exact (wake_evm hE y k [c] (joins_lt hj).1).len
    · exact Nat.le_refl _
theorem end_ev : ∀ n, EvE (endX n)
  | 0 => fun x t c => by
    show x.ev.length < (x.ev ++ [_]).length
    rw [List.length_append, List.length_singleton]; omega
  | n + 1 => fun x t c => by
    rw [endX]
    refine Nat.lt_of_lt_of_le ?_ (fold_ev (end_ev n) t c _ _)
    show x.ev.length < (x.ev ++ [_]).length
    rw [List.length_append, List.length_singleton]; omega
structure JE (t : Nat) (x y : Xs) : Prop where
  js : JS t x y
  ev : EvM x y
theorem JE.trans {t : Nat} {x y z : Xs} (h : JE t x y) (h2 : JE t y z) : JE t x z := ⟨h.js.trans h2.js, h.ev.trans h2.ev⟩
theorem je_refl (t : Nat) (x : Xs) : JE t x x := ⟨js_refl t x, ev_same rfl (fun _ h => h)⟩
theorem je_inC {t : Nat} {x : Xs} {C' : Cr} (h : C'.th = x.C.th) (hn : C'.now = x.C.now) : JE t x (inC x C') := ⟨js_inC h hn, ev_same rfl (fun j hj => by rw [show thAt (inC x C').C j = thAt x.C j from thAt_th h j]; exact hj)⟩
theorem je_rest {t u : Nat} {x : Xs} {st on : Int} (hu : u = t ∨ (3 ≤ (thAt x.C u).st ∧ (thAt x.C u).st ≤ 8)) (h9 : (thAt x.C u).st ≠ 9) (hst : st ≠ 9) : JE t x (restX x u st on) := ⟨js_rest hu h9, ev_put hst⟩
theorem je_wake {t : Nat} {x : Xs} {u : Int} (hu : TSt x u) (l : List Int) : JE t x (wakeF x u l) := by
  refine ⟨js_wake hu l, ?_⟩
  unfold wakeF
  split
  · exact ev_same rfl (fun _ h => h)
  · have h1 := hu (by omega)
    exact wake_evm (end_ev FU) x _ l (lt_of_st (by omega))
theorem je_end {t : Nat} {x : Xs} (ht : t < x.C.th.length) (h9 : (thAt x.C t).st ≠ 9) (c : Int) : JE t x (endF x t c) := ⟨js_end ht h9 c, ev_grow (end_ev FU x t c)⟩
theorem je_tell {t : Nat} {x : Xs} (ht : t < x.C.th.length) (h0 : (thAt x.C t).st = 0) (l : List Int) : JE t x (tellF x t l) := ⟨js_tell ht h0 l, tell_evm (end_ev FU) x t l (by omega)⟩
theorem je_moved {t : Nat} {x : Xs} {u m : Int} {has : Bool} (hu : TSt x u) (h0 : 0 ≤ u) : JE t x (movedX x u m has) := by
  unfold movedX
  split
  · exact je_wake hu []
  · have := hu h0
    exact je_rest (.inr this) (by omega) (by decide)
theorem je_moves {t : Nat} (m got : Int) : ∀ (l : List Int) (x : Xs), l.Nodup → (∀ v ∈ l, 0 ≤ v ∧ (thAt x.C v.toNat).st = 4) → JE t x (l.foldl (movedL m got) x)
  | [], x, _, _ => je_refl t x
  | v :: l, x, hd, hs => by
    obtain ⟨hv, hv4⟩ := hs v List.mem_cons_self
    have hd' := List.nodup_cons.1 hd
    rw [List.foldl_cons]
    refine JE.trans (je_moved (u := v) (m := m) (has := decide (v = got)) (fun _ => by omega) hv) (je_moves m got l _ hd'.2 (fun w hw => ?_))
    obtain ⟨hw0, hw4⟩ := hs w (List.mem_cons_of_mem _ hw)
    refine ⟨hw0, ?_⟩
    have hne : ((w.toNat : Nat) : Int) ≠ v := by
      intro e
      have : w = v := by omega
      exact hd'.1 (this ▸ hw)
    rw [movedX_stay hne hv (by omega)]
    exact hw4
theorem je_taken {t : Nat} {x : Xs} (ht : t < x.C.th.length) {C' : Cr} (h : C'.th = x.C.th) (hn : C'.now = x.C.now) (h0 : (thAt x.C t).st = 0) {v : Int} (hv : TSt x v) (l l' : List Int) : JE t x (wakeF (tellF (inC x C') t l) v l') := by
  have e : ∀ k, thAt (inC x C').C k = thAt x.C k := fun k => thAt_th h k
  refine (je_inC (t := t) h hn).trans ((je_tell (by show t < C'.th.length; rw [h]; exact ht) (by rw [e]; exact h0) l).trans (je_wake (fun hv0 => ?_) l'))
  have h1 := hv hv0
  have hne : v.toNat ≠ t := by intro e; rw [e] at h1; omega
  rw [tellF_stay (by rw [e]; exact h0) hne (by rw [e]; omega), e]
  exact h1
/-- What a step does to who joins, and that its end is seen. -/
structure JF (t : Nat) (x y : Xs) : Prop where
  jr : JR t x y
  ev : EvM x y
theorem JE.f {t : Nat} {x y : Xs} (h : JE t x y) : JF t x y := ⟨h.js.jr, h.ev⟩
theorem wakeF_stayT {x : Xs} {u : Int} (hu : TSt x u) {t : Nat} (h0 : (thAt x.C t).st = 0) (l : List Int) : thAt (wakeF x u l).C t = thAt x.C t := by
  by_cases hu0 : 0 ≤ u
  · have h1 := hu hu0
    refine wakeF_stay (fun e => ?_) (by omega)
    rw [← e, Int.toNat_natCast] at h1
    omega
  · unfold wakeF
    rw [if_pos (by omega)]
theorem meet_jf {g : Pg} (hg : GoodP g) {t : Nat} {x : Xs} (h : MI g t x) {q : Rq} (hq : RqOk g q) (h1 : q.kd ≠ 1) (h0 : (thAt x.C t).st = 0) : JF t x (meetX g x t q) := by
  have ht := h.tl
  have he := h.eo hg
  have hz := h.z.L
  have h9 : (thAt x.C t).st ≠ 9 := by omega
  obtain ⟨kd, a, v⟩ := q
  obtain ⟨q1, q2, q3, q4, q5, q6, q7, q8⟩ := hq
  dsimp only at q1 q2 q3 q4 q5 q6 q7 q8 h1
  have hid : JE t x x := je_refl t x
  have hL : ∀ S : Lk, JE t x (inL x S) := fun S => je_inC (C' := { x.C with L := S }) rfl rfl
  have hr : ∀ (y : Xs) (st on : Int), thAt y.C t = thAt x.C t → st ≠ 9 → JE t y (restX y t st on) := fun y st on e hs => je_rest (.inl rfl) (by rw [e]; exact h9) hs
  have hc : kd = 0 ∨ kd = 2 ∨ kd = 3 ∨ kd = 4 ∨ kd = 5 ∨ kd = 6 ∨ kd = 7 ∨ kd = 8 ∨ kd = 9 ∨ kd = 10 ∨ kd = 11 ∨ kd = 12 ∨ kd = 13 ∨ kd = 14 ∨ kd = 15 ∨ kd = 16 := by omega
  rcases hc with rfl | rfl | rfl | rfl | rfl | rfl | rfl | rfl | rfl | rfl | rfl | rfl | rfl | rfl | rfl | rfl
  · exact hid.f
  · exact hid.f
  · show JF t x (spawnX g x t a)
    unfold spawnX
    split
    · have hh := je_tell (x := seeX x 1 t (-1)) (t := t) ht h0 [-1]
      have hlt : x.ev.length < (tellF (seeX x 1 t (-1)) t [-1]).ev.length := Nat.lt_of_lt_of_le (by show _ < (x.ev ++ [_]).length; rw [List.length_append, List.length_singleton]; omega) hh.ev.len
      exact ⟨hh.js.jr, ev_grow hlt⟩
    · obtain ⟨y, hy⟩ : ∃ y : Xs, { seeX { x with C := { x.C with th := x.C.th ++ [newT g a] } } 1 t x.C.th.length with wk := x.wk ++ [(x.C.th.length : Int)], wp := x.wp ++ [(x.C.th.length : Int)] } = y := ⟨_, rfl⟩
      have hyC : y.C = { x.C with th := x.C.th ++ [newT g a] } := by rw [← hy]; rfl
      have hye : y.ev.length = x.ev.length + 1 := by rw [← hy]; show (x.ev ++ [_]).length = _; rw [List.length_append]; rfl
      rw [hy]
      have htt : thAt y.C t = thAt x.C t := by rw [hyC, thAt_app, if_neg (by omega)]
      have hh := je_tell (x := y) (t := t) (by rw [hyC]; show t < (x.C.th ++ [_]).length; rw [List.length_append]; omega) (by rw [htt]; exact h0) [(x.C.th.length : Int)]
      refine ⟨fun k hk h2 => ?_, ev_grow (Nat.lt_of_lt_of_le (by omega) hh.ev.len)⟩
      have hkl : k < x.C.th.length := lt_of_st (by omega)
      have ek : thAt y.C k = thAt x.C k := by rw [hyC, thAt_app, if_neg (by omega)]
      have h3 := hh.js.jr k hk (by rw [ek]; exact h2)
      unfold JP at h3 ⊢
      rw [ek] at h3
      exact h3
  · show JF t x (sleepX x t v)
    unfold sleepX
    split
    · exact (hr x 1 (keep (x.C.now + v)) rfl (by decide)).f
    · exact hid.f
  · show JF t x (joinX x t v)
    unfold joinX
    split
    · exact (je_end ht h9 5).f
    · split
      · exact (je_tell ht h0 _).f
      · exact (hr x 2 v rfl (by decide)).f
  · show JF t x (lockX x t a)
    unfold lockX
    dsimp only
    split
    · exact (hL _).f
    · exact ((hL (lockS x.C.L a.toNat t).1).trans (hr _ 3 a rfl (by decide))).f
  · show JF t x (unlockX x t a)
    unfold unlockX
    dsimp only
    split
    · exact ((hL _).trans (je_wake ((unlock_ts h a.toNat t).inL (unlockS x.C.L a.toNat t).1) [])).f
    · exact (je_end ht h9 4).f
  · show JF t x (waitX g x t a)
    unfold waitX
    dsimp only
    split
    · have hw := (wait_ts h a.toNat (g.co.getD a.toNat 0).toNat t).inL (waitS x.C.L a.toNat (g.co.getD a.toNat 0).toNat t).1
      exact ((hL _).trans ((je_wake hw []).trans (hr _ 4 a (wakeF_stayT hw (t := t) h0 []) (by decide)))).f
    · exact (je_end ht h9 4).f
  · show JF t x (signalX g x a)
    unfold signalX
    dsimp only
    split
    · exact hid.f
    · rename_i hn
      exact ((hL _).trans (je_moved ((signal_ts h a.toNat (g.co.getD a.toNat 0).toNat).inL (signalS x.C.L a.toNat (g.co.getD a.toNat 0).toNat).1) (by omega))).f
  · have := q5 (.inr (.inr rfl))
    have hco := hg.co _ (getD_mem (l := g.co) (e := a.toNat) (by omega))
    have hall := broad_all he.L he.N (c := a.toNat) (m := (g.co.getD a.toNat 0).toNat) (by show a.toNat < g.co.length; omega) (by show (g.co.getD a.toNat 0).toNat < g.mu.toNat; omega)
    show JF t x (broadX g x a)
    unfold broadX
    dsimp only
    rw [hall]
    refine ((hL _).trans (je_moves _ _ _ _ (nodup_wq h _) (fun v hv => ?_))).f
    obtain ⟨h1, h2⟩ := row_st h (r := 1) (by omega) (k := a.toNat) (v := v) hv
    refine ⟨h1, ?_⟩
    show (thAt x.C v.toNat).st = 4
    omega
  · show JF t x (downX x t a)
    unfold downX
    dsimp only
    split
    · exact (hL _).f
    · exact ((hL (downS x.C.L a.toNat t).1).trans (hr _ 5 a rfl (by decide))).f
  · show JF t x (upX x a)
    unfold upX
    dsimp only
    exact ((hL _).trans (je_wake ((up_ts h a.toNat).inL (upS x.C.L a.toNat).1) [])).f
  · show JF t x (sendX g x t a v)
    have hth := (sendC_th x.C a.toNat (g.ch.getD a.toNat 0) (t : Int) v).1
    have hs := (send_ts h a.toNat (g.ch.getD a.toNat 0) (t : Int) v).inC hth
    have hi : JE t x (inC x (sendC x.C a.toNat (g.ch.getD a.toNat 0) (t : Int) v).1) := je_inC hth (sendC_now ..)
    unfold sendX
    dsimp only
    split
    · exact (hi.trans (hr _ 6 a (thAt_th hth t) (by decide))).f
    · split
      · exact hi.f
      · split
        · exact (hi.trans (je_wake hs _)).f
        · exact (hi.trans (je_wake hs _)).f
  · show JF t x (recvX x t a)
    unfold recvX
    dsimp only
    have hth := (selC_th x.C [a] (t : Int)).1
    split
    · exact ((je_inC hth (selC_now ..)).trans (hr _ 7 a (thAt_th hth t) (by decide))).f
    · exact (je_taken ht hth (selC_now ..) h0 (sel_ts h [a] (t : Int)) _ _).f
  · show JF t x (chooseX g x t a)
    unfold chooseX
    dsimp only
    have hth := (selC_th x.C (qAt g.cs a.toNat) (t : Int)).1
    split
    · exact ((je_inC hth (selC_now ..)).trans (hr _ 8 a (thAt_th hth t) (by decide))).f
    · exact (je_taken ht hth (selC_now ..) h0 (sel_ts h (qAt g.cs a.toNat) (t : Int)) _ _).f
  · exact ⟨jr_same (fun _ _ _ => rfl), ev_grow (by show _ < (x.ev ++ [_]).length; rw [List.length_append, List.length_singleton]; omega)⟩
end Go.Proofs.YtkceciebmkklpaaGreat.V
end
section
namespace Go.Proofs.YtkceciebmkklpaaGreat.V
open Go Go.Proofs
set_option maxRecDepth 100000
set_option maxHeartbeats 4000000
theorem tell1 {f : Th} {c : Int} (h : (tellT f [c]).2 = true) : (tellT f [c]).1 = { f with sk := f.sk ++ [keep c] } := by
  rcases Bool.eq_false_or_eq_true (pushT f c).2 with hb | hb
  · have e : pushL f (-1) [c] = ((pushT f c).1, -1) := by
      simp only [pushL]
      rw [hb, under_t]
    unfold tellT
    rw [e]
    dsimp only
    rw [if_neg (by decide)]
    unfold pushT at hb ⊢
    split
    · rename_i h16; rw [if_pos h16] at hb; cases hb
    · rfl
  · exfalso
    have e : (pushL f (-1) [c]).2 ≠ -1 := by
      simp only [pushL]
      rw [hb, under_f]
      decide
    unfold tellT at h
    split at h
    · cases h
    · rename_i h2
      rcases pushL_e [c] f with he | he
      · exact e he
      · exact h2 (by rw [he]; decide)
theorem end_beg {C : Cr} {t : Nat} {c : Int} : endF ⟨putT C t (endT c), [], [], []⟩ t c = endF ⟨C, [], [], []⟩ t c := by
  show endX 100 ⟨putT C t (endT c), [], [], []⟩ t c = endX 100 ⟨C, [], [], []⟩ t c
  have ed : deadX ⟨putT C t (endT c), [], [], []⟩ t c = deadX ⟨C, [], [], []⟩ t c := by
    unfold deadX
    dsimp only
    rw [putT_put]
  rw [endX, endX, ed]
  show (List.range (putT C t (endT c)).th.length).foldl _ _ = _
  rw [putT_len]
theorem step_jf {g : Pg} (hg : GoodP g) {C : Cr} (h : CI g C) {t : Nat} (ht : t < C.th.length) (h0 : (thAt C t).st = 0) : JF t ⟨C, [], [], []⟩ (meetX g (begX g C t) t (stepT g (thAt C t)).2) := by
  obtain ⟨b1, b2, b3, b4⟩ := beg_all hg h ht h0
  have hgt := thI_ready (h.at t) h0
  rcases step_ok hg hgt with ⟨h1, h2, _⟩ | ⟨c, hc, hr⟩
  · have hj := meet_jf hg b1 (rq_ok hg hgt) h1 (b2 h1)
    have hk : ∀ k, k ≠ t → thAt (begX g C t).C k = thAt C k := fun k hk => thAt_ne hk
    refine ⟨fun k hkt h3 => ?_, hj.ev.len, fun j h3 h4 => ?_⟩
    · have h3' : (thAt C k).st = 2 := h3
      have h5 := hj.jr k hkt (by rw [hk k hkt]; exact h3')
      unfold JP at h5 ⊢
      rw [hk k hkt] at h5
      exact h5
    · refine hj.ev.die j ?_ h4
      by_cases e : j = t
      · subst e; rw [b2 h1]; decide
      · rw [hk j e]; exact h3
  · unfold begX
    rw [hr]
    show JF t _ (endF ⟨putT C t (endT c), [], [], []⟩ t c)
    rw [end_beg]
    exact (je_end (x := ⟨C, [], [], []⟩) ht (by show (thAt C t).st ≠ 9; omega) c).f
theorem step_join {g : Pg} (hg : GoodP g) {C : Cr} (h : CI g C) {t : Nat} (ht : t < C.th.length) (h0 : (thAt C t).st = 0) :
    (∀ k, k ≠ t → k < C.th.length → (thAt C k).st = 2 → ∃ u : Nat, (thAt C k).on = (u : Int) ∧ u < (stepC g C t).1.th.length ∧ (((thAt (stepC g C t).1 k).st = 2 ∧ (thAt (stepC g C t).1 u).st ≠ 9) ∨ ((thAt (stepC g C t).1 u).st = 9 ∧ ((thAt (stepC g C t).1 k).st = 9 ∨ ((thAt (stepC g C t).1 k).st = 0 ∧ (thAt (stepC g C t).1 k).sk = (thAt C k).sk ++ [(thAt (stepC g C t).1 u).code]))))) ∧
    ((thAt (stepC g C t).1 t).st = 9 → 0 < (stepC g C t).2.1.length) := by
  have hj := step_jf hg h ht h0
  have hci := stepC_ci hg h (t : Int)
  have hlen := (step_sti hg h ht h0).2.2.1
  have e : (stepC g C t).1 = (meetX g (begX g C t) t (stepT g (thAt C t)).2).C ∧ (stepC g C t).2.1 = (meetX g (begX g C t) t (stepT g (thAt C t)).2).ev := by
    unfold stepC
    rw [if_neg (by omega), Int.toNat_natCast, if_neg (fun hn => hn h0)]
    exact ⟨rfl, rfl⟩
  refine ⟨fun k hk hkl h2 => ?_, fun h9 => ?_⟩
  · obtain ⟨u, hu, hul, huk, hu9⟩ := h.jn k h2
    refine ⟨u, hu, by omega, ?_⟩
    have hp := hj.jr k hk h2
    unfold JP at hp
    rw [← e.1] at hp
    rcases hp with hp | ⟨u', hu', h3, h4⟩
    · left
      have hp' : thAt (stepC g C t).1 k = thAt C k := hp
      obtain ⟨u', g1, g2, g3, g4⟩ := hci.jn k (by rw [hp']; exact h2)
      rw [hp'] at g1
      have : u' = u := by omega
      subst this
      exact ⟨by rw [hp']; exact h2, g4⟩
    · right
      have hu'' : (thAt C k).on = (u' : Int) := hu'
      have : u' = u := by omega
      subst this
      refine ⟨h3, ?_⟩
      rcases h4 with h4 | ⟨h4, h5⟩
      · exact .inl h4
      · right
        have hc := (thI_dead (hci.at u') h3).2
        have h6 := tell1 h4
        rw [h6] at h5
        rw [h5]
        refine ⟨rfl, ?_⟩
        show (thAt C k).sk ++ [keep (thAt (stepC g C t).1 u').code] = _
        rw [keep_small (by omega)]
  · rw [e.1] at h9
    rw [e.2]
    exact hj.ev.die t (by show (thAt C t).st ≠ 9; omega) h9
end Go.Proofs.YtkceciebmkklpaaGreat.V
end
section
namespace Go.Proofs.YtkceciebmkklpaaGreat.V
open Go Go.Proofs
set_option maxRecDepth 100000
set_option maxHeartbeats 40000000
theorem law3c (p : Pg) (hp : p.okB) (l : List Int) (hl : lok l) : Spec Tryz.prog 3 [pgD p, ints l] [] (fun d os' => d = .bool true ∧ os' = []) := by
  have hlm : (l.map (D.int .i64)).length = l.length := List.length_map ..
  obtain ⟨hl1, hl2⟩ := hl
  refine Spec.frz (post' := fun d => d = .bool true) ?_
  refine Spec.by Tryz.func3 rfl (by decide) (by decide +kernel) rfl ?_
  (refine goA ?_)
  refine Call.mk ((good29 p hp).only _ rfl (by rintro d ⟨g, _, rfl⟩; rfl)) ?_
  rintro d os' ⟨⟨g, hg, rfl⟩, rfl⟩
  (refine goA ?_)
  refine Call.mk (((new18 hg)).only _ rfl (by rintro d rfl; rfl)) ?_; rintro d os' ⟨rfl, rfl⟩
  (refine goA ?_)
  refine Loop.inv (A := Nat × Cr) (List.range 169) (fun a => [(1, ints l), (4, .bool false), (5, .ptr 1 0 7 0 0), (6, .ptr 2 0 10 0 0), (7, .int .i64 (a.1 : Int))]) (fun a => [one (.row 26 7 false [pgD p]), one (.row 26 7 false [pgD g]), one (.row 30 10 false [coreV a.2])]) (fun a => a.1 ≤ l.length ∧ CI g a.2) (fun a => l.length - a.1) (0, newC g) ⟨Nat.zero_le _, newC_ci hg⟩ ?_ ?_
  · exact Weak.start' rfl rfl tld
  rintro ⟨i, C⟩ ⟨hi, hci⟩
  dsimp only at hi hci ⊢
  have h8 := g_th8 hg hci.z
  have hI := in19 C 0 (by omega)
  have hIl := inS_len C 0
  have hIm : ((inS C.th 0).map (D.int .i64)).length = (inS C.th 0).length := List.length_map ..
  (refine goA ?_)
  refine Br.dec (fun h1 => ?_) (fun h1 => ?_)
  · (refine goA ?_)
    refine Br.dec (fun h2 => ?_) (fun h2 => ?_)
    · have hil : i < l.length := by omega
      have hget : (l.map (D.int .i64))[i]? = some (.int .i64 l[i]) := get_map (List.getElem?_eq_getElem hil)
      have hcut : List.drop ((i : Int)).toNat (List.take ((i : Int) + 1).toNat (l.map (D.int .i64))) = [D.int .i64 l[i]] := by
        rw [show ((i : Int)).toNat = i from by omega, show ((i : Int) + 1).toNat = i + 1 from by omega, List.drop_take, List.drop_eq_getElem_cons (by omega), show i + 1 - i = 1 from by omega, List.take_succ_cons, List.take_zero, List.getElem_map]
      (refine goA ?_)
      refine Call.mk ((hI).only _ rfl (by rintro d rfl; rfl)) ?_; rintro d os' ⟨rfl, rfl⟩
      (refine goA ?_)
      refine Br.dec (fun h3 => ?_) (fun h3 => ?_)
      · have hnil : inS C.th 0 = [] := List.eq_nil_of_length_eq_zero (by omega)
        have hP := idle20 hg hci hnil l[i]
        (refine goA ?_)
        refine Nm.mk _ hcut.symm ?_
        (refine goA ?_)
        refine Call.mk ((hP).only _ rfl (by rintro d rfl; rfl)) ?_; rintro d os' ⟨rfl, rfl⟩
        (refine goA ?_)
        refine ⟨_, _, _, ?_, ⟨(i + 1, idleC C), ?_, rfl, rfl, rfl⟩, ?_⟩
        · show l.length - (i + 1) < l.length - i; omega
        · exact ⟨hil, idle_ci hci⟩
        · refine Weak.backT 3 (by simp) (by first | rfl | kernel_rfl) (by kernel_rfl) (Nat.le_of_ble_eq_true rfl) tld (by kernel_rfl) (by kernel_rfl)
      · obtain ⟨j, hj, hjl⟩ := pick_at (l := inS C.th 0) (p := l[i]) (by omega)
        obtain ⟨t, ht, htl, hst⟩ := inS_at (List.getElem?_eq_getElem hjl)
        have hgj : ((inS C.th 0).map (D.int .i64))[j]? = some (.int .i64 (t : Int)) := by rw [← ht]; exact get_map (List.getElem?_eq_getElem hjl)
        have hA := around33 l[i] (inS C.th 0).length (hl2 _ (List.getElem_mem hil)) (by omega)
        rw [hj, ← hIm] at hA
        have hS := step22 hg hci t
        obtain ⟨s1, s2, s3, s4⟩ := step_sti hg hci htl hst
        have hcx := stepC_ci hg hci t
        obtain ⟨j1, j2⟩ := step_join hg hci htl hst
        rw [s1] at hS
        obtain ⟨⟨Cx, ev, wk, er⟩, hCx⟩ : ∃ r, stepC g C t = r := ⟨_, rfl⟩
        rw [hCx] at hS s2 s3 s4 hcx j1 j2
        dsimp only at hS s2 s3 s4 hcx j1 j2
        have hem : (ev.map evD).length = ev.length := List.length_map ..
        have hwm : (wk.map (D.int .i64)).length = wk.length := List.length_map ..
        have hxm : (Cx.th.map thD).length = Cx.th.length := List.length_map ..
        have hcm : (C.th.map thD).length = C.th.length := List.length_map ..
        (refine goA ?_)
        refine Opt.of hget ?_
        (refine goA ?_)
        refine Call.mk ((hA).only _ rfl (by rintro d rfl; rfl)) ?_; rintro d os' ⟨rfl, rfl⟩
        (refine goA ?_)
        refine Opt.of hgj ?_
        (refine goA ?_)
        refine Call.mk ((hS).only _ rfl (by rintro d rfl; rfl)) ?_; rintro d os' ⟨rfl, rfl⟩
        (refine goA ?_)
        refine Loop.inv (A := Nat) (List.range 169) (fun k => [(1, ints l), (4, .bool false), (5, .ptr 1 0 7 0 0), (6, .ptr 2 0 10 0 0), (7, .int .i64 (i : Int)), (11, .int .i64 (t : Int)), (12, .ptr 3 0 10 0 0), (13, evs ev), (14, ints wk), (16, .int .i64 (k : Int))]) (fun k => [one (.row 26 7 false [pgD p]), one (.row 26 7 false [pgD g]), one (.row 30 10 false [coreV C]), one (.row 30 10 false [coreV Cx])]) (fun k => k ≤ C.th.length) (fun k => C.th.length - k) 0 (Nat.zero_le _) ?_ ?_
        · exact Weak.start' rfl rfl tld
        rintro k hk
        dsimp only at hk ⊢
        (refine goA ?_)
        refine Br.dec (fun h4 => ?_) (fun h4 => ?_)
        · have hkl : k < C.th.length := by omega
          have hgk : (C.th.map thD)[k]? = some (thD (thAt C k)) := by rw [thAt_lt hkl]; exact get_map (List.getElem?_eq_getElem hkl)
          have hgx : (Cx.th.map thD)[k]? = some (thD (thAt Cx k)) := by rw [thAt_lt (by omega)]; exact get_map (List.getElem?_eq_getElem (by omega))
          by_cases h5 : (thAt C k).st = 2
          · have hkt : k ≠ t := by rintro rfl; omega
            obtain ⟨u, hu, hul, hor⟩ := j1 k hkt hkl h5
            have hgu : (Cx.th.map thD)[u]? = some (thD (thAt Cx u)) := by rw [thAt_lt hul]; exact get_map (List.getElem?_eq_getElem hul)
            obtain ⟨⟨st0, on0, fr0, sk0, cd0⟩, hf0⟩ : ∃ f, thAt C k = f := ⟨_, rfl⟩
            rw [hf0] at hgk h5 hu hor
            dsimp only at h5 hu hor
            subst h5
            subst hu
            have hkt2 : ¬ (k : Int) = (t : Int) := by omega
            have hs16 : sk0.length ≤ 16 := by have := (thI_ok hg (hci.at k)).1; rw [hf0] at this; exact this
            have hskm : (sk0.map (D.int .i64)).length = sk0.length := List.length_map ..
            refine Or.elim hor ?_ ?_
            · rintro ⟨ha, hb⟩
              obtain ⟨⟨st1, on1, fr1, sk1, cd1⟩, hf1⟩ : ∃ f, thAt Cx k = f := ⟨_, rfl⟩
              rw [hf1] at hgx ha
              dsimp only at ha
              subst ha
              (refine goA ?_)
              refine Opt.of hgk ?_
              (refine goA ?_)
              refine Opt.of hgx ?_
              (refine goA ?_)
              refine Opt.of hgu ?_
              (refine goA ?_)
              rw [decide_eq_false hb]
              (refine goA ?_)
              refine ⟨_, _, _, ?_, ⟨k + 1, ?_, rfl, rfl, rfl⟩, ?_⟩
              · show C.th.length - (k + 1) < C.th.length - k; omega
              · show k + 1 ≤ C.th.length; omega
              · refine Weak.backT 4 (by simp) (by first | rfl | kernel_rfl) (by kernel_rfl) (Nat.le_of_ble_eq_true rfl) tld (by kernel_rfl) (by kernel_rfl)
            · rintro ⟨ha, hb⟩
              obtain ⟨⟨st2, on2, fr2, sk2, cd2⟩, hf2⟩ : ∃ f, thAt Cx u = f := ⟨_, rfl⟩
              rw [hf2] at hgu ha hb
              dsimp only at ha hb
              subst ha
              obtain ⟨⟨st1, on1, fr1, sk1, cd1⟩, hf1⟩ : ∃ f, thAt Cx k = f := ⟨_, rfl⟩
              rw [hf1] at hgx hb
              dsimp only at hb
              refine Or.elim hb ?_ ?_
              · rintro rfl
                (refine goA ?_)
                refine Opt.of hgk ?_
                (refine goA ?_)
                refine Opt.of hgx ?_
                (refine goA ?_)
                refine Opt.of hgu ?_
                (refine goA ?_)
                refine ⟨_, _, _, ?_, ⟨k + 1, ?_, rfl, rfl, rfl⟩, ?_⟩
                · show C.th.length - (k + 1) < C.th.length - k; omega
                · show k + 1 ≤ C.th.length; omega
                · refine Weak.backT 4 (by simp) (by first | rfl | kernel_rfl) (by kernel_rfl) (Nat.le_of_ble_eq_true rfl) tld (by kernel_rfl) (by kernel_rfl)
              · rintro ⟨rfl, rfl⟩
                have hskn : ((sk0 ++ [cd2]).map (D.int .i64)).length = sk0.length + 1 := by rw [List.length_map, List.length_append]; rfl
                have hgl : ((sk0 ++ [cd2]).map (D.int .i64))[sk0.length]? = some (.int .i64 cd2) := get_map (by rw [List.getElem?_append_right (Nat.le_refl _), Nat.sub_self]; rfl)
                (refine goA ?_)
                refine Opt.of hgk ?_
                (refine goA ?_)
                refine Opt.of hgx ?_
                (refine goA ?_)
                refine Opt.of hgu ?_
                (refine goA ?_)
                have hd : decide ((((sk0 ++ [cd2]).map (D.int .i64)).length : Int) = ((sk0.map (D.int .i64)).length : Int) + 1) = true := decide_eq_true (by rw [hskn, hskm]; omega)
                refine Br.cs (fun h => ?_) (fun h => ?_)
                · exfalso
                  rw [show ((!decide ((((sk0 ++ [cd2]).map (D.int .i64)).length : Int) = ((sk0.map (D.int .i64)).length : Int) + 1)) = true) = False from by rw [hd]; simp] at h
                  exact h
                · have hix : ((((sk0 ++ [cd2]).map (D.int .i64)).length : Int) - 1).toNat = sk0.length := by rw [hskn]; omega
                  have hgl' : ((sk0 ++ [cd2]).map (D.int .i64))[((((sk0 ++ [cd2]).map (D.int .i64)).length : Int) - 1).toNat]? = some (.int .i64 cd2) := by rw [hix]; exact hgl
                  (refine goA ?_)
                  show Ar .i64 ((((sk0 ++ [cd2]).map (D.int .i64)).length : Int) - 1) _
                  (refine goA ?_)
                  refine Opt.of hgl' ?_
                  (refine goA ?_)
                  refine Opt.of hgu ?_
                  (refine goA ?_)
                  refine ⟨_, _, _, ?_, ⟨k + 1, ?_, rfl, rfl, rfl⟩, ?_⟩
                  · show C.th.length - (k + 1) < C.th.length - k; omega
                  · show k + 1 ≤ C.th.length; omega
                  · refine Weak.backT 4 (by simp) (by first | rfl | kernel_rfl) (by kernel_rfl) (Nat.le_of_ble_eq_true rfl) tld (by kernel_rfl) (by kernel_rfl)
          · (refine goA ?_)
            refine Opt.of hgk ?_
            (refine goA ?_)
            refine Opt.of hgx ?_
            (refine goA ?_)
            refine ⟨_, _, _, ?_, ⟨k + 1, ?_, rfl, rfl, rfl⟩, ?_⟩
            · show C.th.length - (k + 1) < C.th.length - k; omega
            · show k + 1 ≤ C.th.length; omega
            · refine Weak.backT 4 (by simp) (by first | rfl | kernel_rfl) (by kernel_rfl) (Nat.le_of_ble_eq_true rfl) tld (by kernel_rfl) (by kernel_rfl)
        · (refine goA ?_)
          refine Br.dec (fun h6 => ?_) (fun h6 => ?_)
          · (refine goA ?_)
            refine Br.dec (fun h7 => ?_) (fun h7 => ?_)
            · have hn9 : ¬ (thAt Cx t).st = 9 := fun h => by have := j2 h; omega
              have hgt : (Cx.th.map thD)[t]? = some (thD (thAt Cx t)) := by rw [thAt_lt (by omega)]; exact get_map (List.getElem?_eq_getElem (by omega))
              (refine goA ?_)
              refine Opt.of hgt ?_
              (refine goA ?_)
              refine ⟨_, _, _, ?_, ⟨(i + 1, Cx), ?_, rfl, rfl, rfl⟩, ?_⟩
              · show l.length - (i + 1) < l.length - i; omega
              · exact ⟨hil, hcx⟩
              · refine Weak.backT 3 (by simp) (by first | rfl | kernel_rfl) (by kernel_rfl) (Nat.le_of_ble_eq_true rfl) tld (by kernel_rfl) (by kernel_rfl)
            · (refine goA ?_)
              refine ⟨_, _, _, ?_, ⟨(i + 1, Cx), ?_, rfl, rfl, rfl⟩, ?_⟩
              · show l.length - (i + 1) < l.length - i; omega
              · exact ⟨hil, hcx⟩
              · refine Weak.backT 3 (by simp) (by first | rfl | kernel_rfl) (by kernel_rfl) (Nat.le_of_ble_eq_true rfl) tld (by kernel_rfl) (by kernel_rfl)
          · (refine goA ?_)
            refine ⟨_, _, _, ?_, ⟨(i + 1, Cx), ?_, rfl, rfl, rfl⟩, ?_⟩
            · show l.length - (i + 1) < l.length - i; omega
            · exact ⟨hil, hcx⟩
            · refine Weak.backT 3 (by simp) (by first | rfl | kernel_rfl) (by kernel_rfl) (Nat.le_of_ble_eq_true rfl) tld (by kernel_rfl) (by kernel_rfl)
    · (refine goA ?_)
      refine Call.mk ((lives23).only _ rfl (by rintro d rfl; rfl)) ?_; rintro d os' ⟨rfl, rfl⟩
      (refine goA ?_)
      refine Ret.mk [.tmp 4] rfl ?_; (refine goA ?_)
      exact ⟨_, .same _, rfl, rfl⟩
  · (refine goA ?_)
    refine Call.mk ((lives23).only _ rfl (by rintro d rfl; rfl)) ?_; rintro d os' ⟨rfl, rfl⟩
    (refine goA ?_)
    refine Ret.mk [.tmp 4] rfl ?_; (refine goA ?_)
    exact ⟨_, .same _, rfl, rfl⟩
theorem law3 (p : Pg) (hp : p.okB) (l : List Int) (hl : lok l) : Spec Tryz.prog 3 [pgD p, ints l] [] (fun d os' => d = .bool true) := (law3c p hp l hl).mono (fun d os' h => h.1)
end Go.Proofs.YtkceciebmkklpaaGreat.V
end
section
namespace Go.Proofs.YtkceciebmkklpaaGreat.V
open Go Go.Proofs Go.RowKit Go.ChangeShapes Go.WideShapes Go.ChangeAt
set_option maxRecDepth 100000
theorem b3 : Tryz.prog.bytesOf 3 = 8 := by kernel_rfl
theorem b23 : Tryz.prog.bytesOf 23 = 24 := by kernel_rfl
theorem b45 : Tryz.prog.bytesOf 68 = 32 := by kernel_rfl
theorem b139 : Tryz.prog.bytesOf 65 = 16 := by kernel_rfl
theorem opens_i : Opens Tryz.prog 3 (D.int .i64) I64 := by
  refine opens_iso (opens_int Tryz.underlying3) (fun x => x) (fun x => rfl) (fun x hx => hx)
theorem opens_is : Opens Tryz.prog 23 ints lok := by
  refine opens_iso (opens_slice Tryz.underlying23 opens_i (sz := 1) (by kernel_rfl) (by decide)) (fun x => x) (fun x => rfl) (fun x hx => ?_)
  have h1 := hx.2.1
  rw [b3] at h1
  exact ⟨h1, hx.2.2⟩
theorem opens_iss : Opens Tryz.prog 24 (fun l : List (List Int) => .lst 1 false (l.map ints)) (fun l => l.length * 24 ≤ 140737488351232 ∧ ∀ x ∈ l, lok x) := by
  refine opens_iso (opens_slice Tryz.underlying24 opens_is (sz := 1) (by kernel_rfl) (by decide)) (fun x => x) (fun x => rfl) (fun x hx => ?_)
  have h1 := hx.2.1
  rw [b23] at h1
  exact ⟨h1, hx.2.2⟩
theorem opens_in : Opens Tryz.prog 65 inD (fun x => I64 x.1 ∧ I64 x.2) := by
  refine opens_iso (opens_struct (P := Tryz.prog) (t := 65) Tryz.underlying65 (by kernel_rfl) (opensL_cons opens_i (opensL_one opens_i))) (fun x => (x.1, x.2)) (fun x => rfl) (fun x hx => hx)
theorem opens_fu : Opens Tryz.prog 68 fuD (fun f => I64 f.loc ∧ f.code.length * 16 ≤ 140737488351232 ∧ ∀ x ∈ f.code, I64 x.1 ∧ I64 x.2) := by
  refine opens_iso (opens_struct (P := Tryz.prog) (t := 68) Tryz.underlying68 (by kernel_rfl) (opensL_cons opens_i (opensL_one (opens_slice Tryz.underlying63 opens_in (sz := 2) (by kernel_rfl) (by decide))))) (fun x => (⟨x.1, x.2⟩ : Fu)) (fun x => rfl) (fun x hx => ?_)
  have h1 := hx.2.2.1
  rw [b139] at h1
  exact ⟨hx.1, h1, hx.2.2.2⟩
theorem opens_pg : Opens Tryz.prog 26 pgD Pg.okB := by
  refine opens_iso (opens_struct (P := Tryz.prog) (t := 26) Tryz.underlying26 (by kernel_rfl) (opensL_cons (opens_slice Tryz.underlying22 opens_fu (sz := 2) (by kernel_rfl) (by decide)) (opensL_cons opens_i (opensL_cons opens_is (opensL_cons opens_is (opensL_cons opens_is (opensL_cons opens_iss (opensL_one opens_i))))))))
    (fun x => (⟨x.1, x.2.1, x.2.2.1, x.2.2.2.1, x.2.2.2.2.1, x.2.2.2.2.2.1, x.2.2.2.2.2.2⟩ : Pg)) (fun x => rfl) (fun x hx => ?_)
  obtain ⟨h1, h2, h3, h4, h5, h6, h7⟩ := hx
  have h12 := h1.2.1
  rw [b45] at h12
  exact ⟨h12, h1.2.2, h2, h3, h4, h5, h6.1, h6.2, h7⟩
end Go.Proofs.YtkceciebmkklpaaGreat.V
end
