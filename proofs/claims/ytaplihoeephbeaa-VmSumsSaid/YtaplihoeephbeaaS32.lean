/- S32: a text of a symbolic executor that is proved sound, and contracts that are proved with it. -/
import Derived.Test.YtaplihoeephbeaaS31
namespace Go.Proofs.Ytaplihoeephbeaa.V
open Go Go.Proofs
set_option maxRecDepth 100000
set_option maxHeartbeats 40000000
theorem kept_of {l : List Int} (h : ∀ v ∈ l, kept2 v) : kept l = true := (kept_iff _).2 h
theorem gPush {g : Pg} {t : Th} (ht : GoodT g t) (v : Int) : (pushX t v = ((pushT t v).1, nq) ∧ GoodT g (pushT t v).1) ∨ pushX t v = (endT 2, ⟨1, 0, 2⟩) := by
  obtain ⟨h1, h2, h3, h4, h5, h6, h7⟩ := ht
  unfold pushX pushT
  by_cases h : t.sk.length = 16
  · right; rw [if_pos h]; rfl
  · left
    rw [if_neg h]
    refine ⟨rfl, h1, h2, h3, by simp; omega, kept_of ?_, h6, h7⟩
    intro x hx
    rcases List.mem_append.1 hx with hx | hx
    · exact (kept_iff _).1 h5 x hx
    · simp only [List.mem_singleton] at hx; subst hx; exact keep_range v
theorem gPop {g : Pg} {t : Th} (ht : GoodT g t) : GoodT g (popM t).1 := by
  obtain ⟨h1, h2, h3, h4, h5, h6, h7⟩ := ht
  have hv := popM_v ((kept_iff _).1 h5)
  have hs := popM_sk t
  have hf := popM_fr t
  have hrest : (popM t).1.st = t.st ∧ (popM t).1.on = t.on ∧ (popM t).1.code = t.code := by unfold popM; split <;> exact ⟨rfl, rfl, rfl⟩
  refine ⟨hrest.1.trans h1, hrest.2.1.trans h2, hrest.2.2.trans h3, by omega, kept_of hv.2, by rw [hf]; exact h6, by rw [hf]; exact h7⟩
theorem gTop {g : Pg} {t : Th} (ht : GoodT g t) {s : List Fm} {f f' : Fm} (hs : t.fr = s ++ [f]) (ho : oddF g f' = false) : GoodT g { t with fr := s ++ [f'] } := by
  obtain ⟨h1, h2, h3, h4, h5, h6, h7⟩ := ht
  refine ⟨h1, h2, h3, h4, h5, by rw [hs] at h6; simpa using h6, ?_⟩
  intro x hx
  rcases List.mem_append.1 hx with hx | hx
  · exact h7 x (by rw [hs]; simp [hx])
  · simp only [List.mem_singleton] at hx; subst hx; exact ho
/-- How a step goes. -/
def StepOk (g : Pg) (r : Th × Rq) : Prop := (r.2.kd ≠ 1 ∧ GoodT g r.1 ∧ (r.2.kd = 0 → r.2 = nq)) ∨ ∃ c, (c = 0 ∨ c = 1 ∨ c = 2 ∨ c = 3 ∨ c = 6) ∧ r = (endT c, ⟨1, 0, c⟩)
theorem okPush {g : Pg} {t : Th} (ht : GoodT g t) (v : Int) : StepOk g (pushX t v) := by
  rcases gPush ht v with ⟨h1, h2⟩ | h
  · rw [h1]; exact .inl ⟨by show (0 : Int) ≠ 1; decide, h2, fun _ => rfl⟩
  · rw [h]; exact .inr ⟨2, by simp, rfl⟩
theorem okPlain {g : Pg} {t : Th} (ht : GoodT g t) : StepOk g (t, nq) := .inl ⟨by show (0 : Int) ≠ 1; decide, ht, fun _ => rfl⟩
theorem okAsk {g : Pg} {t : Th} (ht : GoodT g t) {k a v : Int} (h0 : k ≠ 0) (h1 : k ≠ 1) : StepOk g (t, ⟨k, a, v⟩) := .inl ⟨h1, ht, fun h => absurd h h0⟩
theorem step_ok {g : Pg} (hg : GoodP g) {t : Th} (ht : GoodT g t) : StepOk g (stepT g t) := by
  obtain ⟨s, k, pc, ls, u, h⟩ := ST.of ht
  obtain ⟨⟨op, a⟩, b, hx⟩ : ∃ x b, fetchI g ⟨k, pc, ls⟩ = (x, b) := ⟨_, _, rfl⟩
  cases b with
  | false => rw [stepT_off h.fr hx]; exact .inr ⟨6, by simp, rfl⟩
  | true =>
    rw [stepT_go h.fr hx]
    dsimp only
    have hxt := xt_of hg h hx
    have hpl := (fetch_in h.hu hx).2
    have hgu := hg.fu u (List.mem_of_getElem? h.hu)
    have hin := hgu.2.2 _ (fetch_in h.hu hx).1
    obtain ⟨i1, i2, i3, i4, i5, _⟩ := hin
    have hlsl := h.lsl
    have hloc := hgu.1
    have odd : ∀ (q : Int) (l : List Int), 0 ≤ q → q ≤ u.code.length → l.length = ls.length → kept l = true → oddF g ⟨k, q, l⟩ = false := fun q l h0 h1 h2 h3 => odd_not h.hu ⟨h0, h1⟩ (by omega) hloc.1 h3
    obtain ⟨t1, ht1⟩ : ∃ t1 : Th, t1 = { t with fr := s ++ [⟨k, (pc : Int) + 1, ls⟩] } := ⟨_, rfl⟩
    have hG : GoodT g t1 := by rw [ht1]; exact gTop ht h.fr (odd _ ls (by omega) (by omega) rfl h.kl)
    have hfr1 : t1.fr = s ++ [⟨k, (pc : Int) + 1, ls⟩] := by rw [ht1]
    rw [← ht1] at hxt ⊢
    by_cases hu : (t1.sk.length : Int) < needsI op
    · rw [ex_under g s _ t1 a hu]; exact .inr ⟨1, by simp, rfl⟩
    have hpG := gPop hG
    have hppG := gPop hpG
    have hpf : (popM t1).1.fr = s ++ [⟨k, (pc : Int) + 1, ls⟩] := by rw [popM_fr]; exact hfr1
    have hc : op = 0 ∨ op = 1 ∨ op = 2 ∨ op = 3 ∨ op = 4 ∨ op = 5 ∨ op = 6 ∨ op = 7 ∨ op = 8 ∨ op = 9 ∨ op = 10 ∨ op = 11 ∨ op = 12 ∨ op = 13 ∨ op = 14 ∨ op = 15 ∨ op = 16 ∨ op = 17 ∨ op = 18 ∨ op = 19 ∨ op = 20 ∨ op = 21 ∨ op = 22 ∨ op = 23 ∨ op = 24 ∨ op = 25 ∨ op = 26 := by have := hxt.opr; omega
    have n1 : needsI op = 1 → 0 < t1.sk.length := fun e => by omega
    have n2 : needsI op = 2 → 1 < t1.sk.length := fun e => by omega
    dsimp only at i3 i4 i5
    rcases hc with rfl | rfl | rfl | rfl | rfl | rfl | rfl | rfl | rfl | rfl | rfl | rfl | rfl | rfl | rfl | rfl | rfl | rfl | rfl | rfl | rfl | rfl | rfl | rfl | rfl | rfl | rfl
    · rw [ex0]; exact okPush hG _
    · rw [ex1 g s _ t1 a (n1 rfl)]; exact okPlain hpG
    · rw [ex2 g s _ t1 a (n1 rfl) hG.sk]
      rcases gPush hpG (popM t1).2.1 with ⟨_, h2⟩ | h2
      · exact okPush h2 _
      · exfalso
        have htt := (popM_tt (n1 rfl)).2
        have h16 := hG.sk
        have hne : ¬ (popM t1).1.sk.length = 16 := by omega
        unfold pushX pushT at h2
        simp [hne] at h2
    · rw [ex3 g s _ t1 a (n2 rfl)]; exact okPush hppG _
    · rw [ex4 g s _ t1 a (n2 rfl)]; exact okPush hppG _
    · obtain ⟨a0, a1⟩ := hxt.lo (.inl rfl)
      dsimp only at a1
      rw [ex5 g s _ t1 a (List.getElem?_eq_getElem (l := ls) (i := a.toNat) (by omega))]; exact okPush hG _
    · obtain ⟨a0, a1⟩ := hxt.lo (.inr rfl)
      rw [ex6 g s _ t1 a (n1 rfl)]
      refine okPlain (gTop hpG hpf (odd ((pc : Int) + 1) _ (by omega) (by omega) (by simp) (kept_of ?_)))
      intro y hy
      rcases List.mem_or_eq_of_mem_set hy with hy | rfl
      · exact (kept_iff _).1 h.kl y hy
      · exact keep_range _
    · have := i4 (.inl rfl)
      rw [ex7]; exact okPlain (gTop hG hfr1 (odd a ls (by omega) (by omega) rfl h.kl))
    · have := i4 (.inr rfl)
      rw [ex8 g s _ t1 a (n1 rfl)]
      split
      · exact okPlain (gTop hpG hpf (odd a ls (by omega) (by omega) rfl h.kl))
      · exact okPlain hpG
    · obtain ⟨a0, a1⟩ := hxt.fu rfl
      obtain ⟨v, hv⟩ : ∃ v, g.fu[a.toNat]? = some v := ⟨_, List.getElem?_eq_getElem (by omega)⟩
      rw [ex9 g s _ t1 a hv]
      unfold enterT
      by_cases h8 : t1.fr.length = 8
      · rw [if_pos h8]; exact .inr ⟨3, by simp, rfl⟩
      · rw [if_neg h8]
        have hgv := hg.fu v (List.mem_of_getElem? hv)
        obtain ⟨g1, g2, g3, g4, g5, g6, g7⟩ := hG
        refine okPlain ⟨g1, g2, g3, g4, g5, by simp; omega, ?_⟩
        intro x hx
        rcases List.mem_append.1 hx with hx | hx
        · exact g7 x hx
        · simp only [List.mem_singleton] at hx; subst hx
          have := odd_not (pc := 0) (l := List.replicate v.loc.toNat 0) hv ⟨by omega, by omega⟩ (by simp) hgv.1.1 (kept_of (fun y hy => by rw [List.eq_of_mem_replicate hy]; exact ⟨by decide, by decide⟩))
          rwa [show ((a.toNat : Nat) : Int) = a by omega] at this
    · rw [ex10]
      by_cases hz : s = []
      · rw [if_pos hz, if_pos hz]; exact .inr ⟨0, by simp, rfl⟩
      · rw [if_neg hz, if_neg hz]
        obtain ⟨g1, g2, g3, g4, g5, g6, g7⟩ := hG
        have := List.length_pos_iff.2 hz
        refine okPlain ⟨g1, g2, g3, g4, g5, ⟨this, by have := h.sl; show s.length ≤ 8; omega⟩, fun x hx => g7 x (by rw [hfr1]; simp [show x ∈ s from hx])⟩
    · rw [exR g s _ t1 a (op := 11) (k := 3) rfl]; exact okAsk hG (by decide) (by decide)
    · rw [exR g s _ t1 a (op := 12) (k := 2) rfl]; exact okAsk hG (by decide) (by decide)
    · rw [exQ g s _ t1 a (op := 13) (k := 4) (n1 rfl) rfl]; exact okAsk hpG (by decide) (by decide)
    · rw [exQ g s _ t1 a (op := 14) (k := 5) (n1 rfl) rfl]; exact okAsk hpG (by decide) (by decide)
    · rw [exR g s _ t1 a (op := 15) (k := 6) rfl]; exact okAsk hG (by decide) (by decide)
    · rw [exR g s _ t1 a (op := 16) (k := 7) rfl]; exact okAsk hG (by decide) (by decide)
    · rw [exR g s _ t1 a (op := 17) (k := 8) rfl]; exact okAsk hG (by decide) (by decide)
    · rw [exR g s _ t1 a (op := 18) (k := 9) rfl]; exact okAsk hG (by decide) (by decide)
    · rw [exR g s _ t1 a (op := 19) (k := 10) rfl]; exact okAsk hG (by decide) (by decide)
    · rw [exR g s _ t1 a (op := 20) (k := 11) rfl]; exact okAsk hG (by decide) (by decide)
    · rw [exR g s _ t1 a (op := 21) (k := 12) rfl]; exact okAsk hG (by decide) (by decide)
    · rw [exQ g s _ t1 a (op := 22) (k := 13) (n1 rfl) rfl]; exact okAsk hpG (by decide) (by decide)
    · rw [exR g s _ t1 a (op := 23) (k := 14) rfl]; exact okAsk hG (by decide) (by decide)
    · rw [exR g s _ t1 a (op := 24) (k := 15) rfl]; exact okAsk hG (by decide) (by decide)
    · rw [exQ g s _ t1 a (op := 25) (k := 16) (n1 rfl) rfl]; exact okAsk hpG (by decide) (by decide)
    · rw [ex26]; exact .inr ⟨0, by simp, rfl⟩
end Go.Proofs.Ytaplihoeephbeaa.V
