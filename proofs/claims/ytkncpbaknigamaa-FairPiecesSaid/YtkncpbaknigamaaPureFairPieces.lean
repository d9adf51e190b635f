/- Into how many pieces picks may be cut is the reference's best of all cuts, and no fewer than the picks have times their Least: the plain law, for every list of picks and number of workers. -/
import Derived.Test.YtkncpbaknigamaaPFairx4
import Derived.Test.YtkncpbaknigamaaFullMath
namespace Go.Proofs.Ytkncpbaknigamaa.Pure
open Go.RowKit Go.Proofs.Ytkncpbaknigamaa.PFair Go.Proofs.YtkncpbaknigamaaW.PrintWords Go.Proofs.YtkncpbaknigamaaW.PrintLast Go.Proofs.Ytkncpbaknigamaa.FairMath Go.Proofs.Ytkncpbaknigamaa.GEach Go.Proofs.Ytkncpbaknigamaa.FullMath
set_option linter.unusedVariables false

theorem rd_nat (xs : List Int) (i : Nat) : rd xs (i : Int) = xs.getD i 0 := by simp [rd]
theorem getD_set (xs : List Int) (c j : Nat) (v : Int) (h : c < xs.length) : (xs.set c v).getD j 0 = if j = c then v else xs.getD j 0 := by
  rw [set_getD]
  by_cases e : j = c
  · subst e; rw [if_pos ⟨rfl, h⟩, if_pos rfl]
  · rw [if_neg (fun q => e q.1.symm), if_neg e]

theorem all_at (l : List Int) (workers : Int) (hl : l.length ≤ 25) (i kk : Nat) (h1 : i ≤ kk) (h2 : kk ≤ l.length) (k : Nat) (hk : 2000 ≤ k) :
    ∃ b : Bool, hibernacleref14_all.f k ((l.take kk).drop i) workers = some b ∧ (b = true ↔ All l (Many workers) i kk) := by
  have hlen : ((l.take kk).drop i).length = kk - i := by simp; omega
  obtain ⟨b, hb, hw⟩ := all_tells ((l.take kk).drop i) workers (by omega) k (by omega)
  refine ⟨b, hb, hw.trans ?_⟩
  rw [hlen]
  have e : ∀ w : Nat, Av ((l.take kk).drop i) w 0 (kk - i) ↔ Av l w i kk := by
    intro w
    have := av_piece l w i (kk - i) (by omega)
    rwa [show i + (kk - i) = kk by omega] at this
  exact ⟨fun h w hw => fun ha => h w hw ((e w).2 ha), fun h w hw => fun ha => h w hw ((e w).1 ha)⟩

theorem inner_loop (l : List Int) (workers : Int) (hl : l.length ≤ 25) (kk : Nat) (hk1 : 1 ≤ kk) (hk2 : kk ≤ l.length) (d : Nat) : ∀ (k i : Nat) (best : List Int), kk - i = d → d + 2000 < k → i ≤ kk → best.length = l.length + 1 →
    (∀ j, j < kk → best.getD j 0 = ((gr l (Many workers) j).1 : Int)) → ((gr l (Many workers) (kk - 1)).1 : Int) ≤ best.getD kk 0 → best.getD kk 0 ≤ ((gr l (Many workers) kk).1 : Int) →
    (∀ i', i' < i → All l (Many workers) i' kk → ((gr l (Many workers) i').1 : Int) + 1 ≤ best.getD kk 0) →
    ∃ best' : List Int, hibernacleref14_Full.l1 k l workers best (kk : Int) (i : Int) = hibernacleref14_Full.l0 (k - 1 - d) l workers best' ((kk + 1 : Nat) : Int) ∧ best'.length = l.length + 1 ∧ (∀ j, j < kk + 1 → best'.getD j 0 = ((gr l (Many workers) j).1 : Int)) := by
  induction d with
  | zero =>
    intro k i best hd hk hi hlen hb h1 h2 h3
    obtain ⟨k, rfl⟩ : ∃ m, k = m + 1 := ⟨k - 1, by omega⟩
    refine ⟨best, ?_, hlen, fun j hj => ?_⟩
    · simp only [hibernacleref14_Full.l1]
      rw [if_neg (by omega), wrap_cast ((kk : Int) + 1) (kk + 1) (by omega) (by omega)]
      rfl
    · by_cases e : j = kk
      · subst e
        obtain ⟨q, rfl⟩ : ∃ q, j = q + 1 := ⟨j - 1, by omega⟩
        rcases gr_step_is l (Many workers) q with e1 | ⟨i', e1, e2, e3⟩
        · rw [show q + 1 - 1 = q by omega] at h1; omega
        · have := h3 i' (by omega) e2
          omega
      · exact hb j (by omega)
  | succ d ih =>
    intro k i best hd hk hi hlen hb h1 h2 h3
    obtain ⟨k, rfl⟩ : ∃ m, k = m + 1 := ⟨k - 1, by omega⟩
    obtain ⟨b, hall, hb2⟩ := all_at l workers hl i kk (by omega) hk2 k (by omega)
    have hgi := gr_le l (Many workers) i
    have hgk := gr_le l (Many workers) kk
    have ek : k + 1 - 1 - (d + 1) = k - 1 - d := by omega
    simp only [hibernacleref14_Full.l1]
    rw [if_pos (by omega), if_pos (by omega), if_pos (by omega), if_pos (by omega), Int.toNat_natCast, Int.toNat_natCast, hall, ek]
    simp only [Option.bind_some]
    rw [wrap_cast ((i : Int) + 1) (i + 1) (by omega) (by omega)]
    cases b with
    | false =>
      rw [if_neg (by simp)]
      have hna : ¬ All l (Many workers) i kk := fun h => by simpa using hb2.2 h
      refine ih k (i + 1) best (by omega) (by omega) (by omega) hlen hb h1 h2 (fun i' hi' ha => ?_)
      by_cases e : i' = i
      · subst e; exact absurd ha hna
      · exact h3 i' (by omega) ha
    | true =>
      rw [if_pos rfl, if_pos (by omega), if_pos (by omega), if_pos (by omega), rd_nat, rd_nat, hb i (by omega), wrap_in (x := ((gr l (Many workers) i).1 : Int) + 1) (by omega) (by omega)]
      have ha := hb2.1 rfl
      have hs : ((gr l (Many workers) i).1 : Int) + 1 ≤ ((gr l (Many workers) kk).1 : Int) := by
        obtain ⟨q, rfl⟩ : ∃ q, kk = q + 1 := ⟨kk - 1, by omega⟩
        have := gr_step_best l (Many workers) q i (by omega) ha
        omega
      have hgd : ∀ j v, (best.set kk v).getD j 0 = if j = kk then v else best.getD j 0 := fun j v => getD_set best kk j v (by omega)
      refine ih k (i + 1) _ (by omega) (by omega) (by omega) (by simpa using hlen) (fun j hj => by rw [hgd, if_neg (by omega)]; exact hb j hj) ?_ ?_ ?_
      · rw [hgd, if_pos rfl]; unfold mx; omega
      · rw [hgd, if_pos rfl]; unfold mx; omega
      · intro i' hi' ha'
        rw [hgd, if_pos rfl]
        by_cases e : i' = i
        · subst e; unfold mx; omega
        · have := h3 i' (by omega) ha'
          unfold mx; omega

theorem outer_loop (l : List Int) (workers : Int) (hl : l.length ≤ 25) (d : Nat) : ∀ (k kk : Nat) (best : List Int), l.length + 1 - kk = d → d * 100 + 3000 < k → 1 ≤ kk → kk ≤ l.length + 1 → best.length = l.length + 1 →
    (∀ j, j < kk → best.getD j 0 = ((gr l (Many workers) j).1 : Int)) →
    hibernacleref14_Full.l0 k l workers best (kk : Int) = some ((gr l (Many workers) l.length).1 : Int) := by
  induction d with
  | zero =>
    intro k kk best hd hk h1 h2 hlen hb
    obtain ⟨k, rfl⟩ : ∃ m, k = m + 1 := ⟨k - 1, by omega⟩
    simp only [hibernacleref14_Full.l0]
    rw [if_neg (by omega), if_pos (by omega), if_pos (by omega), rd_nat, hb l.length (by omega)]
  | succ d ih =>
    intro k kk best hd hk h1 h2 hlen hb
    obtain ⟨k, rfl⟩ : ∃ m, k = m + 1 := ⟨k - 1, by omega⟩
    simp only [hibernacleref14_Full.l0]
    rw [wrap_cast ((kk : Int) - 1) (kk - 1) (by omega) (by omega)]
    rw [if_pos (by omega), if_pos (by omega), if_pos (by omega), if_pos (by omega), if_pos (by omega), Int.toNat_natCast, rd_nat, hb (kk - 1) (by omega)]
    have hgd : ∀ j v, (best.set kk v).getD j 0 = if j = kk then v else best.getD j 0 := fun j v => getD_set best kk j v (by omega)
    have hm : (gr l (Many workers) (kk - 1)).1 ≤ (gr l (Many workers) kk).1 := gr_mono' l (Many workers) (by omega)
    obtain ⟨best', e, h3, h4⟩ := inner_loop l workers hl kk h1 (by omega) (kk - 0) k 0 (best.set kk ((gr l (Many workers) (kk - 1)).1 : Int)) rfl (by omega) (by omega) (by simpa using hlen)
      (fun j hj => by rw [hgd, if_neg (by omega)]; exact hb j hj) (by rw [hgd, if_pos rfl]; omega) (by rw [hgd, if_pos rfl]; omega) (fun i' hi' => by omega)
    have e0 : ((0 : Nat) : Int) = 0 := rfl
    rw [e0] at e
    rw [e]
    exact ih _ (kk + 1) best' (by omega) (by omega) (by omega) (by omega) h3 h4

theorem refFull_tells (l : List Int) (workers : Int) (hl : l.length ≤ 25) (k : Nat) (hk : 6000 ≤ k) : hibernacleref14_Full.f k l workers = some ((gr l (Many workers) l.length).1 : Int) := by
  unfold hibernacleref14_Full.f
  rw [wrap_cast ((l.length : Int) + 1) (l.length + 1) (by omega) (by omega), if_pos (by omega), Int.toNat_natCast, if_pos (by omega)]
  refine outer_loop l workers hl l.length k 1 _ (by omega) (by omega) (by omega) (by omega) (by simp) (fun j hj => ?_)
  obtain rfl : j = 0 := by omega
  simp [gr]

theorem FairPieces : hibernaclelaw14_FairPieces.Pure := by
  intro l0 a1 _ _ _ _
  refine ⟨7000, ?_⟩
  obtain ⟨t, ht, htl, _⟩ := few_tells l0 25 (by omega)
  obtain ⟨L, hL, hL1, hL2, hLw⟩ := least_tells t a1 (by omega) 7000 (by omega)
  unfold hibernaclelaw14_FairPieces.f
  rw [show (25 : Int) = ((25 : Nat) : Int) from rfl, ht]; simp only [Option.bind_some]
  rw [full_tells t a1 (by omega)]; simp only [Option.bind_some]
  rw [hL]; simp only [Option.bind_some]
  rw [if_neg (by omega), refFull_tells t a1 htl 7000 (by omega)]; simp only [Option.bind_some]
  obtain ⟨m, rfl⟩ : ∃ m : Nat, L = m := ⟨L.toNat, by omega⟩
  have hall : ∀ i, i + m ≤ t.length → All t (Many a1) i (i + m) := by
    intro i hi w hw ha
    exact (hLw m (by omega)).1 (Int.le_refl _) w hw ((wd_iff t w m).2 ⟨i, hi, ha⟩)
  obtain ⟨q1, q2⟩ := gr_least t (Many a1) m t.length (by omega) hall t.length (Nat.le_refl _)
  have hle := (gr_start t (Many a1) t.length).1
  have hdiv : t.length / m ≤ (gr t (Many a1) t.length).1 := by
    rw [← Nat.lt_succ_iff, Nat.div_lt_iff_lt_mul (by omega), Nat.succ_mul]
    omega
  have hd0 : t.length / m ≤ t.length := Nat.div_le_self _ _
  have e : (t.length : Int) / (m : Int) = ((t.length / m : Nat) : Int) := rfl
  rw [if_pos trivial, if_neg (by omega), e]
  generalize t.length / m = q at *
  rw [wrap_in (x := (q : Int)) (by omega) (by omega), if_pos (by omega), lives_at (by omega)]
  rfl
end Go.Proofs.Ytkncpbaknigamaa.Pure
