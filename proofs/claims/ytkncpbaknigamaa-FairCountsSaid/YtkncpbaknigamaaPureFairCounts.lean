/- How often workers are picked, and how long not, is told as the reference tells it: the plain law, for every list of picks, number of workers and worker. -/
import Derived.Test.YtkncpbaknigamaaPFairx3
import Derived.Test.YtkncpbaknigamaaFairMath
namespace Go.Proofs.Ytkncpbaknigamaa.Pure
open Go.RowKit Go.Proofs.Ytkncpbaknigamaa.PFair Go.Proofs.YtkncpbaknigamaaW.PrintWords Go.Proofs.YtkncpbaknigamaaW.PrintLast Go.Proofs.Ytkncpbaknigamaa.FairMath Go.Proofs.Ytkncpbaknigamaa.GEach

/-- How often w is among the first k. -/
def cnt (l : List Int) (w : Int) : Nat → Nat
  | 0 => 0
  | k + 1 => cnt l w k + if l.getD k 0 = w then 1 else 0
theorem cnt_le (l : List Int) (w : Int) (k : Nat) : cnt l w k ≤ k := by
  induction k with
  | zero => simp [cnt]
  | succ k ih => simp only [cnt]; split <;> omega
theorem cnt_zero (l : List Int) (w : Int) (k : Nat) : cnt l w k = 0 ↔ Av l w 0 k := by
  induction k with
  | zero => simp [cnt]; intro j h1 h2; omega
  | succ k ih =>
    simp only [cnt]
    constructor
    · intro h j h1 h2
      have hk : cnt l w k = 0 := by omega
      by_cases e : j = k
      · subst e
        intro hw
        rw [if_pos hw] at h; omega
      · exact ih.1 hk j h1 (by omega)
    · intro h
      have h1 := ih.2 (fun j h1 h2 => h j h1 (by omega))
      have h2 := h k (by omega) (by omega)
      rw [if_neg h2]; omega

theorem count_loop (l : List Int) (w : Int) (hl : l.length ≤ 10000) (d : Nat) : ∀ (k i : Nat), l.length - i = d → d < k → i ≤ l.length →
    hibernacleref14_Count.l0 k l w (cnt l w i : Int) (i : Int) = some (cnt l w l.length : Int) := by
  induction d with
  | zero =>
    intro k i hd hk hi
    obtain ⟨k, rfl⟩ : ∃ m, k = m + 1 := ⟨k - 1, by omega⟩
    obtain rfl : i = l.length := by omega
    simp only [hibernacleref14_Count.l0]
    rw [if_neg (by omega)]
  | succ d ih =>
    intro k i hd hk hi
    obtain ⟨k, rfl⟩ : ∃ m, k = m + 1 := ⟨k - 1, by omega⟩
    have hc := cnt_le l w i
    have er : rd l (i : Int) = l.getD i 0 := by simp [rd]
    simp only [hibernacleref14_Count.l0]
    rw [if_pos (by omega), if_pos (by omega), er, wrap_cast ((i : Int) + 1) (i + 1) (by omega) (by omega)]
    have hs : cnt l w (i + 1) = cnt l w i + if l.getD i 0 = w then 1 else 0 := rfl
    by_cases hx : l.getD i 0 = w
    · rw [if_pos hx, wrap_cast ((cnt l w i : Int) + 1) (cnt l w (i + 1)) (by rw [hs, if_pos hx]; omega) (by rw [hs, if_pos hx]; omega)]
      exact ih k (i + 1) (by omega) (by omega) (by omega)
    · rw [if_neg hx]
      have he : cnt l w (i + 1) = cnt l w i := by rw [hs, if_neg hx]; rfl
      have := ih k (i + 1) (by omega) (by omega) (by omega)
      rwa [he] at this
theorem count_tells (l : List Int) (w : Int) (hl : l.length ≤ 10000) (k : Nat) (hk : l.length < k) : hibernacleref14_Count.f k l w = some (cnt l w l.length : Int) :=
  count_loop l w hl l.length k 0 (by omega) hk (by omega)

/-- The tally at worker j. -/
theorem tally_at (l : List Int) (M j : Nat) (hj : j < M) (k : Nat) : (tally l M (pl l M k)).getD j 0 = (cnt l j k : Int) := by
  induction k with
  | zero => simp [pl, tally, cnt, List.getD_eq_getElem?_getD, hj]
  | succ k ih =>
    have hlen := tally_length l M (pl l M k)
    by_cases h : 0 ≤ l[k]?.getD 0 ∧ l[k]?.getD 0 < (M : Int)
    · rw [pl_yes h, tally_snoc]
      unfold bump
      rw [set_getD, hlen]
      simp only [cnt, List.getD_eq_getElem?_getD]
      simp only [List.getD_eq_getElem?_getD] at ih
      by_cases e : (l[k]?.getD 0).toNat = j
      · rw [if_pos ⟨e, hj⟩, e, ih, if_pos (by omega)]; omega
      · rw [if_neg (fun h => e h.1), ih, if_neg (by omega)]; omega
    · rw [pl_no h, ih]
      simp only [cnt, List.getD_eq_getElem?_getD]
      rw [if_neg (by omega)]; omega

/-! ### the reference's Gap -/
theorem refGap_inner (l : List Int) (w : Int) (hl : l.length ≤ 10000) (i : Nat) (hi : i < l.length) (d : Nat) : ∀ (k j : Nat) (gap : Int), l.length + 1 - j = d → d + l.length + 1 < k → i + 1 ≤ j → j ≤ l.length + 1 → 0 ≤ gap → gap ≤ l.length →
    (∀ m : Nat, 1 ≤ m → ((m : Int) ≤ gap ↔ ∃ a e, (a < i ∨ (a = i ∧ e < j)) ∧ e ≤ l.length ∧ a + m ≤ e ∧ Av l w a e)) →
    ∃ gap' : Int, hibernacleref14_Gap.l1 k l w gap i j = hibernacleref14_Gap.l0 (k - 1 - d) l w gap' ((i + 1 : Nat) : Int) ∧ 0 ≤ gap' ∧ gap' ≤ l.length ∧
      (∀ m : Nat, 1 ≤ m → ((m : Int) ≤ gap' ↔ ∃ a e, a < i + 1 ∧ e ≤ l.length ∧ a + m ≤ e ∧ Av l w a e)) := by
  induction d with
  | zero =>
    intro k j gap hd hk hij hj h0 h1 hw
    obtain ⟨k, rfl⟩ : ∃ m, k = m + 1 := ⟨k - 1, by omega⟩
    refine ⟨gap, ?_, h0, h1, fun m hm => ?_⟩
    · simp only [hibernacleref14_Gap.l1]
      rw [if_neg (by omega), wrap_cast ((i : Int) + 1) (i + 1) (by omega) (by omega)]
      rfl
    · rw [hw m hm]
      constructor
      · rintro ⟨a, e, h, h2⟩; exact ⟨a, e, by omega, h2⟩
      · rintro ⟨a, e, h, h2, h3, h4⟩; exact ⟨a, e, by omega, h2, h3, h4⟩
  | succ d ih =>
    intro k j gap hd hk hij hj h0 h1 hw
    obtain ⟨k, rfl⟩ : ∃ m, k = m + 1 := ⟨k - 1, by omega⟩
    have hlen : ((l.take j).drop i).length = j - i := by simp; omega
    have hct := count_tells ((l.take j).drop i) w (by omega) k (by omega)
    rw [hlen] at hct
    have hz : cnt ((l.take j).drop i) w (j - i) = 0 ↔ Av l w i j := by
      rw [cnt_zero]
      have := av_piece l w i (j - i) (by omega)
      rwa [show i + (j - i) = j by omega] at this
    have e1 : ((j : Int)).toNat = j := rfl
    have e2 : ((i : Int)).toNat = i := rfl
    have ek : k + 1 - 1 - (d + 1) = k - 1 - d := by omega
    simp only [hibernacleref14_Gap.l1]
    rw [if_pos (by omega), if_pos (by omega), if_pos (by omega), e1, e2, hct, ek]
    simp only [Option.bind_some]
    rw [wrap_cast ((j : Int) + 1) (j + 1) (by omega) (by omega), wrap_in (x := (j : Int) - i) (by omega) (by omega)]
    by_cases hc : cnt ((l.take j).drop i) w (j - i) = 0
    · rw [if_pos (by omega)]
      have hav := hz.1 hc
      refine ih k (j + 1) _ (by omega) (by omega) (by omega) (by omega) (by unfold mx; omega) (by unfold mx; omega) ?_
      intro m hm
      constructor
      · intro h
        by_cases hg : (m : Int) ≤ gap
        · obtain ⟨a, e, h2, h3⟩ := (hw m hm).1 hg
          exact ⟨a, e, by omega, h3⟩
        · exact ⟨i, j, .inr ⟨rfl, by omega⟩, by omega, by unfold mx at h; omega, hav⟩
      · rintro ⟨a, e, h2, h3, h4, h5⟩
        by_cases hx : a < i ∨ (a = i ∧ e < j)
        · have := (hw m hm).2 ⟨a, e, hx, h3, h4, h5⟩
          unfold mx; omega
        · unfold mx; omega
    · rw [if_neg (by omega)]
      refine ih k (j + 1) gap (by omega) (by omega) (by omega) (by omega) h0 h1 ?_
      intro m hm
      rw [hw m hm]
      constructor
      · rintro ⟨a, e, h2, h3⟩; exact ⟨a, e, by omega, h3⟩
      · rintro ⟨a, e, h2, h3, h4, h5⟩
        refine ⟨a, e, ?_, h3, h4, h5⟩
        by_cases hx : a < i ∨ (a = i ∧ e < j)
        · exact hx
        · obtain ⟨rfl, rfl⟩ : a = i ∧ e = j := by omega
          exact absurd (hz.2 h5) hc

theorem refGap_outer (l : List Int) (w : Int) (hl : l.length ≤ 10000) (d : Nat) : ∀ (k i : Nat) (gap : Int), l.length - i = d → d * (l.length + 3) + 2 * l.length + 3 < k → i ≤ l.length → 0 ≤ gap → gap ≤ l.length →
    (∀ m : Nat, 1 ≤ m → ((m : Int) ≤ gap ↔ ∃ a e, a < i ∧ e ≤ l.length ∧ a + m ≤ e ∧ Av l w a e)) →
    ∃ r : Int, hibernacleref14_Gap.l0 k l w gap (i : Int) = some r ∧ 0 ≤ r ∧ r ≤ l.length ∧ ∀ m : Nat, 1 ≤ m → ((m : Int) ≤ r ↔ ∃ a e, a < l.length ∧ e ≤ l.length ∧ a + m ≤ e ∧ Av l w a e) := by
  induction d with
  | zero =>
    intro k i gap hd hk hi h0 h1 hw
    obtain ⟨k, rfl⟩ : ∃ m, k = m + 1 := ⟨k - 1, by omega⟩
    obtain rfl : i = l.length := by omega
    refine ⟨gap, ?_, h0, h1, hw⟩
    simp only [hibernacleref14_Gap.l0]
    rw [if_neg (by omega)]
  | succ d ih =>
    intro k i gap hd hk hi h0 h1 hw
    obtain ⟨k, rfl⟩ : ∃ m, k = m + 1 := ⟨k - 1, by omega⟩
    have hs : (d + 1) * (l.length + 3) = d * (l.length + 3) + (l.length + 3) := Nat.succ_mul _ _
    simp only [hibernacleref14_Gap.l0]
    rw [if_pos (by omega), wrap_cast ((i : Int) + 1) (i + 1) (by omega) (by omega)]
    obtain ⟨g, e, g0, g1, hg⟩ := refGap_inner l w hl i (by omega) (l.length + 1 - (i + 1)) k (i + 1) gap rfl (by omega) (by omega) (by omega) h0 h1 (by
      intro m hm
      rw [hw m hm]
      constructor
      · rintro ⟨a, e, h2, h3⟩; exact ⟨a, e, .inl h2, h3⟩
      · rintro ⟨a, e, h2, h3, h4, h5⟩; exact ⟨a, e, by omega, h3, h4, h5⟩)
    rw [e]
    exact ih _ (i + 1) g (by omega) (by omega) (by omega) g0 g1 hg

theorem refGap_tells (l : List Int) (w : Int) (hl : l.length ≤ 10000) (k : Nat) (hk : l.length * (l.length + 3) + 2 * l.length + 3 < k) :
    ∃ r : Int, hibernacleref14_Gap.f k l w = some r ∧ 0 ≤ r ∧ r ≤ l.length ∧ ∀ m : Nat, 1 ≤ m → ((m : Int) ≤ r ↔ Wd l w l.length m) := by
  obtain ⟨r, h, h0, h1, hw⟩ := refGap_outer l w hl l.length k 0 0 rfl hk (by omega) (by omega) (by omega) (by
    intro m hm
    constructor
    · intro h; omega
    · rintro ⟨a, e, h, _⟩; omega)
  refine ⟨r, h, h0, h1, fun m hm => ?_⟩
  rw [hw m hm]
  constructor
  · rintro ⟨a, e, h2, h3, h4, h5⟩
    exact ⟨e, h3, by omega, fun j q1 q2 => h5 j (by omega) q2⟩
  · rintro ⟨e, h2, h3, h4⟩
    exact ⟨e - m, e, by omega, h2, by omega, h4⟩

theorem gaps_same (l : List Int) (w : Int) (hl : l.length ≤ 25) (k : Nat) (hk : 1000 ≤ k) : ∃ r, fair_Gap.f k l w = some r ∧ hibernacleref14_Gap.f k l w = some r := by
  obtain ⟨r, h, h0, h1, hw⟩ := gap_tells l w (by omega) k (by omega)
  have hb : l.length * (l.length + 3) ≤ 25 * 28 := Nat.mul_le_mul hl (by omega)
  obtain ⟨r', h', h0', h1', hw'⟩ := refGap_tells l w (by omega) k (by omega)
  have e : r = r' := by
    rcases Int.lt_trichotomy r r' with hlt | he | hgt
    · have a := (hw' r'.toNat (by omega)).1 (by omega)
      have b := (hw r'.toNat (by omega)).2 a
      omega
    · exact he
    · have a := (hw r.toNat (by omega)).1 (by omega)
      have b := (hw' r.toNat (by omega)).2 a
      omega
  subst e
  exact ⟨r, h, h'⟩

theorem law_loop (t : List Int) (w : Int) (M : Nat) (hM : M ≤ 64) (ht : t.length ≤ 25) (d : Nat) : ∀ (k i : Nat), M - i = d → d + 2000 < k → i ≤ M →
    hibernaclelaw14_FairCounts.l0 k t w (tally t M (pl t M t.length)) (i : Int) = some true := by
  have hlen := tally_length t M (pl t M t.length)
  induction d with
  | zero =>
    intro k i hd hk hi
    obtain ⟨k, rfl⟩ : ∃ m, k = m + 1 := ⟨k - 1, by omega⟩
    obtain rfl : i = M := by omega
    obtain ⟨r, e1, e2⟩ := gaps_same t w ht k (by omega)
    obtain ⟨r0, f1, f2⟩ := gaps_same t 0 ht k (by omega)
    simp only [hibernaclelaw14_FairCounts.l0]
    rw [if_neg (by omega), e1, e2, f1, f2, lives_at (by omega)]
    simp
  | succ d ih =>
    intro k i hd hk hi
    obtain ⟨k, rfl⟩ : ∃ m, k = m + 1 := ⟨k - 1, by omega⟩
    have hta := tally_at t M i (by omega) t.length
    have er : rd (tally t M (pl t M t.length)) (i : Int) = (cnt t i t.length : Int) := by
      rw [← hta]; simp [rd]
    simp only [hibernaclelaw14_FairCounts.l0]
    rw [if_pos (by omega), if_pos (by omega), count_tells t i (by omega) k (by omega)]
    simp only [Option.bind_some]
    rw [if_pos er, wrap_cast ((i : Int) + 1) (i + 1) (by omega) (by omega)]
    exact ih k (i + 1) (by omega) (by omega) (by omega)

theorem FairCounts : hibernaclelaw14_FairCounts.Pure := by
  intro l0 a1 a2 _ _ _ _ _
  refine ⟨3000, ?_⟩
  obtain ⟨t, ht, htl, _⟩ := few_tells l0 25 (by omega)
  have hM := many_range a1
  unfold hibernaclelaw14_FairCounts.f
  rw [show (25 : Int) = ((25 : Nat) : Int) from rfl, ht]; simp only [Option.bind_some]
  unfold fair_Counts.f
  rw [if_pos (by omega)]; simp only [Option.bind_some]
  rw [Many_f]; simp only [Option.bind_some]
  rw [if_pos (by rw [tally_length])]
  exact law_loop t a2 (Many a1) hM.2.1 htl (Many a1) 3000 0 (by omega) (by omega) (by omega)
end Go.Proofs.Ytkncpbaknigamaa.Pure
