/- Plain laws on picks: what the printed functions of layer 14 come to, in terms of pieces of picks without a worker. -/
import Derived.Test.YtkncpbaknigamaaPFairx1
namespace Go.Proofs.Ytkncpbaknigamaa.FairMath
open Go.RowKit Go.Proofs.Ytkncpbaknigamaa.PFair Go.Proofs.YtkncpbaknigamaaW.PrintWords Go.Proofs.YtkncpbaknigamaaW.PrintLast

/-- No pick from a to b (b out) is w. -/
def Av (l : List Int) (w : Int) (a b : Nat) : Prop := ∀ j, a ≤ j → j < b → l.getD j 0 ≠ w
/-- Some m picks side by side, ending not behind e0, are none of w. -/
def Wd (l : List Int) (w : Int) (e0 m : Nat) : Prop := ∃ e, e ≤ e0 ∧ m ≤ e ∧ Av l w (e - m) e
theorem wrap_in {x : Int} (h0 : -9223372036854775808 ≤ x) (h1 : x ≤ 9223372036854775807) : wrap64 x = x := by
  unfold wrap64; omega

theorem wrap_cast (x : Int) (m : Nat) (h : x = m) (hm : m ≤ 1000000) : wrap64 x = (m : Int) := by
  rw [h]; exact wrap_in (by omega) (by omega)

theorem wd_step_hit {l : List Int} {w : Int} {i m : Nat} (hm : 1 ≤ m) (h : l.getD i 0 = w) : Wd l w (i + 1) m ↔ Wd l w i m := by
  constructor
  · rintro ⟨e, he, hme, hav⟩
    by_cases e1 : e = i + 1
    · subst e1
      exact absurd h (hav i (by omega) (by omega))
    · exact ⟨e, by omega, hme, hav⟩
  · rintro ⟨e, he, hme, hav⟩
    exact ⟨e, by omega, hme, hav⟩
theorem wd_step_miss {l : List Int} {w : Int} {i m n : Nat} (hn : n ≤ i) (hav : Av l w (i - n) i) (hb : n < i → l.getD (i - n - 1) 0 = w) (h : l.getD i 0 ≠ w) : Wd l w (i + 1) m ↔ (Wd l w i m ∨ m ≤ n + 1) := by
  constructor
  · rintro ⟨e, he, hme, ha⟩
    by_cases e1 : e = i + 1
    · subst e1
      right
      refine Decidable.byContradiction fun hgt => ?_
      exact ha (i - n - 1) (by omega) (by omega) (hb (by omega))
    · exact .inl ⟨e, by omega, hme, ha⟩
  · rintro (⟨e, he, hme, ha⟩ | hle)
    · exact ⟨e, by omega, hme, ha⟩
    · refine ⟨i + 1, Nat.le_refl _, by omega, fun j h1 h2 => ?_⟩
      by_cases e1 : j = i
      · subst e1; exact h
      · exact hav j (by omega) (by omega)

theorem gap_loop (l : List Int) (w : Int) (hl : l.length ≤ 10000) (d : Nat) : ∀ (k i : Nat) (gap n : Int) (nn : Nat), l.length - i = d → d < k → i ≤ l.length → n = nn → nn ≤ i → n ≤ gap → gap ≤ i →
    Av l w (i - nn) i → (nn < i → l.getD (i - nn - 1) 0 = w) → (∀ m : Nat, 1 ≤ m → ((m : Int) ≤ gap ↔ Wd l w i m)) →
    ∃ r : Int, fair_Gap.l0 k w gap n l (l.length : Int) (i : Int) = some r ∧ 0 ≤ r ∧ r ≤ l.length ∧ ∀ m : Nat, 1 ≤ m → ((m : Int) ≤ r ↔ Wd l w l.length m) := by
  induction d with
  | zero =>
    intro k i gap n nn hd hk hi hn hni hng hgi hav hb hw
    obtain ⟨k, rfl⟩ : ∃ m, k = m + 1 := ⟨k - 1, by omega⟩
    obtain rfl : i = l.length := by omega
    refine ⟨gap, ?_, by omega, hgi, hw⟩
    simp only [fair_Gap.l0]
    rw [if_neg (by omega)]
  | succ d ih =>
    intro k i gap n nn hd hk hi hn hni hng hgi hav hb hw
    obtain ⟨k, rfl⟩ : ∃ m, k = m + 1 := ⟨k - 1, by omega⟩
    simp only [fair_Gap.l0]
    rw [if_pos (by omega), if_pos (by omega), if_pos (by omega)]
    have er : rd l (i : Int) = l.getD i 0 := by simp [rd]
    rw [er]
    rw [wrap_cast ((i : Int) + 1) (i + 1) (by omega) (by omega), wrap_cast (n + 1) (nn + 1) (by omega) (by omega)]
    by_cases hx : l.getD i 0 = w
    · rw [if_pos hx]
      refine ih k (i + 1) _ _ 0 (by omega) (by omega) (by omega) rfl (by omega) (by unfold mx; omega) (by unfold mx; omega) (fun j h1 h2 => by omega) (fun _ => by simpa using hx) ?_
      intro m hm
      rw [wd_step_hit hm hx, ← hw m hm]
      unfold mx; omega
    · rw [if_neg hx]
      refine ih k (i + 1) _ _ (nn + 1) (by omega) (by omega) (by omega) rfl (by omega) (by unfold mx; omega) (by unfold mx; omega) (fun j h1 h2 => ?_) (fun h => ?_) ?_
      · by_cases e3 : j = i
        · subst e3; exact hx
        · exact hav j (by omega) (by omega)
      · have := hb (by omega)
        rw [← this]; congr 1; omega
      · intro m hm
        rw [wd_step_miss hni hav hb hx, ← hw m hm]
        unfold mx; omega

/-- The greatest number of picks side by side among which w is not. -/
theorem gap_tells (l : List Int) (w : Int) (hl : l.length ≤ 10000) (k : Nat) (hk : l.length < k) :
    ∃ r : Int, fair_Gap.f k l w = some r ∧ 0 ≤ r ∧ r ≤ l.length ∧ ∀ m : Nat, 1 ≤ m → ((m : Int) ≤ r ↔ Wd l w l.length m) := by
  refine gap_loop l w hl l.length k 0 0 0 0 rfl hk (by omega) rfl (by omega) (by omega) (by omega) (fun j h1 h2 => by omega) (fun h => by omega) ?_
  intro m hm
  constructor
  · intro h; omega
  · rintro ⟨e, h1, h2, _⟩; omega

def Many (workers : Int) : Nat := (mn (mx workers 1) 64).toNat
theorem many_range (workers : Int) : 1 ≤ Many workers ∧ Many workers ≤ 64 ∧ mn (mx workers 1) 64 = (Many workers : Int) := by
  unfold Many mn mx; omega
theorem many_f (workers : Int) : fair_many.f workers = some (Many workers : Int) := by
  unfold fair_many.f; rw [(many_range workers).2.2]
theorem Many_f (workers : Int) : hibernacleref14_Many.f workers = some (Many workers : Int) := by
  unfold hibernacleref14_Many.f; rw [(many_range workers).2.2]

theorem least_loop (l : List Int) (hl : l.length ≤ 10000) (W : Nat) (hW : W ≤ 64) (d : Nat) : ∀ (k i : Nat) (n : Int), W - i = d → d + l.length < k → i ≤ W → 1 ≤ n → n ≤ l.length + 1 →
    (∀ m : Nat, 1 ≤ m → (n ≤ m ↔ ∀ w : Nat, w < i → ¬ Wd l w l.length m)) →
    ∃ r : Int, fair_Least.l0 k l n (W : Int) (i : Int) = some r ∧ 1 ≤ r ∧ r ≤ l.length + 1 ∧ ∀ m : Nat, 1 ≤ m → (r ≤ m ↔ ∀ w : Nat, w < W → ¬ Wd l w l.length m) := by
  induction d with
  | zero =>
    intro k i n hd hk hi h1 h2 hw
    obtain ⟨k, rfl⟩ : ∃ m, k = m + 1 := ⟨k - 1, by omega⟩
    obtain rfl : i = W := by omega
    refine ⟨n, ?_, h1, h2, hw⟩
    simp only [fair_Least.l0]
    rw [if_neg (by omega)]
  | succ d ih =>
    intro k i n hd hk hi h1 h2 hw
    obtain ⟨k, rfl⟩ : ∃ m, k = m + 1 := ⟨k - 1, by omega⟩
    obtain ⟨g, hg, hg0, hg1, hgw⟩ := gap_tells l i hl k (by omega)
    simp only [fair_Least.l0]
    rw [if_pos (by omega), hg]
    simp only [Option.bind_some]
    rw [wrap_cast ((i : Int) + 1) (i + 1) (by omega) (by omega), wrap_in (x := g + 1) (by omega) (by omega)]
    refine ih k (i + 1) _ (by omega) (by omega) (by omega) (by unfold mx; omega) (by unfold mx; omega) ?_
    intro m hm
    constructor
    · intro h w hwi
      by_cases ew : w = i
      · subst ew
        rw [← hgw m hm]
        unfold mx at h; omega
      · exact (hw m hm).1 (by unfold mx at h; omega) w (by omega)
    · intro h
      have a := (hw m hm).2 (fun w hwi => h w (by omega))
      have b := h i (by omega)
      rw [← hgw m hm] at b
      unfold mx; omega

/-- Within how many picks are fair. -/
theorem least_tells (l : List Int) (workers : Int) (hl : l.length ≤ 10000) (k : Nat) (hk : l.length + 64 < k) :
    ∃ r : Int, fair_Least.f k l workers = some r ∧ 1 ≤ r ∧ r ≤ l.length + 1 ∧ ∀ m : Nat, 1 ≤ m → (r ≤ m ↔ ∀ w : Nat, w < Many workers → ¬ Wd l w l.length m) := by
  have hM := many_range workers
  unfold fair_Least.f
  rw [many_f]
  simp only [Option.bind_some]
  refine least_loop l hl (Many workers) hM.2.1 (Many workers) k 0 1 rfl (by omega) (by omega) (by omega) (by omega) ?_
  intro m hm
  constructor
  · intro _ w hw; omega
  · intro _; omega

/-- What 'Fair' tells. -/
theorem fair_tells (l : List Int) (workers n : Int) (hl : l.length ≤ 10000) (k : Nat) (hk : l.length + 64 < k) :
    ∃ b : Bool, fair_Fair.f k l workers n = some b ∧ (b = true ↔ if n < 1 then l.length = 0 else ∀ w : Nat, w < Many workers → ¬ Wd l w l.length n.toNat) := by
  unfold fair_Fair.f
  by_cases h : n < 1
  · rw [if_pos h]
    refine ⟨_, rfl, ?_⟩
    rw [if_pos h]
    simp
  · rw [if_neg h]
    obtain ⟨r, hr, h1, h2, hw⟩ := least_tells l workers hl k hk
    rw [hr]
    refine ⟨_, rfl, ?_⟩
    rw [if_neg h, ← hw n.toNat (by omega), decide_eq_true_iff]
    omega

/-! ### the reference -/
theorem all_inner (l : List Int) (workers w : Int) (hl : l.length ≤ 10000) (d : Nat) : ∀ (k i : Nat) (b : Bool), l.length - i = d → d < k → i ≤ l.length → (b = true ↔ ¬ Av l w 0 i) →
    ∃ b' : Bool, (b' = true ↔ ¬ Av l w 0 l.length) ∧ hibernacleref14_all.l1 k l workers w b (i : Int) = (if b' = true then hibernacleref14_all.l0 (k - 1 - (l.length - i)) l workers (wrap64 (w + 1)) else some false) := by
  induction d with
  | zero =>
    intro k i b hd hk hi hb
    obtain ⟨k, rfl⟩ : ∃ m, k = m + 1 := ⟨k - 1, by omega⟩
    obtain rfl : i = l.length := by omega
    refine ⟨b, hb, ?_⟩
    simp only [hibernacleref14_all.l1]
    rw [if_neg (by omega)]
    simp
  | succ d ih =>
    intro k i b hd hk hi hb
    obtain ⟨k, rfl⟩ : ∃ m, k = m + 1 := ⟨k - 1, by omega⟩
    have er : rd l (i : Int) = l.getD i 0 := by simp [rd]
    have hstep : ¬ Av l w 0 (i + 1) ↔ (¬ Av l w 0 i ∨ l.getD i 0 = w) := by
      constructor
      · intro h
        by_cases hx : l.getD i 0 = w
        · exact .inr hx
        · refine .inl fun ha => h fun j h1 h2 => ?_
          by_cases e : j = i
          · subst e; exact hx
          · exact ha j h1 (by omega)
      · rintro (h | h) ha
        · exact h fun j h1 h2 => ha j h1 (by omega)
        · exact ha i (by omega) (by omega) h
    simp only [hibernacleref14_all.l1]
    rw [if_pos (by omega), wrap_cast ((i : Int) + 1) (i + 1) (by omega) (by omega), er]
    have ek : k + 1 - 1 - (l.length - i) = k - 1 - (l.length - (i + 1)) := by omega
    rw [ek]
    cases b with
    | true =>
      rw [if_pos rfl]
      exact ih k (i + 1) true (by omega) (by omega) (by omega) (by rw [hstep]; simp; exact .inl (hb.1 rfl))
    | false =>
      rw [if_neg (by simp), if_pos (by omega)]
      refine ih k (i + 1) _ (by omega) (by omega) (by omega) ?_
      rw [hstep, beq_iff_eq]
      have hb' : ¬ ¬ Av l w 0 i := fun h => by simpa using hb.2 h
      constructor
      · intro h; exact .inr h
      · rintro (h | h)
        · exact absurd h hb'
        · exact h

theorem all_outer (l : List Int) (workers : Int) (hl : l.length ≤ 10000) (d : Nat) : ∀ (k i : Nat), Many workers - i = d → d * (l.length + 2) < k → i ≤ Many workers → (∀ w : Nat, w < i → ¬ Av l w 0 l.length) →
    ∃ b : Bool, hibernacleref14_all.l0 k l workers (i : Int) = some b ∧ (b = true ↔ ∀ w : Nat, w < Many workers → ¬ Av l w 0 l.length) := by
  have hM := many_range workers
  induction d with
  | zero =>
    intro k i hd hk hi hw
    obtain ⟨k, rfl⟩ : ∃ m, k = m + 1 := ⟨k - 1, by omega⟩
    obtain rfl : i = Many workers := by omega
    refine ⟨true, ?_, by simpa using hw⟩
    simp only [hibernacleref14_all.l0]
    rw [Many_f]; simp
  | succ d ih =>
    intro k i hd hk hi hw
    obtain ⟨k, rfl⟩ : ∃ m, k = m + 1 := ⟨k - 1, by omega⟩
    have hk2 : d * (l.length + 2) + l.length + 2 < k + 1 := by
      have : (d + 1) * (l.length + 2) = d * (l.length + 2) + (l.length + 2) := Nat.succ_mul _ _
      omega
    simp only [hibernacleref14_all.l0]
    rw [Many_f]
    simp only [Option.bind_some]
    rw [if_pos (by omega)]
    obtain ⟨b, hb, e⟩ := all_inner l workers (i : Int) hl l.length k 0 false (by omega) (by omega) (by omega) (by simp; intro j h1 h2; omega)
    have e0 : ((0 : Nat) : Int) = 0 := rfl
    rw [e0] at e
    rw [e]
    cases b with
    | false =>
      refine ⟨false, by simp, ?_⟩
      have : ¬ ¬ Av l i 0 l.length := fun h => by simpa using hb.2 h
      simp
      exact ⟨i, by omega, Classical.not_not.1 this⟩
    | true =>
      rw [if_pos rfl]
      rw [wrap_cast ((i : Int) + 1) (i + 1) (by omega) (by omega)]
      refine ih _ (i + 1) (by omega) (by omega) (by omega) ?_
      intro w hwi
      by_cases ew : w = i
      · subst ew; exact hb.1 rfl
      · exact hw w (by omega)

/-- Is each worker among picks? -/
theorem all_tells (l : List Int) (workers : Int) (hl : l.length ≤ 10000) (k : Nat) (hk : 64 * (l.length + 2) < k) :
    ∃ b : Bool, hibernacleref14_all.f k l workers = some b ∧ (b = true ↔ ∀ w : Nat, w < Many workers → ¬ Av l w 0 l.length) := by
  have hM := many_range workers
  have := all_outer l workers hl (Many workers) k 0 (by omega) (by
    have : Many workers * (l.length + 2) ≤ 64 * (l.length + 2) := Nat.mul_le_mul_right _ hM.2.1
    omega) (by omega) (fun w hw0 => absurd hw0 (by omega))
  exact this

theorem av_piece (l : List Int) (w : Int) (i n : Nat) (_h : i + n ≤ l.length) : Av ((l.take (i + n)).drop i) w 0 n ↔ Av l w i (i + n) := by
  have e : ∀ j, j < n → ((l.take (i + n)).drop i).getD j 0 = l.getD (i + j) 0 := by
    intro j hj
    rw [List.getD_eq_getElem?_getD, List.getD_eq_getElem?_getD, List.getElem?_drop, List.getElem?_take, if_pos (by omega)]
  constructor
  · intro ha j h1 h2
    have := ha (j - i) (by omega) (by omega)
    rw [e _ (by omega)] at this
    have ej : i + (j - i) = j := by omega
    rwa [ej] at this
  · intro ha j h1 h2
    rw [e _ (by omega)]
    exact ha (i + j) (by omega) (by omega)

theorem refFair_loop (l : List Int) (workers : Int) (n : Nat) (hn : 1 ≤ n) (hn2 : (n : Int) ≤ 9223372036854775807) (hl : l.length ≤ 10000) (d : Nat) : ∀ (k i : Nat), l.length + 1 - i = d → d + 64 * (l.length + 2) < k → i ≤ l.length + 1 → (∀ j, j < i → j + n ≤ l.length → ∀ w : Nat, w < Many workers → ¬ Av l w j (j + n)) →
    ∃ b : Bool, hibernacleref14_Fair.l0 k l workers (n : Int) (i : Int) = some b ∧ (b = true ↔ ∀ j, j + n ≤ l.length → ∀ w : Nat, w < Many workers → ¬ Av l w j (j + n)) := by
  induction d with
  | zero =>
    intro k i hd hk hi hw
    obtain ⟨k, rfl⟩ : ∃ m, k = m + 1 := ⟨k - 1, by omega⟩
    refine ⟨true, ?_, by simp; intro j hj; exact hw j (by omega) hj⟩
    simp only [hibernacleref14_Fair.l0]
    rw [wrap_in (x := (l.length : Int) - (n : Int)) (by omega) (by omega), if_neg (by omega)]
  | succ d ih =>
    intro k i hd hk hi hw
    obtain ⟨k, rfl⟩ : ∃ m, k = m + 1 := ⟨k - 1, by omega⟩
    simp only [hibernacleref14_Fair.l0]
    by_cases hin : i + n ≤ l.length
    · have e1 : wrap64 ((l.length : Int) - (n : Int)) = (l.length : Int) - (n : Int) := wrap_in (by omega) (by omega)
      have e2 : wrap64 ((i : Int) + (n : Int)) = ((i + n : Nat) : Int) := wrap_cast _ _ (by omega) (by omega)
      have e3 : wrap64 ((i : Int) + 1) = ((i + 1 : Nat) : Int) := wrap_cast _ _ (by omega) (by omega)
      rw [e1, e2, e3]
      rw [if_pos (by omega), if_pos (by omega), if_pos (by omega), if_pos (by omega)]
      have hlen : ((l.take (i + n)).drop i).length = n := by simp; omega
      obtain ⟨b, hb, hbw⟩ := all_tells ((l.take (i + n)).drop i) workers (by omega) k (by rw [hlen]; omega)
      have e4 : (((i + n : Nat) : Int)).toNat = i + n := by omega
      have e5 : ((i : Int)).toNat = i := by omega
      rw [e4, e5, hb]
      simp only [Option.bind_some]
      rw [hlen] at hbw
      cases b with
      | false =>
        refine ⟨false, by simp, ?_⟩
        constructor
        · intro h; cases h
        · intro h
          refine absurd (hbw.2 fun w hwm => ?_) (by simp)
          rw [av_piece l w i n hin]
          exact h i hin w hwm
      | true =>
        rw [if_pos rfl]
        refine ih k (i + 1) (by omega) (by omega) (by omega) ?_
        intro j hj hjn w hwm
        by_cases e : j = i
        · subst e
          have := hbw.1 rfl w hwm
          rwa [av_piece l w j n hin] at this
        · exact hw j (by omega) hjn w hwm
    · refine ⟨true, ?_, by simp; intro j hj; exact hw j (by omega) hj⟩
      rw [wrap_in (x := (l.length : Int) - (n : Int)) (by omega) (by omega), if_neg (by omega)]

theorem wd_iff (l : List Int) (w : Int) (n : Nat) : Wd l w l.length n ↔ ∃ j, j + n ≤ l.length ∧ Av l w j (j + n) := by
  constructor
  · rintro ⟨e, h1, h2, h3⟩
    exact ⟨e - n, by omega, by have ee : e - n + n = e := by omega
                               rwa [ee]⟩
  · rintro ⟨j, h1, h2⟩
    exact ⟨j + n, h1, by omega, by have ee : j + n - n = j := by omega
                                   rwa [ee]⟩

/-- What the reference's 'Fair' tells: the same. -/
theorem refFair_tells (l : List Int) (workers n : Int) (hn : n ≤ 9223372036854775807) (hl : l.length ≤ 10000) (k : Nat) (hk : l.length + 1 + 64 * (l.length + 2) < k) :
    ∃ b : Bool, hibernacleref14_Fair.f k l workers n = some b ∧ (b = true ↔ if n < 1 then l.length = 0 else ∀ w : Nat, w < Many workers → ¬ Wd l w l.length n.toNat) := by
  unfold hibernacleref14_Fair.f
  by_cases h : n < 1
  · rw [if_pos h]
    refine ⟨_, rfl, ?_⟩
    rw [if_pos h]
    simp
  · rw [if_neg h, if_neg h]
    obtain ⟨m, rfl⟩ : ∃ m : Nat, n = m := ⟨n.toNat, by omega⟩
    obtain ⟨b, hb, hw⟩ := refFair_loop l workers m (by omega) hn hl (l.length + 1) k 0 (by omega) (by omega) (by omega) (fun j hj => by omega)
    refine ⟨b, hb, ?_⟩
    rw [hw]
    have et : (m : Int).toNat = m := rfl
    rw [et]
    constructor
    · intro h1 w hwm hwd
      obtain ⟨j, h2, h3⟩ := (wd_iff l w _).1 hwd
      exact h1 j h2 w hwm h3
    · intro h1 j hj w hwm hav
      exact h1 w hwm ((wd_iff l w _).2 ⟨j, hj, hav⟩)
theorem bounds_i64 {n : Int} (h : (Lit.int .i64 n).wf = true) : -9223372036854775808 ≤ n ∧ n ≤ 9223372036854775807 := by
  simp [Lit.wf, IntKind.min, IntKind.max, IntKind.signed, IntKind.bits] at h
  omega
theorem few_tells (l : List Int) (n : Nat) (hn : n ≤ 10000) : ∃ t, hibernaclelaw14_few.f l n = some t ∧ t.length ≤ n ∧ t = l.take n := by
  unfold hibernaclelaw14_few.f
  by_cases h : (l.length : Int) > n
  · rw [if_pos h, if_pos (by omega), if_pos (by omega)]
    exact ⟨_, rfl, by simp; omega, rfl⟩
  · rw [if_neg h]
    exact ⟨_, rfl, by omega, (List.take_of_length_le (by omega)).symm⟩
/-- A number made from 0 to n, n out. -/
def Ar (a : Int) (n : Nat) : Nat := (if a < 0 then (-(a + 1)).toNat else a.toNat) % n
theorem around_tells (a : Int) (n : Nat) (h0 : -9223372036854775808 ≤ a) (hn : 1 ≤ n) : hibernacleref03_Around.f a n = some (Ar a n : Int) ∧ Ar a n < n := by
  refine ⟨?_, Nat.mod_lt _ (by omega)⟩
  unfold hibernacleref03_Around.f Ar
  by_cases h : a < 0
  · rw [if_pos h, if_neg (by omega), if_pos h, wrap_in (x := a + 1) (by omega) (by omega), wrap_in (x := -(a + 1)) (by omega) (by omega)]
    obtain ⟨m, hm⟩ : ∃ m : Nat, -(a + 1) = m := ⟨(-(a + 1)).toNat, by omega⟩
    rw [hm, Int.toNat_natCast, Int.tmod_eq_emod_of_nonneg (by omega)]
    rfl
  · rw [if_neg h, if_neg (by omega), if_neg h]
    obtain ⟨m, hm⟩ : ∃ m : Nat, a = m := ⟨a.toNat, by omega⟩
    rw [hm, Int.toNat_natCast, Int.tmod_eq_emod_of_nonneg (by omega)]
    rfl
theorem lives_tells : hibernaclelaw14_lives.f 1000 = some true := by decide +kernel
theorem lives_at {k : Nat} (h : 1000 ≤ k) : hibernaclelaw14_lives.f k = some true := at_rounds hibernaclelaw14_lives.mono h lives_tells
end Go.Proofs.Ytkncpbaknigamaa.FairMath
