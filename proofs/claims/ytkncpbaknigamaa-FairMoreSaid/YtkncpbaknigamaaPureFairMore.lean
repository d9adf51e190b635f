/- What is fair stays so with more of the like in front or behind, a whole number of rounds; a worker that is left out makes it unfair: the plain law, for every number of workers, of rounds in front and behind, and worker. -/
import Derived.Test.YtkncpbaknigamaaPFairx5
import Derived.Test.YtkncpbaknigamaaCycMath
namespace Go.Proofs.Ytkncpbaknigamaa.Pure
open Go.RowKit Go.Proofs.Ytkncpbaknigamaa.PFair Go.Proofs.YtkncpbaknigamaaW.PrintWords Go.Proofs.YtkncpbaknigamaaW.PrintLast Go.Proofs.Ytkncpbaknigamaa.FairMath Go.Proofs.Ytkncpbaknigamaa.GEach Go.Proofs.Ytkncpbaknigamaa.FullMath Go.Proofs.Ytkncpbaknigamaa.CycMath
set_option linter.unusedVariables false

theorem rounds_append (M a b : Nat) (hM : 1 ≤ M) : rounds M (a * M) ++ rounds M (b * M) = rounds M ((a + b) * M) := by
  apply List.ext_getElem
  · simp [rounds, Nat.add_mul]
  · intro i h1 h2
    simp only [rounds, List.getElem_append, List.getElem_map, List.getElem_range, List.length_map, List.length_range]
    split
    · rfl
    · congr 1
      rename_i h
      have : i = M * a + (i - a * M) := by rw [Nat.mul_comm]; omega
      conv => rhs; rw [this, Nat.mul_add_mod]

theorem filter_take_snoc (l : List Int) (p : Int → Bool) (i : Nat) (h : i < l.length) : (l.take (i + 1)).filter p = (l.take i).filter p ++ (if p (l.getD i 0) then [l.getD i 0] else []) := by
  rw [List.take_succ_eq_append_getElem h, List.filter_append]
  have : l.getD i 0 = l[i] := by simp [List.getD_eq_getElem?_getD, h]
  rw [this]
  by_cases hp : p l[i] <;> simp [hp]

/-- Without a worker: the whole is a piece without it. -/
theorem less_least (t : List Int) (workers : Int) (w : Nat) (hw : w < Many workers) (hb : t.length ≤ 1000) (h : ∀ x ∈ t, x ≠ (w : Int)) (k : Nat) (hk : t.length + 64 < k) : fair_Least.f k t workers = some ((t.length : Int) + 1) := by
  obtain ⟨r, hr, h1, h2, hrw⟩ := least_tells t workers (by omega) k hk
  have hav : ∀ a b, b ≤ t.length → Av t w a b := fun a b hb j h1 h2 => by
    have : t.getD j 0 = t[j] := by simp [List.getD_eq_getElem?_getD, show j < t.length by omega]
    rw [this]
    exact h _ (List.getElem_mem _)
  have : r = (t.length : Int) + 1 := by
    by_cases h0 : t.length = 0
    · omega
    · have := mt (hrw t.length (by omega)).1 (fun hh => hh w hw ⟨t.length, Nat.le_refl _, Nat.le_refl _, hav _ _ (Nat.le_refl _)⟩)
      omega
  rw [hr, this]
theorem less_full (t : List Int) (workers : Int) (w : Nat) (hw : w < Many workers) (hb : t.length ≤ 1000) (h : ∀ x ∈ t, x ≠ (w : Int)) : fair_Full.f t workers = some 0 := by
  rw [full_tells t workers (by omega)]
  have : ∀ j, j ≤ t.length → gr t (Many workers) j = (0, 0) := by
    intro j
    induction j with
    | zero => intro _; rfl
    | succ j ih =>
      intro hj
      refine gr_no (ih (by omega)) fun ha => ha w hw fun q q1 q2 => ?_
      have : t.getD q 0 = t[q] := by simp [List.getD_eq_getElem?_getD, show q < t.length by omega]
      rw [this]
      exact h _ (List.getElem_mem _)
  rw [this t.length (Nat.le_refl _)]
  rfl

theorem cyc_least (t : List Int) (workers : Int) (hb : t.length ≤ 1000) (h : Cyc t (Many workers) 0) (hl : Many workers ≤ t.length) (k : Nat) (hk : t.length + 64 < k) : fair_Least.f k t workers = some (Many workers : Int) := by
  have hM := many_range workers
  obtain ⟨r, hr, h1, h2, hrw⟩ := least_tells t workers (by omega) k hk
  have a := (hrw (Many workers) hM.1).2 (fun w hw => cyc_no_wd h w hw)
  have : r = (Many workers : Int) := by
    by_cases h0 : Many workers = 1
    · omega
    · have := mt (hrw (Many workers - 1) (by omega)).1 (fun hh => hh 0 (by omega) ⟨Many workers, hl, by omega, fun j j1 j2 => by
        rw [h j (by omega), Nat.add_zero, Nat.mod_eq_of_lt j2]
        omega⟩)
      omega
  rw [hr, this]

theorem more_loop (n : Int) (w : Nat) (hw : w < Many n) (hn : n = (Many n : Int)) (l : List Int) (hl : l.length ≤ 1000) (hc : Cyc l (Many n) 0) (hlm : Many n ≤ l.length) (d : Nat) : ∀ (k i : Nat), l.length - i = d → d + 3000 < k → i ≤ l.length →
    hibernaclelaw14_FairMore.l0 k (w : Int) n l ((l.take i).filter fun x => x != (w : Int)) (i : Int) = some true := by
  induction d with
  | zero =>
    intro k i hd hk hi
    obtain ⟨k, rfl⟩ : ∃ m, k = m + 1 := ⟨k - 1, by omega⟩
    obtain rfl : i = l.length := by omega
    have hle : ((l.take l.length).filter fun x => x != (w : Int)).length ≤ 1000 := by
      have := List.length_filter_le (fun x => x != (w : Int)) (l.take l.length)
      simp at this ⊢; omega
    have hno : ∀ x ∈ (l.take l.length).filter fun x => x != (w : Int), x ≠ (w : Int) := fun x hx => by
      have := (List.mem_filter.1 hx).2
      simpa using this
    generalize (l.take l.length).filter (fun x => x != (w : Int)) = t at *
    have hf := cyc_fair hc (by omega) k (by omega)
    rw [← hn] at hf
    have hlst := cyc_least l n hl hc hlm k (by omega)
    rw [← hn] at hlst
    simp only [hibernaclelaw14_FairMore.l0]
    rw [wrap_in (x := (t.length : Int) + 1) (by omega) (by omega), if_neg (by omega), hf, Option.bind_some, if_pos rfl, hlst, Option.bind_some, if_pos rfl, less_least t n w hw hle hno k (by omega), Option.bind_some, if_pos rfl, less_full t n w hw hle hno, Option.bind_some, if_pos rfl, lives_at (by omega)]
    rfl
  | succ d ih =>
    intro k i hd hk hi
    obtain ⟨k, rfl⟩ : ∃ m, k = m + 1 := ⟨k - 1, by omega⟩
    have hs := filter_take_snoc l (fun x => x != (w : Int)) i (by omega)
    have hle : ((l.take i).filter fun x => x != (w : Int)).length ≤ 1000 := by
      have := List.length_filter_le (fun x => x != (w : Int)) (l.take i)
      simp at this ⊢; omega
    have er : rd l (i : Int) = l.getD i 0 := by simp [rd]
    have ihh := ih k (i + 1) (by omega) (by omega) (by omega)
    rw [hs] at ihh
    simp only [hibernaclelaw14_FairMore.l0]
    rw [if_pos (by omega), if_pos (by omega), er, wrap_cast ((i : Int) + 1) (i + 1) (by omega) (by omega)]
    by_cases hx : l.getD i 0 = (w : Int)
    · rw [if_pos hx]
      rw [if_neg (by rw [hx]; simp), List.append_nil] at ihh
      exact ihh
    · rw [if_neg hx, if_pos (by omega)]
      rw [if_pos (by simpa using hx)] at ihh
      exact ihh

theorem FairMore : hibernaclelaw14_FairMore.Pure := by
  intro a0 a1 a2 a3 h0 h1 h2 h3
  have b0 := bounds_i64 h0
  have b1 := bounds_i64 h1
  have b2 := bounds_i64 h2
  have b3 := bounds_i64 h3
  obtain ⟨k, hk⟩ : ∃ k : Nat, 5000 ≤ k := ⟨5000, Nat.le_refl _⟩
  refine ⟨k, ?_⟩
  obtain ⟨c0, d0⟩ := around_tells a0 10 b0.1 (by omega)
  obtain ⟨c1, d1⟩ := around_tells a1 6 b1.1 (by omega)
  obtain ⟨c2, d2⟩ := around_tells a2 5 b2.1 (by omega)
  generalize Ar a0 10 = x0 at *
  generalize Ar a1 6 = x1 at *
  generalize Ar a2 5 = x2 at *
  obtain ⟨c3, d3⟩ := around_tells a3 (1 + x0) b3.1 (by omega)
  generalize Ar a3 (1 + x0) = x3 at *
  have hMn : Many ((1 + x0 : Nat) : Int) = 1 + x0 := by unfold Many mn mx; omega
  unfold hibernaclelaw14_FairMore.f
  rw [show (10 : Int) = ((10 : Nat) : Int) from rfl, show (6 : Int) = ((6 : Nat) : Int) from rfl, show (5 : Int) = ((5 : Nat) : Int) from rfl]
  rw [c0, Option.bind_some, c1, Option.bind_some, wrap_cast (1 + (x0 : Int)) (1 + x0) (by omega) (by omega), round_tells _ (x1 : Int) (by omega), hMn, Int.toNat_natCast, Option.bind_some, c2, Option.bind_some]
  rw [wrap_cast (1 + (x2 : Int)) (1 + x2) (by omega) (by omega), round_tells _ ((1 + x2 : Nat) : Int) (by omega), hMn, Int.toNat_natCast, Option.bind_some]
  have m1 : x1 * (1 + x0) ≤ 5 * 10 := Nat.mul_le_mul (by omega) (by omega)
  have m2 : (1 + x2) * (1 + x0) ≤ 5 * 10 := Nat.mul_le_mul (by omega) (by omega)
  have m3 : 1 * (1 + x0) ≤ (x1 + (1 + x2)) * (1 + x0) := Nat.mul_le_mul_right _ (by omega)
  have m4 : (x1 + (1 + x2)) * (1 + x0) = x1 * (1 + x0) + (1 + x2) * (1 + x0) := Nat.add_mul _ _ _
  rw [if_pos (by rw [rounds_length]; simp; omega)]
  rw [List.nil_append, Option.bind_some, if_pos (by rw [rounds_length, rounds_length]; omega), c3, Option.bind_some]
  rw [rounds_append (1 + x0) x1 (1 + x2) (by omega)]
  have hl := rounds_length (1 + x0) ((x1 + (1 + x2)) * (1 + x0))
  have := more_loop ((1 + x0 : Nat) : Int) x3 (by rw [hMn]; exact d3) (by rw [hMn]) (rounds (1 + x0) ((x1 + (1 + x2)) * (1 + x0))) (by omega) (by rw [hMn]; exact rounds_cyc _ _) (by rw [hMn, hl]; omega) _ k 0 rfl (by omega) (by omega)
  simpa using this
end Go.Proofs.Ytkncpbaknigamaa.Pure
