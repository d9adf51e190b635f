/- Whether picks are fair, and within how many, is told as the reference tells it: the plain law, for every list of picks, number of workers and n. -/
import Derived.Test.YtkncpbaknigamaaPFairx2
import Derived.Test.YtkncpbaknigamaaFairMath
namespace Go.Proofs.Ytkncpbaknigamaa.Pure
open Go.RowKit Go.Proofs.Ytkncpbaknigamaa.PFair Go.Proofs.YtkncpbaknigamaaW.PrintWords Go.Proofs.YtkncpbaknigamaaW.PrintLast Go.Proofs.Ytkncpbaknigamaa.FairMath

theorem FairFairs : hibernaclelaw14_FairFairs.Pure := by
  intro l0 a1 a2 _ _ _ _ h2
  have hb2 := bounds_i64 h2
  refine ⟨3001, ?_⟩
  obtain ⟨t, ht, htl, _⟩ := few_tells l0 25 (by omega)
  have htl' : t.length ≤ 10000 := by omega
  obtain ⟨k, hk, hk1, hk2, hkw⟩ := least_tells t a1 htl' 3001 (by omega)
  obtain ⟨hm, hm1⟩ := around_tells a2 30 hb2.1 (by omega)
  generalize Ar a2 30 = m at hm hm1
  obtain ⟨b1, e1, i1⟩ := fair_tells t a1 a2 htl' 3001 (by omega)
  obtain ⟨b2, e2, i2⟩ := refFair_tells t a1 a2 hb2.2 htl' 3001 (by omega)
  obtain ⟨b3, e3, i3⟩ := fair_tells t a1 m htl' 3001 (by omega)
  obtain ⟨b4, e4, i4⟩ := refFair_tells t a1 m (by omega) htl' 3001 (by omega)
  have e12 : b1 = b2 := Bool.eq_iff_iff.2 (i1.trans i2.symm)
  have e34 : b3 = b4 := Bool.eq_iff_iff.2 (i3.trans i4.symm)
  subst e12 e34
  obtain ⟨c1, f1, j1⟩ := refFair_tells t a1 k (by omega) htl' 3000 (by omega)
  have hc1 : c1 = true := by
    rw [j1, if_neg (by omega), ← hkw k.toNat (by omega)]; omega
  subst hc1
  obtain ⟨c2, f2, j2⟩ := refFair_tells t a1 (k - 1) (by omega) htl' 3000 (by omega)
  obtain ⟨c3, f3, j3⟩ := refFair_tells t a1 m (by omega) htl' 3000 (by omega)
  have hc2 : k ≠ 1 → c2 = false := by
    intro hk3
    cases c2 with
    | false => rfl
    | true =>
      have h := j2.1 rfl
      rw [if_neg (by omega), ← hkw (k - 1).toNat (by omega)] at h
      omega
  have hc3 : ¬ (m : Int) < k → c3 = true := by
    intro hmk
    rw [j3, if_neg (by omega), ← hkw (m : Int).toNat (by omega)]; omega
  have hlives := lives_at (k := 3000) (by omega)
  unfold hibernaclelaw14_FairFairs.f
  rw [show (25 : Int) = ((25 : Nat) : Int) from rfl, ht]; simp only [Option.bind_some]
  rw [hk]; simp only [Option.bind_some]
  rw [show (30 : Int) = ((30 : Nat) : Int) from rfl, hm]; simp only [Option.bind_some]
  rw [e1]; simp only [Option.bind_some]
  rw [e2]; simp only [Option.bind_some, bne_self_eq_false, Bool.false_eq_true, if_false]
  rw [e3]; simp only [Option.bind_some]
  rw [e4]; simp only [Option.bind_some, bne_self_eq_false]
  simp only [hibernaclelaw14_FairFairs.j0]
  rw [if_neg (by simp), if_pos (by omega), f1]; simp only [Option.bind_some, if_true]
  rw [hlives]; simp only [Option.bind_some]
  by_cases h1 : k = 1
  · rw [if_pos h1]
    by_cases hmk : (m : Int) < k
    · rw [if_pos hmk]
    · rw [if_neg hmk, f3, hc3 hmk]; simp
  · rw [if_neg h1, wrap_in (x := k - 1) (by omega) (by omega), f2, hc2 h1]; simp only [Option.bind_some, Bool.false_eq_true, if_false]
    by_cases hmk : (m : Int) < k
    · rw [if_pos hmk]
    · rw [if_neg hmk, f3, hc3 hmk]; simp
end Go.Proofs.Ytkncpbaknigamaa.Pure
