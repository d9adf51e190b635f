/- K11: a text of a symbolic executor that is proved sound, and contracts that are proved with it. -/
import Derived.Test.YtaplihoeephbeaaK8
set_option linter.unusedVariables false
set_option linter.unusedSimpArgs false
namespace Go.Proofs.Ytaplihoeephbeaa.V
open Go Go.Proofs
set_option maxRecDepth 100000
set_option maxHeartbeats 40000000
theorem bne_ff {a b : Bool} (h : a = b) : (!(a == b)) = false := by subst h; cases a <;> rfl
def W19 (t : Nat) : Lk := ⟨[-1], [], [[]], [upTo 0 t], []⟩
def L19 (t : Nat) : Lk := ⟨[(t : Int)], [], [[]], [upTo 0 t], []⟩
def G19 (n i : Nat) : Lk := if n = 0 ∨ i = 0 then W19 n else ⟨[0], [], [upTo 1 (min i n)], [upTo (min i n) n], []⟩
def U19 (n t : Nat) : Lk := ⟨[if t < n then (t : Int) else -1], [], [upTo (t + 1) n], [[]], []⟩
theorem upTo_all {a b : Nat} : ∀ v ∈ upTo a b, 0 ≤ v := by
  intro v hv
  unfold upTo at hv
  obtain ⟨k, _, rfl⟩ := List.mem_map.1 hv
  exact Int.natCast_nonneg k
theorem W19_ok (t : Nat) (h : t ≤ 20) : LkL 1 1 0 (W19 t) := lkL_of _ _ _ _ ⟨⟨rfl, rfl⟩, ⟨rfl, rfl⟩, rfl, by simp [W19, sumL, upTo_len]; omega⟩
theorem L19_ok (t : Nat) (h : t ≤ 20) : LkL 1 1 0 (L19 t) := lkL_of _ _ _ _ ⟨⟨rfl, rfl⟩, ⟨rfl, rfl⟩, rfl, by simp [L19, sumL, upTo_len]; omega⟩
theorem U19_ok (n t : Nat) (h : n ≤ 20) : LkL 1 1 0 (U19 n t) := lkL_of _ _ _ _ ⟨⟨rfl, rfl⟩, ⟨rfl, rfl⟩, rfl, by simp [U19, sumL, upTo_len]; omega⟩
theorem G19_ok (n i : Nat) (h : n ≤ 20) : LkL 1 1 0 (G19 n i) ∧ LkN (G19 n i) := by
  unfold G19
  split
  · refine ⟨W19_ok n h, ⟨?_, ?_, ?_, ?_, ?_⟩⟩
    · intro v hv; simp [W19] at hv; omega
    · intro v hv; simp [W19] at hv
    · intro L hL; simp [W19] at hL; subst hL; simp
    · intro L hL; simp [W19] at hL; subst hL; exact upTo_all
    · intro L hL; simp [W19] at hL
  · refine ⟨lkL_of _ _ _ _ ⟨⟨rfl, rfl⟩, ⟨rfl, rfl⟩, rfl, by simp [sumL, upTo_len]; omega⟩, ⟨?_, ?_, ?_, ?_, ?_⟩⟩
    · intro v hv; simp at hv; omega
    · intro v hv; simp at hv
    · intro L hL; simp at hL; subst hL; exact upTo_all
    · intro L hL; simp at hL; subst hL; exact upTo_all
    · intro L hL; simp at hL
theorem lock19 (t : Nat) : lockS (W19 t) 0 (t : Int) = (L19 t, true) := rfl
theorem wait19 (t : Nat) : waitS (L19 t) 0 0 (t : Int) = (W19 (t + 1), -1, 0) := by
  have e1 : (L19 t).ow.getD 0 0 = (t : Int) := rfl
  have e2 : qAt (L19 t).lk 0 = [] := rfl
  have e3 : qAt (L19 t).wq 0 = upTo 0 t := rfl
  unfold waitS
  rw [e1, if_neg (by omega), e2, e3]
  have e4 := upTo_snoc (Nat.zero_le t)
  rw [← e4]
  rfl
theorem signal19 (n i : Nat) : signalS (G19 n i) 0 0 = (G19 n (i + 1), if i < n then (i : Int) else -1, decide (i = 0 ∧ 0 < n)) := by
  by_cases hn : n = 0
  · subst hn
    have e : G19 0 i = W19 0 := by unfold G19; rw [if_pos (.inl rfl)]
    have e' : G19 0 (i + 1) = W19 0 := by unfold G19; rw [if_pos (.inl rfl)]
    rw [e, e', if_neg (by omega), decide_eq_false (by omega)]
    rfl
  · by_cases hi : i = 0
    · subst hi
      have e : G19 n 0 = W19 n := by unfold G19; rw [if_pos (.inr rfl)]
      have e' : G19 n (0 + 1) = ⟨[0], [], [[]], [upTo 1 n], []⟩ := by
        unfold G19
        rw [if_neg (by omega), show min (0 + 1) n = 1 by omega, upTo_nil (Nat.le_refl 1)]
      have eq : qAt (W19 n).wq 0 = ((0 : Nat) : Int) :: upTo 1 n := upTo_cons (by omega)
      rw [e, e', if_pos (by omega), decide_eq_true (by omega)]
      unfold signalS
      rw [eq]
      rfl
    · have e : G19 n i = ⟨[0], [], [upTo 1 (min i n)], [upTo (min i n) n], []⟩ := by unfold G19; rw [if_neg (by omega)]
      have e' : G19 n (i + 1) = ⟨[0], [], [upTo 1 (min (i + 1) n)], [upTo (min (i + 1) n) n], []⟩ := by unfold G19; rw [if_neg (by omega)]
      rw [e, e', decide_eq_false (by omega)]
      by_cases hin : i < n
      · rw [if_pos hin, show min i n = i by omega, show min (i + 1) n = i + 1 by omega]
        have eq : qAt [upTo i n] 0 = (i : Int) :: upTo (i + 1) n := upTo_cons hin
        unfold signalS
        dsimp only
        rw [eq, upTo_snoc (show 1 ≤ i by omega)]
        rfl
      · rw [if_neg hin, show min i n = n by omega, show min (i + 1) n = n by omega]
        have eq : qAt [upTo n n] 0 = [] := upTo_nil (Nat.le_refl n)
        unfold signalS
        dsimp only
        rw [eq]
theorem G19_min (n k : Nat) : G19 n k = G19 n (min k n) := by
  unfold G19
  by_cases h : n = 0 ∨ k = 0
  · rw [if_pos h, if_pos (by omega)]
  · rw [if_neg h, if_neg (by omega), Nat.min_assoc, Nat.min_self]
theorem bcast19 (n : Nat) : ∀ (d i : Nat) (all : List Int) (got : Int), i ≤ n → d = n - i → bcast 0 0 d (G19 n i) all got = (G19 n n, all ++ upTo i n, if i = 0 ∧ 0 < n then 0 else got)
  | 0, i, all, got, hi, hd => by
    obtain rfl : i = n := by omega
    rw [upTo_nil (Nat.le_refl i), List.append_nil, if_neg (by omega)]
    rfl
  | d + 1, i, all, got, hi, hd => by
    have hin : i < n := by omega
    have hq : qAt (G19 n i).wq 0 = (i : Int) :: upTo (i + 1) n := by
      have e := upTo_cons hin
      unfold G19
      split
      · rename_i h
        obtain rfl : i = 0 := by omega
        exact e
      · show upTo (min i n) n = _
        rw [show min i n = i by omega]; exact e
    rw [bcast_cons hq, signal19, if_pos hin]
    dsimp only
    rw [bcast19 n d (i + 1) _ _ (by omega) (by omega), if_neg (show ¬ (i + 1 = 0 ∧ 0 < n) by omega), upTo_cons hin, List.append_assoc]
    by_cases h0 : i = 0
    · subst h0
      simp [hin]
    · simp [h0]
theorem broad19 (n k : Nat) : broadS (G19 n k) 0 0 = (G19 n n, upTo (min k n) n, if k = 0 ∧ 0 < n then 0 else -1) := by
  rw [G19_min]
  have hq : (qAt (G19 n (min k n)).wq 0).length = n - min k n := by
    unfold G19
    split
    · show (upTo 0 n).length = _
      rw [upTo_len]; omega
    · show (upTo (min (min k n) n) n).length = _
      rw [upTo_len, Nat.min_assoc, Nat.min_self]
  unfold broadS
  rw [bcast19 n _ (min k n) [] (-1) (by omega) hq, List.nil_append]
  by_cases h : k = 0 ∧ 0 < n
  · rw [if_pos h, if_pos (by omega)]
  · rw [if_neg h, if_neg (by omega)]
theorem GU19 (n : Nat) : G19 n n = U19 n 0 := by
  by_cases h : n = 0
  · subst h; rfl
  · unfold G19 U19
    rw [if_neg (by omega), Nat.min_self, upTo_nil (Nat.le_refl n), if_pos (by omega)]
    rfl
theorem unlock19 (n t : Nat) (h : t < n) : unlockS (U19 n t) 0 (t : Int) = (U19 n (t + 1), if t + 1 = n then -1 else (t : Int) + 1, 0) := by
  have e1 : (U19 n t).ow.getD 0 0 = (t : Int) := by simp [U19, h]
  have e2 : qAt (U19 n t).lk 0 = upTo (t + 1) n := rfl
  unfold unlockS handS
  rw [e1, if_neg (by omega), e2]
  by_cases h2 : t + 1 = n
  · rw [if_pos h2, upTo_nil (by omega)]
    simp [U19, h2, upTo_nil, headQ]
  · rw [if_neg h2, upTo_cons (by omega)]
    have h3 : t + 1 < n := by omega
    simp [U19, h3, headQ]
theorem free19 (n : Nat) : freeS (U19 n n) = true := by
  simp [freeS, U19, upTo_nil]
end Go.Proofs.Ytaplihoeephbeaa.V
