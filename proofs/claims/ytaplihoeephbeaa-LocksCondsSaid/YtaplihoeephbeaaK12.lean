/- K12: a text of a symbolic executor that is proved sound, and contracts that are proved with it. -/
import Derived.Test.YtaplihoeephbeaaK11
set_option linter.unusedVariables false
set_option linter.unusedSimpArgs false
namespace Go.Proofs.Ytaplihoeephbeaa.V
open Go Go.Proofs
set_option maxRecDepth 100000
set_option maxHeartbeats 40000000
@[reducible] def P19 (n k : Nat) (r : List (Nat × D)) : List (Nat × D) := (0, .int .i64 (n : Int)) :: (5, .int .i64 (k : Int)) :: (6, lkP) :: r
theorem upTo_append {a b : Nat} : ∀ {c : Nat}, a ≤ b → b ≤ c → upTo a b ++ upTo b c = upTo a c := by
  intro c hab hbc
  induction c with
  | zero => rw [upTo_nil (show 0 ≤ b by omega), upTo_nil (show 0 ≤ a by omega), upTo_nil (show b ≤ a by omega)]; rfl
  | succ c ih =>
    by_cases h : b = c + 1
    · subst h; rw [upTo_nil (Nat.le_refl _), List.append_nil]
    · rw [upTo_snoc (show b ≤ c by omega), upTo_snoc (show a ≤ c by omega), ← List.append_assoc, ih (by omega)]
theorem upTo_get {n t : Nat} (h : t < n) : (upTo 0 n)[0 + t]? = some (t : Int) := by
  unfold upTo
  rw [List.getElem?_map, Nat.zero_add, List.getElem?_range' (by omega)]
  simp
theorem law19 (x y : Int) (hx : I64 x) (hy : I64 y) : Spec Try.prog 19 [.int .i64 x, .int .i64 y] [] (fun d _ => d = .bool true) := by
  refine Spec.by Try.func19 rfl (by decide) (by decide +kernel) rfl ?_
  (refine goA ?_)
  refine Call.mk ((around33 x 13 hx (by omega)).only _ rfl (by rintro d rfl; rfl)) ?_; rintro d os' ⟨rfl, rfl⟩
  have hn := around_lt x 13 (by omega)
  obtain ⟨n, hne⟩ : ∃ n : Nat, around x 13 = n := ⟨(around x 13).toNat, by omega⟩
  rw [hne] at hn ⊢
  (refine goA ?_)
  refine Call.mk ((around33 y ((n : Int) + 2) hy (by omega)).only _ rfl (by rintro d rfl; rfl)) ?_; rintro d os' ⟨rfl, rfl⟩
  have hk := around_lt y ((n : Int) + 2) (by omega)
  obtain ⟨k, hke⟩ : ∃ k : Nat, around y ((n : Int) + 2) = k := ⟨(around y ((n : Int) + 2)).toNat, by omega⟩
  rw [hke] at hk ⊢
  (refine goA ?_)
  refine Call.mk (new66n 1 1 (by omega) (by omega)) ?_
  rintro d os' ⟨rfl, rfl⟩
  (refine goA ?_)
  refine Loop.inv2 (A := Nat) 0 (List.range 155) (fun t => P19 n k [(7, .int .i64 (t : Int))]) (fun t => lkO 1 1 0 (W19 t) []) (fun t => t ≤ n) (fun t => t = n) (fun t => n - t) 0 (Nat.zero_le _) ?_ ?_ ?_
  · exact Weak.start' rfl rfl tld
  · intro cont t ht
    (refine goA ?_)
    refine Br.dec (fun h => ?_) (fun h => ?_)
    · (refine goA ?_)
      refine Call.mk (lock67 (W19_ok t (by omega)) 0 (by omega) (t : Int) []) ?_
      rw [lock19]
      rintro d os' ⟨rfl, rfl⟩
      (refine goA ?_)
      refine Call.mk (wait89 (L19_ok t (by omega)) 0 0 (by omega) (by omega) (t : Int) []) ?_
      rw [wait19]
      rintro d os' ⟨rfl, rfl⟩
      (refine goA ?_)
      refine ⟨_, _, _, ?_, ⟨t + 1, ?_, rfl, rfl, rfl⟩, ?_⟩
      · show n - (t + 1) < n - t; omega
      · show t + 1 ≤ n; omega
      · refine Weak.backT 6 (by simp) (by first | rfl | kernel_rfl) (by kernel_rfl) (Nat.le_of_ble_eq_true rfl) tld (by kernel_rfl) (by kernel_rfl)
    · (refine goR ?_)
      refine Pt.weak ?_ (cont.h (t) ?_)
      · refine Weak.backT 6 (by simp) (by first | rfl | kernel_rfl) (by kernel_rfl) (Nat.le_of_ble_eq_true rfl) tld (by kernel_rfl) (by kernel_rfl)
      · show t = n; omega
  · intro t ht
    rw [show t = n from ht]
    (refine goR ?_)
    ((with_reducible refine Pt.go ?_); conv => whnf)
    (refine goR ?_)
    refine Pt.weak (Weak.trans (Weak.on (P19 n k [(10, .nils)]) (lkO 1 1 0 (W19 n) [])) (Weak.nilrow 10 rfl 3 1 true)) ?_
    (refine goA ?_)
    have hG0 : W19 n = G19 n 0 := by unfold G19; rw [if_pos (.inr rfl)]
    rw [hG0]
    refine Loop.inv2 (A := Nat) 2 (List.range 155) (fun i => P19 n k [(10, .sl 6 0 1 0 (upTo 0 (min i n)).length none), (11, .int .i64 (i : Int))]) (fun i => lkO 1 1 0 (G19 n i) [rowI (upTo 0 (min i n))]) (fun i => i ≤ k) (fun i => i = k) (fun i => k - i) 0 (Nat.zero_le _) ?_ ?_ ?_
    · refine Weak.trans (Weak.on (P19 n k [(10, .sl 6 0 1 0 0 none), (11, .int .i64 0)]) (lkO 1 1 0 (G19 n 0) [one (.row 3 1 true [])])) ?_
      rw [show min 0 n = 0 by omega]
      exact Weak.start' rfl rfl tld
    · intro cont i hi
      obtain ⟨hg1, hg2⟩ := G19_ok n i (by omega)
      have hsg := signal19 n i
      have hrm : ((upTo 0 (min i n)).map (D.int .i64)).length = (upTo 0 (min i n)).length := List.length_map ..
      have hrl := upTo_len 0 (min i n)
      (refine goA ?_)
      refine Br.dec (fun h => ?_) (fun h => ?_)
      · by_cases hin : i < n
        · rw [if_pos hin] at hsg
          have hin' : (i : Int) < (n : Int) := by omega
          have hi0 : (0 : Int) ≤ (i : Int) := by omega
          have hsn : upTo 0 (min (i + 1) n) = upTo 0 (min i n) ++ [(i : Int)] := by rw [show min (i + 1) n = i + 1 by omega, show min i n = i by omega]; exact upTo_snoc (Nat.zero_le i)
          have hb1 : (!(decide ((0 : Int) ≤ (i : Int)) == decide ((i : Int) < (n : Int)))) = false := bne_ff (by rw [decide_eq_true hi0, decide_eq_true hin'])
          by_cases hz : i = 0
          · skip
            rw [decide_eq_true (show i = 0 ∧ 0 < n by omega)] at hsg
            have hb3 : (!(true == decide ((0 : Int) < (n : Int)))) = false := bne_ff (by rw [decide_eq_true (show (0 : Int) < (n : Int) by omega)])
            (refine goA ?_)
            refine Call.mk (signal90 hg1 hg2 0 0 (by omega) (by omega) [rowI (upTo 0 (min i n))]) ?_
            rw [hsg]
            rintro d os' ⟨rfl, rfl⟩
            (refine goA ?_)
            refine App.only false rfl rfl ?_
            (refine goA ?_)
            refine ⟨_, _, _, ?_, ⟨i + 1, ?_, rfl, rfl, rfl⟩, ?_⟩
            · show k - (i + 1) < k - i; omega
            · show i + 1 ≤ k; omega
            · rw [hsn]
              refine Weak.trans (Weak.on (P19 n k [(10, .sl 7 0 1 0 ((upTo 0 (min i n)).length + 1) none), (11, .int .i64 ((i : Int) + 1))]) (lkO 1 1 0 (G19 n (i + 1)) [one .gone, one (.row 3 1 true ((upTo 0 (min i n)).map (D.int .i64) ++ [D.int .i64 (i : Int)]))])) ?_
              rw [map_snoc, show (upTo 0 (min i n)).length + 1 = (upTo 0 (min i n) ++ [(i : Int)]).length by rw [List.length_append, List.length_singleton]]
              refine Weak.trans (Weak.shift 7 6 (by decide) (by simp) (Nat.le_of_ble_eq_true rfl) (Nat.le_of_ble_eq_true rfl) (fun j => by cases j <;> rfl) rfl) ?_
              refine Weak.backT 7 (by simp) (by first | rfl | kernel_rfl) (by kernel_rfl) (Nat.le_of_ble_eq_true rfl) tld (by kernel_rfl) (by kernel_rfl)

          · skip
            rw [decide_eq_false (show ¬ (i = 0 ∧ 0 < n) by omega)] at hsg
            have hb3 : True := trivial
            (refine goA ?_)
            refine Call.mk (signal90 hg1 hg2 0 0 (by omega) (by omega) [rowI (upTo 0 (min i n))]) ?_
            rw [hsg]
            rintro d os' ⟨rfl, rfl⟩
            (refine goA ?_)
            refine App.only false rfl rfl ?_
            (refine goA ?_)
            refine ⟨_, _, _, ?_, ⟨i + 1, ?_, rfl, rfl, rfl⟩, ?_⟩
            · show k - (i + 1) < k - i; omega
            · show i + 1 ≤ k; omega
            · rw [hsn]
              refine Weak.trans (Weak.on (P19 n k [(10, .sl 7 0 1 0 ((upTo 0 (min i n)).length + 1) none), (11, .int .i64 ((i : Int) + 1))]) (lkO 1 1 0 (G19 n (i + 1)) [one .gone, one (.row 3 1 true ((upTo 0 (min i n)).map (D.int .i64) ++ [D.int .i64 (i : Int)]))])) ?_
              rw [map_snoc, show (upTo 0 (min i n)).length + 1 = (upTo 0 (min i n) ++ [(i : Int)]).length by rw [List.length_append, List.length_singleton]]
              refine Weak.trans (Weak.shift 7 6 (by decide) (by simp) (Nat.le_of_ble_eq_true rfl) (Nat.le_of_ble_eq_true rfl) (fun j => by cases j <;> rfl) rfl) ?_
              refine Weak.backT 7 (by simp) (by first | rfl | kernel_rfl) (by kernel_rfl) (Nat.le_of_ble_eq_true rfl) tld (by kernel_rfl) (by kernel_rfl)

        · rw [if_neg hin, decide_eq_false (show ¬ (i = 0 ∧ 0 < n) by omega)] at hsg
          have hsn : upTo 0 (min (i + 1) n) = upTo 0 (min i n) := by rw [show min (i + 1) n = min i n by omega]
          have hb1 : (!(decide ((0 : Int) ≤ -1) == decide ((i : Int) < (n : Int)))) = false := bne_ff (by rw [decide_eq_false (show ¬ (i : Int) < (n : Int) by omega)]; rfl)
          by_cases hz : i = 0
          · skip
            have hb3 : (!(false == decide ((0 : Int) < (n : Int)))) = false := bne_ff (by rw [decide_eq_false (show ¬ (0 : Int) < (n : Int) by omega)])
            (refine goA ?_)
            refine Call.mk (signal90 hg1 hg2 0 0 (by omega) (by omega) [rowI (upTo 0 (min i n))]) ?_
            rw [hsg]
            rintro d os' ⟨rfl, rfl⟩
            (refine goA ?_)
            refine ⟨_, _, _, ?_, ⟨i + 1, ?_, rfl, rfl, rfl⟩, ?_⟩
            · show k - (i + 1) < k - i; omega
            · show i + 1 ≤ k; omega
            · rw [hsn]
              refine Weak.backT 7 (by simp) (by first | rfl | kernel_rfl) (by kernel_rfl) (Nat.le_of_ble_eq_true rfl) tld (by kernel_rfl) (by kernel_rfl)

          · skip
            have hb3 : True := trivial
            (refine goA ?_)
            refine Call.mk (signal90 hg1 hg2 0 0 (by omega) (by omega) [rowI (upTo 0 (min i n))]) ?_
            rw [hsg]
            rintro d os' ⟨rfl, rfl⟩
            (refine goA ?_)
            refine ⟨_, _, _, ?_, ⟨i + 1, ?_, rfl, rfl, rfl⟩, ?_⟩
            · show k - (i + 1) < k - i; omega
            · show i + 1 ≤ k; omega
            · rw [hsn]
              refine Weak.backT 7 (by simp) (by first | rfl | kernel_rfl) (by kernel_rfl) (Nat.le_of_ble_eq_true rfl) tld (by kernel_rfl) (by kernel_rfl)

      · (refine goR ?_)
        refine Pt.weak ?_ (cont.h (i) ?_)
        · refine Weak.backT 7 (by simp) (by first | rfl | kernel_rfl) (by kernel_rfl) (Nat.le_of_ble_eq_true rfl) tld (by kernel_rfl) (by kernel_rfl)
        · show i = k; omega
    · intro i hi
      rw [show i = k from hi]
      obtain ⟨hg1, hg2⟩ := G19_ok n k (by omega)
      have hbr := broad19 n k
      have hrm : ((upTo 0 (min k n)).map (D.int .i64)).length = (upTo 0 (min k n)).length := List.length_map ..
      have hrl := upTo_len 0 (min k n)
      have hll := upTo_len (min k n) n
      have hlm : ((upTo (min k n) n).map (D.int .i64)).length = (upTo (min k n) n).length := List.length_map ..
      have hcat : (upTo 0 (min k n)).map (D.int .i64) ++ (upTo (min k n) n).map (D.int .i64) = (upTo 0 n).map (D.int .i64) := by rw [← List.map_append, upTo_append (Nat.zero_le _) (by omega)]
      have hln : (upTo 0 (min k n)).length + ((upTo (min k n) n).map (D.int .i64)).length = n := by rw [hlm, hrl, hll]; omega
      apply cutG (A := Unit) (n0 := 0) (fun _ => P19 n k [(10, .sl 6 0 1 0 n none)]) (fun _ => lkO 1 1 0 (U19 n 0) [rowI (upTo 0 n)]) (fun _ => True)
      · intro key
        by_cases hk0 : k = 0 ∧ 0 < n
        · rw [if_pos hk0] at hbr
          have hb4 : (!(decide ((0 : Int) ≤ 0) == decide ((0 : Int) < (n : Int)))) = false := bne_ff (by rw [decide_eq_true (show (0 : Int) < (n : Int) by omega)]; rfl)
          skip
          (refine goR ?_)
          ((with_reducible refine Pt.go ?_); conv => whnf)
          (refine goR ?_)
          have hcb := broad91 hg1 hg2 0 0 (by omega) (by omega) [rowI (upTo 0 (min k n))]
          rw [hbr] at hcb
          dsimp only at hcb
          refine Call.mk hcb ?_
          rintro d os' ⟨rfl, rfl⟩
          (refine goR ?_)
          ((with_reducible refine Pt.go ?_); conv => whnf)
          (refine goR ?_)
          ((with_reducible refine Pt.go ?_); conv => whnf)
          (refine goR ?_)
          refine Pt.weak ?_ (key () trivial)
          refine Weak.trans (Weak.on (P19 n k [(10, .sl 7 0 1 0 ((upTo 0 (min k n)).length + ((upTo (min k n) n).map (D.int .i64)).length) none)]) (lkO 1 1 0 (G19 n n) [one .gone, one (.row 3 1 true ((upTo 0 (min k n)).map (D.int .i64) ++ (upTo (min k n) n).map (D.int .i64)))])) ?_
          rw [hcat, hln, GU19]
          exact Weak.shf 7 6 (Weak.fin 7)
        · rw [if_neg hk0] at hbr
          by_cases hk1 : k = 0
          · have hb4 : (!(decide ((0 : Int) ≤ -1) == decide ((0 : Int) < (n : Int)))) = false := bne_ff (by rw [decide_eq_false (show ¬ (0 : Int) < (n : Int) by omega)]; rfl)
            skip
            (refine goR ?_)
            ((with_reducible refine Pt.go ?_); conv => whnf)
            (refine goR ?_)
            have hcb := broad91 hg1 hg2 0 0 (by omega) (by omega) [rowI (upTo 0 (min k n))]
            rw [hbr] at hcb
            dsimp only at hcb
            refine Call.mk hcb ?_
            rintro d os' ⟨rfl, rfl⟩
            (refine goR ?_)
            ((with_reducible refine Pt.go ?_); conv => whnf)
            (refine goR ?_)
            ((with_reducible refine Pt.go ?_); conv => whnf)
            (refine goR ?_)
            refine Pt.weak ?_ (key () trivial)
            refine Weak.trans (Weak.on (P19 n k [(10, .sl 7 0 1 0 ((upTo 0 (min k n)).length + ((upTo (min k n) n).map (D.int .i64)).length) none)]) (lkO 1 1 0 (G19 n n) [one .gone, one (.row 3 1 true ((upTo 0 (min k n)).map (D.int .i64) ++ (upTo (min k n) n).map (D.int .i64)))])) ?_
            rw [hcat, hln, GU19]
            exact Weak.shf 7 6 (Weak.fin 7)
          · skip
            skip
            (refine goR ?_)
            ((with_reducible refine Pt.go ?_); conv => whnf)
            (refine goR ?_)
            have hcb := broad91 hg1 hg2 0 0 (by omega) (by omega) [rowI (upTo 0 (min k n))]
            rw [hbr] at hcb
            dsimp only at hcb
            refine Call.mk hcb ?_
            rintro d os' ⟨rfl, rfl⟩
            (refine goR ?_)
            ((with_reducible refine Pt.go ?_); conv => whnf)
            (refine goR ?_)
            ((with_reducible refine Pt.go ?_); conv => whnf)
            (refine goR ?_)
            refine Pt.weak ?_ (key () trivial)
            refine Weak.trans (Weak.on (P19 n k [(10, .sl 7 0 1 0 ((upTo 0 (min k n)).length + ((upTo (min k n) n).map (D.int .i64)).length) none)]) (lkO 1 1 0 (G19 n n) [one .gone, one (.row 3 1 true ((upTo 0 (min k n)).map (D.int .i64) ++ (upTo (min k n) n).map (D.int .i64)))])) ?_
            rw [hcat, hln, GU19]
            exact Weak.shf 7 6 (Weak.fin 7)
      · rintro _ _
        ((with_reducible refine Pt.go ?_); conv => whnf)
        (refine goR ?_)
        refine Loop.inv2 (A := Nat) 4 (List.range 155) (fun t => P19 n k [(10, .sl 6 0 1 0 n none), (16, .int .i64 (t : Int))]) (fun t => lkO 1 1 0 (U19 n t) [rowI (upTo 0 n)]) (fun t => t ≤ n) (fun t => t = n) (fun t => n - t) 0 (Nat.zero_le _) ?_ ?_ ?_
        · exact Weak.start' rfl rfl tld
        · intro cont t ht
          have hum : ((upTo 0 n).map (D.int .i64)).length = n := by rw [List.length_map, upTo_len]; omega
          by_cases htn : t < n
          · have hok := U19_ok n t (by omega)
            have hul := unlock19 n t htn
            have e : U19 n t = ⟨[(t : Int)], [], [upTo (t + 1) n], [[]], []⟩ := by unfold U19; rw [if_pos htn]
            rw [e] at hok hul ⊢
            by_cases h2 : t + 1 = n
            · rw [if_pos h2] at hul
              (refine goA ?_)
              refine Opt.of (get_map (upTo_get htn)) ?_
              (refine goA ?_)
              refine Call.mk (unlock68 hok 0 (by omega) (t : Int) [rowI (upTo 0 n)]) ?_
              rw [hul]
              rintro d os' ⟨rfl, rfl⟩
              (refine goA ?_)
              refine ⟨_, _, _, ?_, ⟨t + 1, ?_, rfl, rfl, rfl⟩, ?_⟩
              · show n - (t + 1) < n - t; omega
              · show t + 1 ≤ n; omega
              · refine Weak.backT 7 (by simp) (by first | rfl | kernel_rfl) (by kernel_rfl) (Nat.le_of_ble_eq_true rfl) tld (by kernel_rfl) (by kernel_rfl)
            · rw [if_neg h2] at hul
              (refine goA ?_)
              refine Opt.of (get_map (upTo_get htn)) ?_
              (refine goA ?_)
              refine Call.mk (unlock68 hok 0 (by omega) (t : Int) [rowI (upTo 0 n)]) ?_
              rw [hul]
              rintro d os' ⟨rfl, rfl⟩
              (refine goA ?_)
              refine ⟨_, _, _, ?_, ⟨t + 1, ?_, rfl, rfl, rfl⟩, ?_⟩
              · show n - (t + 1) < n - t; omega
              · show t + 1 ≤ n; omega
              · refine Weak.backT 7 (by simp) (by first | rfl | kernel_rfl) (by kernel_rfl) (Nat.le_of_ble_eq_true rfl) tld (by kernel_rfl) (by kernel_rfl)
          · (refine goR ?_)
            ((with_reducible refine Pt.go ?_); conv => whnf)
            (refine goR ?_)
            refine Pt.weak ?_ (cont.h (t) ?_)
            · refine Weak.backT 7 (by simp) (by first | rfl | kernel_rfl) (by kernel_rfl) (Nat.le_of_ble_eq_true rfl) tld (by kernel_rfl) (by kernel_rfl)
            · show t = n; omega
        · intro t ht
          rw [show t = n from ht]
          (refine goR ?_)
          refine Pt.weak (Weak.fin (sl := P19 n k []) (os := lkO 1 1 0 (U19 n n) []) 6) ?_
          (refine goA ?_)
          refine Call.mk (free69' (U19_ok n n (by omega)) (by omega)) ?_
          rw [free19]
          rintro d os' ⟨rfl, rfl⟩
          (refine goA ?_)
          refine Call.mk ((lives70).only _ rfl (by rintro d rfl; rfl)) ?_; rintro d os' ⟨rfl, rfl⟩
          (refine goA ?_)
          exact Ret.mk [.tmp _] rfl rfl
end Go.Proofs.Ytaplihoeephbeaa.V
