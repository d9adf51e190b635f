/- K8: a text of a symbolic executor that is proved sound, and contracts that are proved with it. -/
import Derived.Test.YtaplihoeephbeaaK7b
import Derived.Test.YtaplihoeephbeaaR5
set_option linter.unusedVariables false
set_option linter.unusedSimpArgs false
namespace Go.Proofs.Ytaplihoeephbeaa.V
open Go Go.Proofs
set_option maxRecDepth 100000
set_option maxHeartbeats 40000000
theorem Spec.args {P : Program} {f : FuncId} {args args' : List D} {os : Objs} {post : D → Objs → Prop} (h : Spec P f args os post) (hv : ∀ ρ I vs, repL ρ I args' vs → repL ρ I args vs) : Spec P f args' os post :=
  ⟨h.1, fun ρ I w vs s r => h.2 ρ I w vs s (hv ρ I vs r)⟩
theorem new66n (nm nw : Nat) (h1 : nm ≤ 1000) (h2 : nw ≤ 1000) : Spec Try.prog 66 [.int .i64 nm, .int .i64 nw, .nils] [] (fun d os' => d = lkD nm nw 0 ∧ os' = lkR (newS nm nw [])) :=
  (new66 nm nw [] h1 h2 (by simp)).args (fun ρ I vs h => by
    obtain ⟨a, va, rfl, ha, h⟩ := repL_cons.1 h
    obtain ⟨b, vb, rfl, hb, h⟩ := repL_cons.1 h
    obtain ⟨c, vc, rfl, hc, h⟩ := repL_cons.1 h
    exact repL_cons.2 ⟨_, _, rfl, ha, repL_cons.2 ⟨_, _, rfl, hb, repL_cons.2 ⟨_, _, rfl, rep_nilsL 1 false hc, h⟩⟩⟩)
theorem lkL_of (S : Lk) (nm nw ns : Nat) (h : (S.ow.length = nm ∧ S.co.length = ns) ∧ (S.lk.length = nm ∧ S.wq.length = nw) ∧ S.dq.length = ns ∧ sumL S.lk + sumL S.wq + sumL S.dq ≤ 1000) : LkL nm nw ns S := ⟨h.1.1, h.1.2, h.2.1.1, h.2.1.2, h.2.2.1, h.2.2.2⟩
theorem lives70 : Spec Try.prog 70 [] [] (fun d os' => d = .bool true ∧ os' = []) := by
  have e0 : newS 1 0 [] = ⟨[-1], [], [[]], [], []⟩ := rfl
  have e1 : lockS ⟨[-1], [], [[]], [], []⟩ 0 5 = (⟨[5], [], [[]], [], []⟩, true) := rfl
  have e2 : lockS ⟨[5], [], [[]], [], []⟩ 0 6 = (⟨[5], [], [[6]], [], []⟩, false) := rfl
  have e3 : unlockS ⟨[5], [], [[6]], [], []⟩ 0 5 = (⟨[6], [], [[]], [], []⟩, 6, 0) := rfl
  have e4 : freeS ⟨[6], [], [[]], [], []⟩ = false := rfl
  refine Spec.by Try.func70 rfl (by decide) (by decide +kernel) rfl ?_
  (refine goA ?_)
  refine Call.mk (new66n 1 0 (by omega) (by omega)) ?_
  rw [e0]
  rintro d os' ⟨rfl, rfl⟩
  (refine goA ?_)
  refine Call.mk (lock67 (nm := 1) (nw := 0) (ns := 0) (lkL_of _ _ _ _ ⟨⟨rfl, rfl⟩, ⟨rfl, rfl⟩, rfl, by decide⟩) 0 (by omega) 5 []) ?_
  rw [e1]
  rintro d os' ⟨rfl, rfl⟩
  (refine goA ?_)
  refine Call.mk (lock67 (nm := 1) (nw := 0) (ns := 0) (lkL_of _ _ _ _ ⟨⟨rfl, rfl⟩, ⟨rfl, rfl⟩, rfl, by decide⟩) 0 (by omega) 6 []) ?_
  rw [e2]
  rintro d os' ⟨rfl, rfl⟩
  (refine goA ?_)
  refine Call.mk (unlock68 (nm := 1) (nw := 0) (ns := 0) (lkL_of _ _ _ _ ⟨⟨rfl, rfl⟩, ⟨rfl, rfl⟩, rfl, by decide⟩) 0 (by omega) 5 []) ?_
  rw [e3]
  rintro d os' ⟨rfl, rfl⟩
  (refine goA ?_)
  refine Call.mk (free69' (nm := 1) (nw := 0) (ns := 0) (lkL_of _ _ _ _ ⟨⟨rfl, rfl⟩, ⟨rfl, rfl⟩, rfl, by decide⟩) (by omega)) ?_
  rw [e4]
  rintro d os' ⟨rfl, rfl⟩
  (refine goA ?_)
  refine Ret.trim 0 (by simp) rfl (Nat.le_of_ble_eq_true rfl) ?_
  exact Ret.mk [.tmp _] rfl ⟨rfl, rfl⟩
/-- The numbers from a up to b. -/
def upTo (a b : Nat) : List Int := (List.range' a (b - a)).map Int.ofNat
theorem upTo_snoc {a b : Nat} (h : a ≤ b) : upTo a (b + 1) = upTo a b ++ [(b : Int)] := by
  unfold upTo
  rw [show b + 1 - a = (b - a) + 1 by omega, List.range'_concat, List.map_append]
  simp
  omega
theorem upTo_cons {a b : Nat} (h : a < b) : upTo a b = (a : Int) :: upTo (a + 1) b := by
  unfold upTo
  rw [show b - a = (b - (a + 1)) + 1 by omega, List.range'_succ]
  rfl
theorem upTo_nil {a b : Nat} (h : b ≤ a) : upTo a b = [] := by
  unfold upTo
  rw [show b - a = 0 by omega]; rfl
theorem upTo_len (a b : Nat) : (upTo a b).length = b - a := by simp [upTo]
def S13a (t : Nat) : Lk := ⟨[if t = 0 then -1 else 0], [], [upTo 1 t], [], []⟩
def S13b (n t : Nat) : Lk := ⟨[if t < n then (t : Int) else -1], [], [upTo (t + 1) n], [], []⟩
theorem S13a_ok (t : Nat) (h : t ≤ 21) : LkL 1 0 0 (S13a t) := lkL_of _ _ _ _ ⟨⟨rfl, rfl⟩, ⟨rfl, rfl⟩, rfl, by simp [S13a, sumL, upTo_len]; omega⟩
theorem S13b_ok (n t : Nat) (h : n ≤ 21) : LkL 1 0 0 (S13b n t) := lkL_of _ _ _ _ ⟨⟨rfl, rfl⟩, ⟨rfl, rfl⟩, rfl, by simp [S13b, sumL, upTo_len]; omega⟩
theorem lock13 (t : Nat) : lockS (S13a t) 0 (t : Int) = (S13a (t + 1), decide (t = 0)) := by
  by_cases h : t = 0
  · subst h; rfl
  · have e1 : (S13a t).ow.getD 0 0 = 0 := by simp [S13a, h]
    unfold lockS
    rw [e1, if_pos (by decide), decide_eq_false h]
    have e2 : qAt (S13a t).lk 0 = upTo 1 t := rfl
    rw [e2, ← upTo_snoc (by omega)]
    simp [S13a, h]
theorem unlock13a (n t : Nat) (h : t < n) : unlockS (S13b n t) 0 ((t : Int) + 1) = (S13b n t, -1, 10) := by
  have e1 : (S13b n t).ow.getD 0 0 = (t : Int) := by simp [S13b, h]
  unfold unlockS
  rw [e1, if_pos (by omega)]
theorem unlock13b (n t : Nat) (h : t < n) : unlockS (S13b n t) 0 (t : Int) = (S13b n (t + 1), if t + 1 = n then -1 else (t : Int) + 1, 0) := by
  have e1 : (S13b n t).ow.getD 0 0 = (t : Int) := by simp [S13b, h]
  have e2 : qAt (S13b n t).lk 0 = upTo (t + 1) n := rfl
  unfold unlockS handS
  rw [e1, if_neg (by omega), e2]
  by_cases h2 : t + 1 = n
  · rw [if_pos h2, upTo_nil (by omega)]
    simp [S13b, h2, upTo_nil, headQ]
  · rw [if_neg h2, upTo_cons (by omega)]
    have h3 : t + 1 < n := by omega
    simp [S13b, h3, headQ]
end Go.Proofs.Ytaplihoeephbeaa.V
