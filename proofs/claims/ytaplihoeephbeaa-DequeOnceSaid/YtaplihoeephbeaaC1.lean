/- C1: a text of a symbolic executor that is proved sound, and contracts that are proved with it. -/
import Derived.Test.YtaplihoeephbeaaVA
import Derived.Test.YtaplihoeephbeaaVB
import Derived.Test.YtaplihoeephbeaaVT
import Derived.Test.YtaplihoeephbeaaVC
import Derived.Test.YtaplihoeephbeaaC0
import Derived.ChangeArms
import Derived.ChangeSlices
import Derived.ChangeShapes
import Derived.WideShapes
import Derived.SizedLaws
import Derived.Carry
import Derived.OpenShut
import Derived.Test.YtaplihoeephbeaaRows
import Derived.WalkKit
import Derived.ProofKit
import Derived.ShutString
import Derived.ChangeOld
import Derived.Below
set_option linter.unusedVariables false
set_option linter.unusedSimpArgs false
section
namespace Go.Proofs.Ytaplihoeephbeaa.V
open Go Go.Proofs
set_option maxRecDepth 100000
set_option maxHeartbeats 40000000
theorem catL_cons (y : List Int) (L : List (List Int)) : catL (y :: L) = y ++ catL L := rfl
theorem count_sets : ∀ (L : List (List Int)) (i : Nat) (x : List Int) (a : Int), i < L.length → (catL (L.set i x)).count a + (qAt L i).count a = (catL L).count a + x.count a
  | y :: L, 0, x, a, _ => by
    show (catL (x :: L)).count a + y.count a = _
    rw [catL_cons, catL_cons, List.count_append, List.count_append]; omega
  | y :: L, i + 1, x, a, h => by
    have := count_sets L i x a (by simpa using h)
    show (catL (y :: L.set i x)).count a + (qAt L i).count a = _
    rw [catL_cons, catL_cons, List.count_append, List.count_append]; omega
theorem len_sets : ∀ (L : List (List Int)) (i : Nat) (x : List Int), i < L.length → (catL (L.set i x)).length + (qAt L i).length = (catL L).length + x.length
  | y :: L, 0, x, _ => by
    show (catL (x :: L)).length + y.length = _
    rw [catL_cons, catL_cons, List.length_append, List.length_append]; omega
  | y :: L, i + 1, x, h => by
    have := len_sets L i x (by simpa using h)
    show (catL (y :: L.set i x)).length + (qAt L i).length = _
    rw [catL_cons, catL_cons, List.length_append, List.length_append]; omega
/-- What all have are the given ones that are not seen so far. -/
structure Onc (L : List (List Int)) (G : List Int) (n : Nat) (seen : List Bool) : Prop where
  len : seen.length = 60
  c : ∀ x : Int, (catL L ++ G).count x = if (0 ≤ x ∧ x < n) ∧ seen.getD x.toNat true = false then 1 else 0
  f : ∀ x : Nat, n ≤ x → x < 60 → seen.getD x true = false
theorem give_c (m : Int) (L : List (List Int)) (G : List Int) (w v a : Int) (hw : 0 ≤ w ∧ w < L.length) : (catL (giveP m L G w v).1 ++ (giveP m L G w v).2.1).count a = (catL L ++ G).count a + [v].count a ∧ (catL (giveP m L G w v).1 ++ (giveP m L G w v).2.1).length = (catL L ++ G).length + 1 ∧ (giveP m L G w v).1.length = L.length := by
  unfold giveP
  rw [if_pos hw]
  have hi : w.toNat < L.length := by omega
  split
  · have h1 := count_sets L w.toNat (qAt L w.toNat ++ [v]) a hi
    have h2 := len_sets L w.toNat (qAt L w.toNat ++ [v]) hi
    dsimp only
    rw [List.count_append] at h1
    rw [List.length_append, List.length_singleton] at h2
    rw [List.count_append, List.count_append, List.length_append, List.length_append]
    exact ⟨by omega, by omega, List.length_set ..⟩
  · dsimp only
    rw [List.count_append, List.count_append, List.count_append, List.length_append, List.length_append, List.length_append, List.length_singleton]
    exact ⟨by omega, by omega, rfl⟩
/-- What is taken was there, and is out; else nothing is changed. -/
def outS (L L' : List (List Int)) (G G' : List Int) (v e : Int) : Prop := L'.length = L.length ∧ ((e ≠ 0 ∧ v = 0 ∧ catL L' ++ G' = catL L ++ G) ∨ (e = 0 ∧ (∀ a, (catL L ++ G).count a = (catL L' ++ G').count a + [v].count a) ∧ (catL L ++ G).length = (catL L' ++ G').length + 1))
theorem take_c (L : List (List Int)) (G : List Int) (w : Int) (hw : 0 ≤ w ∧ w < L.length) : outS L (takeP L G w).1 G (takeP L G w).2.1 (takeP L G w).2.2.1 (takeP L G w).2.2.2 := by
  unfold takeP
  rw [if_pos hw]
  have hi : w.toNat < L.length := by omega
  cases hq : (qAt L w.toNat).getLast? with
  | none =>
    dsimp only
    refine ⟨rfl, ?_⟩
    cases G with
    | nil => exact .inl ⟨by decide, rfl, rfl⟩
    | cons v G =>
      refine .inr ⟨rfl, fun a => ?_, ?_⟩
      · show (catL L ++ (v :: G)).count a = (catL L ++ G).count a + [v].count a
        rw [List.count_append, List.count_append, List.count_cons, List.count_cons]
        simp
        omega
      · simp [List.length_append]; omega
  | some v =>
    dsimp only
    have hne : qAt L w.toNat ≠ [] := by intro e; rw [e] at hq; cases hq
    have hd : (qAt L w.toNat).dropLast ++ [v] = qAt L w.toNat := by
      have := List.dropLast_concat_getLast hne
      rw [List.getLast?_eq_some_getLast hne] at hq
      rw [← Option.some.inj hq]; exact this
    refine ⟨List.length_set .., .inr ⟨rfl, fun a => ?_, ?_⟩⟩
    · have h1 := count_sets L w.toNat (qAt L w.toNat).dropLast a hi
      have h2 := congrArg (List.count a) hd
      rw [List.count_append] at h2
      rw [List.count_append, List.count_append]
      omega
    · have h1 := len_sets L w.toNat (qAt L w.toNat).dropLast hi
      have h2 := congrArg List.length hd
      rw [List.length_append, List.length_singleton] at h2
      rw [List.length_append, List.length_append]
      omega
theorem count_hd (v : Int) (t : List Int) (a : Int) : (v :: t).count a = t.count a + [v].count a := by simp [List.count_cons]
theorem steal_c (L : List (List Int)) (G : List Int) (w f : Int) : outS L (stealP L w f).1 G G (stealP L w f).2.1 (stealP L w f).2.2 := by
  have n1 : (1 : Int) ≠ 0 := by decide
  have n5 : (5 : Int) ≠ 0 := by decide
  have n7 : (7 : Int) ≠ 0 := by decide
  unfold stealP
  split
  · rename_i hh
    split
    · exact ⟨rfl, .inl ⟨n1, rfl, rfl⟩⟩
    · have hi : f.toNat < L.length := by omega
      cases hq : (qAt L f.toNat).head? with
      | none => exact ⟨rfl, .inl ⟨n7, rfl, rfl⟩⟩
      | some v =>
        dsimp only
        have hd : v :: (qAt L f.toNat).tail = qAt L f.toNat := by
          cases hL : qAt L f.toNat with
          | nil => rw [hL] at hq; cases hq
          | cons a l => rw [hL] at hq; cases hq; rfl
        refine ⟨List.length_set .., .inr ⟨rfl, fun a => ?_, ?_⟩⟩
        · have h1 := count_sets L f.toNat (qAt L f.toNat).tail a hi
          have h2 := congrArg (List.count a) hd
          rw [count_hd] at h2
          rw [List.count_append, List.count_append]
          omega
        · have h1 := len_sets L f.toNat (qAt L f.toNat).tail hi
          have h2 := congrArg List.length hd
          rw [List.length_cons] at h2
          rw [List.length_append, List.length_append]
          omega
  · exact ⟨rfl, .inl ⟨n5, rfl, rfl⟩⟩
theorem cnt1 (v a : Int) : [v].count a = if a = v then 1 else 0 := by
  rw [List.count_cons]
  by_cases h : a = v
  · subst h; simp
  · simp [h, Ne.symm h]
theorem Onc.give {L : List (List Int)} {G : List Int} {n : Nat} {seen : List Bool} (h : Onc L G n seen) (hn : n < 60) {m w : Int} (hw : 0 ≤ w ∧ w < L.length) : Onc (giveP m L G w n).1 (giveP m L G w n).2.1 (n + 1) seen := by
  refine ⟨h.len, fun x => ?_, fun x h1 h2 => h.f x (by omega) h2⟩
  rw [(give_c m L G w n x hw).1, cnt1, h.c x]
  by_cases hx : x = (n : Int)
  · subst hx
    have := h.f n (Nat.le_refl n) hn
    rw [if_neg (fun e => by omega), if_pos rfl, Int.toNat_natCast, this, if_pos ⟨⟨by omega, by omega⟩, rfl⟩]
  · rw [if_neg hx, Nat.add_zero]
    by_cases hc : (0 ≤ x ∧ x < (n : Int)) ∧ seen.getD x.toNat true = false
    · rw [if_pos hc, if_pos ⟨⟨hc.1.1, by omega⟩, hc.2⟩]
    · rw [if_neg hc, if_neg (fun e => hc ⟨⟨e.1.1, by omega⟩, e.2⟩)]
/-- What is put down as seen. -/
def putS (n : Nat) (seen : List Bool) (k e : Int) : List Bool × Bool := if e ≠ 0 then (seen, decide (k = 0)) else if k < 0 ∨ (n : Int) ≤ k then (seen, false) else (seen.set k.toNat true, !(seen.getD k.toNat true))
theorem Onc.out {L L' : List (List Int)} {G G' : List Int} {n : Nat} {seen : List Bool} {v e : Int} (h : Onc L G n seen) (hn : n ≤ 60) (ho : outS L L' G G' v e) : (putS n seen v e).2 = true ∧ Onc L' G' n (putS n seen v e).1 ∧ (catL L' ++ G').length ≤ (catL L ++ G).length := by
  unfold putS
  rcases ho.2 with ⟨h1, h2, h3⟩ | ⟨h1, h2, h3⟩
  · rw [if_pos h1]
    exact ⟨decide_eq_true h2, ⟨h.len, fun x => by rw [h3]; exact h.c x, h.f⟩, by rw [h3]; exact Nat.le_refl _⟩
  · rw [if_neg (fun e => e h1)]
    have hv := h.c v
    rw [h2 v, cnt1, if_pos rfl] at hv
    by_cases hc : (0 ≤ v ∧ v < (n : Int)) ∧ seen.getD v.toNat true = false
    · rw [if_neg (by omega)]
      refine ⟨by rw [hc.2]; rfl, ⟨by simp [h.len], fun x => ?_, fun x h5 h6 => ?_⟩, by omega⟩
      · have h4 := h.c x
        rw [h2 x, cnt1] at h4
        dsimp only
        rw [getD_set]
        by_cases hx : x = v
        · subst hx
          rw [if_pos rfl, if_pos hc] at h4
          have hh : (if x.toNat = x.toNat ∧ x.toNat < seen.length then true else seen.getD x.toNat true) = true := if_pos ⟨rfl, by have := h.len; omega⟩
          rw [hh, if_neg (fun e => Bool.noConfusion e.2)]
          omega
        · rw [if_neg hx] at h4
          by_cases hx0 : 0 ≤ x
          · have hh : (if v.toNat = x.toNat ∧ v.toNat < seen.length then true else seen.getD x.toNat true) = seen.getD x.toNat true := if_neg (fun e => hx (by omega))
            rw [hh]; omega
          · rw [if_neg (fun e => hx0 e.1.1)] at h4 ⊢; omega
      · dsimp only
        rw [getD_set, if_neg (fun e => by omega)]
        exact h.f x h5 h6
    · rw [if_neg hc] at hv
      omega
theorem qAt_len_le : ∀ (L : List (List Int)) (w : Nat), (qAt L w).length ≤ (catL L).length
  | [], w => by
    unfold qAt
    rw [List.getD_eq_getElem?_getD]; simp [catL]
  | y :: L, 0 => by rw [catL_cons, List.length_append]; exact Nat.le_add_right _ _
  | y :: L, w + 1 => by
    have := qAt_len_le L w
    rw [catL_cons, List.length_append]
    exact Nat.le_trans this (Nat.le_add_left _ _)
/-- A worker that takes again and again: so many are left to it. -/
theorem take_left (L : List (List Int)) (G : List Int) (w : Nat) (hw : w < L.length) : (qAt (takeP L G w).1 w).length + (takeP L G w).2.1.length = (qAt L w).length + G.length - 1 ∧ ∀ v, v ≠ w → qAt (takeP L G w).1 v = qAt L v := by
  unfold takeP
  rw [if_pos ⟨by omega, by omega⟩, Int.toNat_natCast]
  cases hq : (qAt L w).getLast? with
  | none =>
    have he : qAt L w = [] := List.getLast?_eq_none_iff.1 hq
    dsimp only
    refine ⟨?_, fun v _ => rfl⟩
    rw [he, List.length_tail, List.length_nil]; omega
  | some v =>
    dsimp only
    have hne : qAt L w ≠ [] := by intro e; rw [e] at hq; cases hq
    have := List.length_pos_iff.2 hne
    refine ⟨?_, fun u hu => ?_⟩
    · rw [qAt_set _ _ _ hw, List.length_dropLast]; omega
    · rw [qAt_sets, if_neg (fun e => hu e.1.symm)]
theorem cat_nil : ∀ (L : List (List Int)), (∀ w, w < L.length → qAt L w = []) → catL L = []
  | [], _ => rfl
  | y :: L, h => by
    have h0 : y = [] := h 0 (by simp)
    have h1 := cat_nil L (fun w hw => h (w + 1) (by simpa using hw))
    rw [catL_cons, h0, h1]; rfl
end Go.Proofs.Ytaplihoeephbeaa.V
end
section
namespace Go.Proofs.Ytaplihoeephbeaa.V
open Go Go.Proofs
set_option maxRecDepth 100000
set_option maxHeartbeats 40000000
@[reducible] def dlD (kd t x : Int) : D := .agg [.int .i64 kd, .int .i64 t, .int .i64 x]
end Go.Proofs.Ytaplihoeephbeaa.V
end
section
namespace Go.Proofs.Ytaplihoeephbeaa.V
open Go Go.Proofs
set_option maxRecDepth 100000
set_option maxHeartbeats 40000000
@[reducible] def dlT (x : Int × Int × Int) : D := dlD x.1 x.2.1 x.2.2
@[reducible] def dls (l : List (Int × Int × Int)) : D := .lst 3 false (l.map dlT)
def dlok (l : List (Int × Int × Int)) : Prop := l.length * 24 ≤ 140737488351232 ∧ ∀ x ∈ l, I64 x.1 ∧ I64 x.2.1 ∧ I64 x.2.2
end Go.Proofs.Ytaplihoeephbeaa.V
end
section
namespace Go.Proofs.Ytaplihoeephbeaa.V
open Go Go.Proofs
set_option maxRecDepth 100000
set_option maxHeartbeats 40000000
@[reducible] def rowB (l : List Bool) : Fam := one (.row 4 1 true (l.map D.bool))
@[reducible] def cN (n : Int) : Fam := one (.row 3 1 false [.int .i64 n])
theorem put86 (n : Nat) (seen : List Bool) (k e : Int) (hs : seen.length = 60) (hn : n ≤ 60) : Spec Try.prog 86 [.int .i64 k, .int .i64 e, .ptr 0 0 1 0 0, .ptr 2 0 1 0 0] [cN n, rowB seen, one (.row 99 1 false [.sl 1 0 1 0 60 none])] (fun d os' => d = .bool (putS n seen k e).2 ∧ os' = [cN n, rowB (putS n seen k e).1, one (.row 99 1 false [.sl 1 0 1 0 60 none])]) := by
  have hsm : (seen.map D.bool).length = 60 := by rw [List.length_map]; exact hs
  unfold putS
  by_cases he : e = 0
  · rw [if_neg (fun h => h he)]
    by_cases hk : k < 0 ∨ (n : Int) ≤ k
    · rw [if_pos hk]
      refine Spec.by Try.func86 rfl (by decide) (by decide +kernel) rfl ?_
      (refine goA ?_)
      refine Br.dec (fun h0 => ?_) (fun h0 => ?_)
      · (refine goA ?_)
        exact Ret.mk [.tmp _] rfl ⟨rfl, rfl⟩
      · (refine goA ?_)
        exact Ret.mk [.tmp _] rfl ⟨rfl, rfl⟩
    · rw [if_neg hk]
      obtain ⟨i, rfl⟩ := Int.eq_ofNat_of_zero_le (show 0 ≤ k by omega)
      have hi : i < seen.length := by omega
      have hg : (seen.map D.bool)[0 + i]? = some (.bool (seen.getD i true)) := by
        rw [Nat.zero_add, List.getElem?_map, List.getD_eq_getElem?_getD, List.getElem?_eq_getElem hi]; rfl
      rw [Int.toNat_natCast]
      refine Spec.by Try.func86 rfl (by decide) (by decide +kernel) rfl ?_
      (refine goA ?_)
      refine Opt.of hg ?_
      (refine goA ?_)
      refine Opt.of hg ?_
      (refine goA ?_)
      refine Ret.mk [.tmp _] rfl ⟨rfl, ?_⟩
      exact congrArg (fun x => [cN n, one (.row 4 1 true x), one (.row 99 1 false [.sl 1 0 1 0 60 none])]) (by rw [Nat.zero_add, List.map_set]; rfl)
  · rw [if_pos he]
    refine Spec.by Try.func86 rfl (by decide) (by decide +kernel) rfl ?_
    (refine goA ?_)
    exact Ret.mk [.tmp _] rfl ⟨rfl, rfl⟩
@[reducible] def R3 (n : Nat) (seen : List Bool) : Objs := [cN n, rowB seen, one (.row 99 1 false [.sl 8 0 1 0 60 none])]
theorem put_at {n : Nat} {seen : List Bool} (k e : Int) (hs : seen.length = 60) (hn : n ≤ 60) (os : Objs) (h7 : os[7]? = some (cN n)) (h8 : os[8]? = some (rowB seen)) (h9 : os[9]? = some (one (.row 99 1 false [.sl 8 0 1 0 60 none]))) :
    Spec Try.prog 86 [.int .i64 k, .int .i64 e, .ptr 7 0 1 0 0, .ptr 9 0 1 0 0] os (fun d os' => d = .bool (putS n seen k e).2 ∧ os' = os.set 8 (rowB (putS n seen k e).1)) := by
  have hl : 9 < os.length := (List.getElem?_eq_some_iff.1 h9).1
  refine ((put86 n seen k e hs hn).frame os [(7, 0), (8, 0), (9, 0)] rfl (by decide) (fun i p hp => ?_) rfl).mono ?_
  · match i, hp with
    | 0, hp => cases hp; exact ⟨by show 7 < os.length; omega, by rw [at_one h7]; rfl, rfl, fun j hj => one_pos _ hj⟩
    | 1, hp => cases hp; exact ⟨by show 8 < os.length; omega, by rw [at_one h8]; rfl, rfl, fun j hj => one_pos _ hj⟩
    | 2, hp => cases hp; exact ⟨hl, by rw [at_one h9]; rfl, rfl, fun j hj => one_pos _ hj⟩
    | i + 3, hp => simp at hp
  · rintro d os' ⟨d1, os1, ⟨rfl, rfl⟩, rfl, rfl⟩
    refine ⟨rfl, ?_⟩
    show ((os.put 7 0 (.row 3 1 false [.int .i64 n])).put 8 0 (.row 4 1 true ((putS n seen k e).1.map D.bool))).put 9 0 (.row 99 1 false [.sl 8 0 1 0 60 none]) ++ [] = _
    have e7 : os.put 7 0 (.row 3 1 false [.int .i64 n]) = os := by rw [put_one h7]; exact list_set_same h7
    rw [e7, put_one h8, List.append_nil]
    have h9' : (os.set 8 (one (.row 4 1 true ((putS n seen k e).1.map D.bool))))[9]? = some (one (.row 99 1 false [.sl 8 0 1 0 60 none])) := by rw [List.getElem?_set_ne (by decide)]; exact h9
    rw [put_one h9']
    exact list_set_same h9'
theorem R3_map (w : Option Nat) (n : Nat) (seen : List Bool) (i j : Nat) : ((R3 n seen).at i j).mapId (fu3 w) = (R3 n seen).at i j := by
  match i, j with
  | 0, 0 | 1, 0 | 2, 0 => rfl
  | 0, j + 1 | 1, j + 1 | 2, j + 1 => rfl
  | i + 3, j => rfl
theorem R3_lt (n : Nat) (seen : List Bool) (i j : Nat) : ((R3 n seen).at i j).lt 10 = true := by
  match i, j with
  | 0, 0 | 1, 0 | 2, 0 => rfl
  | 0, j + 1 | 1, j + 1 | 2, j + 1 => rfl
  | i + 3, j => rfl
theorem Weak.from3 {sl : List (Nat × D)} {m : Int} {st : List (Bool × List Int)} {g : Gl} (w : Option Nat) (hw : ∀ j, w = some j → ∃ l, st[j]? = some (true, l)) {n : Nat} {seen : List Bool} (hm : ((mapM (fu3 w) sl).all fun p => p.2.lt 10) = true) :
    Weak 0 { m := sl, objs := gapO 7 (R3 n seen) (poU m st g w) } { m := mapM (fu3 w) sl, objs := poO m st g ++ R3 n seen } := Weak.fromU3 w hw rfl (R3_map w n seen) (R3_lt n seen) hm
theorem take_G (L : List (List Int)) (G : List Int) (w : Int) (h : G = []) : (takeP L G w).2.1 = [] := by
  subst h
  unfold takeP
  split
  · split <;> rfl
  · rfl
/-- What stands behind deeds: all that is kept. -/
structure Onq (W : Nat) (M : Int) (b : Nat) (st : List (Bool × List Int)) (g : Gl) (G : List Int) (n : Nat) (seen : List Bool) : Prop where
  p : PoOk b M st g G
  o : Onc (st.map (·.2)) G n seen
  n : n ≤ 60
  w : st.length = W
  a : (catL (st.map (·.2)) ++ G).length ≤ 60
theorem Onq.give {W b b' : Nat} {M : Int} {st st' : List (Bool × List Int)} {g g' : Gl} {G : List Int} {n : Nat} {seen : List Bool} (h : Onq W M b st g G n seen) (hn : n < 60) {w : Int} (hw : 0 ≤ w ∧ w < W) (ha : (catL (st.map (·.2)) ++ G).length < 60) (hp' : PoOk b' M st' g' (giveP M (st.map (·.2)) G w n).2.1) (hL' : st'.map (·.2) = (giveP M (st.map (·.2)) G w n).1) :
    Onq W M b' st' g' (giveP M (st.map (·.2)) G w n).2.1 (n + 1) seen ∧ (catL (st'.map (·.2)) ++ (giveP M (st.map (·.2)) G w n).2.1).length = (catL (st.map (·.2)) ++ G).length + 1 := by
  have hw' : 0 ≤ w ∧ w < (st.map (·.2)).length := by rw [List.length_map, h.w]; exact hw
  obtain ⟨h1, h2, h3⟩ := give_c M (st.map (·.2)) G w n 0 hw'
  refine ⟨⟨hp', ?_, hn, ?_, ?_⟩, ?_⟩
  · rw [hL']; exact h.o.give hn hw'
  · have := congrArg List.length hL'
    rw [List.length_map, h3, List.length_map, h.w] at this
    exact this
  · rw [hL', h2]; omega
  · rw [hL', h2]
theorem Onq.out {W b b' : Nat} {M : Int} {st st' : List (Bool × List Int)} {g g' : Gl} {G G' : List Int} {n : Nat} {seen : List Bool} {v e : Int} (h : Onq W M b st g G n seen) (hp' : PoOk b' M st' g' G') (ho : outS (st.map (·.2)) (st'.map (·.2)) G G' v e) :
    (putS n seen v e).2 = true ∧ Onq W M b' st' g' G' n (putS n seen v e).1 ∧ (catL (st'.map (·.2)) ++ G').length ≤ (catL (st.map (·.2)) ++ G).length := by
  obtain ⟨h1, h2, h3⟩ := h.o.out h.n ho
  refine ⟨h1, ⟨hp', h2, h.n, ?_, Nat.le_trans h3 h.a⟩, h3⟩
  have := ho.1
  rw [List.length_map, List.length_map, h.w] at this
  exact this
theorem Onq.mono {W b b' : Nat} {M : Int} {st : List (Bool × List Int)} {g : Gl} {G : List Int} {n : Nat} {seen : List Bool} (h : Onq W M b st g G n seen) (hb : b ≤ b') : Onq W M b' st g G n seen := ⟨h.p.mono hb, h.o, h.n, h.w, h.a⟩
structure Os7 where
  i : Nat
  st : List (Bool × List Int)
  g : Gl
  G : List Int
  n : Nat
  seen : List Bool
theorem law17 (x y : Int) (l : List (Int × Int × Int)) (hx : I64 x) (hy : I64 y) (hl : dlok l) : Spec Try.prog 17 [.int .i64 x, .int .i64 y, dls l] [] (fun d _ => d = .bool true) := by
  have hlm : (l.map dlT).length = l.length := List.length_map ..
  have hl1 := hl.1
  refine Spec.by Try.func17 rfl (by decide) (by decide +kernel) rfl ?_
  (refine goA ?_)
  refine Call.mk ((around33 x 8 hx (by omega)).only _ rfl (by rintro d rfl; rfl)) ?_; rintro d os' ⟨rfl, rfl⟩
  have hxa := around_lt x 8 (by omega)
  obtain ⟨W, hW⟩ : ∃ W : Nat, 1 + around x 8 = W := ⟨(1 + around x 8).toNat, by omega⟩
  have hW2 : 1 ≤ W ∧ W ≤ 8 := by omega
  (refine goR ?_)
  rw [hW]
  (refine goA ?_)
  have hwk : (wkI (W : Int)).toNat = W := by unfold wkI; rw [if_neg (by omega), if_neg (by omega)]; exact Int.toNat_natCast W
  have h80 := new80 (W : Int) y
  have h80k := newOk (W : Int) y
  rw [hwk] at h80 h80k
  refine Call.mk h80 ?_
  rintro d os' ⟨rfl, rfl⟩
  obtain ⟨M, hMe⟩ : ∃ M, dqI y = M := ⟨_, rfl⟩
  rw [hMe] at h80k ⊢
  (refine goA ?_)
  refine App.own ?_
  (refine goA ?_)
  have h00 : Onq W M 0 (noth W) ⟨0, false, 0, 0, []⟩ [] 0 (List.replicate 60 false) := by
    have hc : catL ((noth W).map (·.2)) = [] := by
      unfold noth
      rw [List.map_replicate]
      exact cat_nil _ (fun w _ => qAt_nils _ _)
    refine ⟨h80k, ⟨List.length_replicate .., fun x => ?_, fun x _ hx => ?_⟩, Nat.zero_le _, noth_len W, by rw [hc]; exact Nat.zero_le _⟩
    · rw [hc, if_neg (fun e => by have := e.1; omega)]; rfl
    · rw [List.getD_eq_getElem?_getD, List.getElem?_replicate, if_pos hx]; rfl
  refine Loop.inv2 (A := Os7) 0 (List.range 133) (fun a => [(2, dls l), (7, .int .i64 (W : Int)), (8, .ptr 0 0 2 0 0), (9, .ptr 7 0 1 0 0), (10, .ptr 9 0 1 0 0), (11, .fn (.func 86) [] [.ptr 7 0 1 0 0, .ptr 9 0 1 0 0]), (12, .int .i64 (a.i : Int))]) (fun a => poO M a.st a.g ++ R3 a.n a.seen) (fun a => a.i ≤ 60 ∧ a.i ≤ l.length ∧ a.n ≤ a.i ∧ (catL (a.st.map (·.2)) ++ a.G).length ≤ a.i ∧ Onq W M a.i a.st a.g a.G a.n a.seen) (fun a => Onq W M 60 a.st a.g a.G a.n a.seen) (fun a => 60 - a.i) ⟨0, noth W, ⟨0, false, 0, 0, []⟩, [], 0, List.replicate 60 false⟩ ⟨Nat.zero_le _, Nat.zero_le _, Nat.le_refl _, ?_, h00⟩ ?_ ?_ ?_
  · have := h00.a
    unfold noth
    rw [List.map_replicate, cat_nil _ (fun w _ => qAt_nils _ _)]
    exact Nat.zero_le _
  · exact Weak.start' rfl rfl tld
  · intro cont
    rintro ⟨i, st, g, G, n, seen⟩ ⟨hi, hil, hni, hai, hq⟩
    dsimp only at hi hil hni hai hq ⊢
    have hp := hq.p
    have hsl := hq.o.len
    have hst := hq.w
    (refine goA ?_)
    refine Br.dec (fun h0 => ?_) (fun h0 => ?_)
    · (refine goA ?_)
      refine Br.dec (fun h6 => ?_) (fun h6 => ?_)
      · have hlt : i < l.length := by omega
        obtain ⟨v, hv⟩ : ∃ v, l[i]? = some v := ⟨_, List.getElem?_eq_getElem hlt⟩
        have hv64 := hl.2 v (List.mem_of_getElem? hv)
        (refine goA ?_)
        refine Opt.of (get_map hv) ?_
        (refine goA ?_)
        refine Call.mk ((around33 v.2.1 W hv64.2.1 (by omega)).only _ rfl (by rintro d rfl; rfl)) ?_; rintro d os' ⟨rfl, rfl⟩
        have hwa := around_lt v.2.1 W (by omega)
        obtain ⟨w, hwe⟩ : ∃ w, around v.2.1 W = w := ⟨_, rfl⟩
        rw [hwe] at hwa ⊢
        have hwL : 0 ≤ w ∧ w < (st.map (·.2)).length := by rw [List.length_map, hst]; exact hwa
        (refine goA ?_)
        refine Opt.of (get_map hv) ?_
        (refine goA ?_)
        refine Br.dec (fun h7 => ?_) (fun h7 => ?_)
        · (refine goA ?_)
          refine Call.mk ((give81 hp (by omega) w (n : Int)).behindN (R3 n seen) rfl (poO_lt M st g)) ?_
          rintro d os' ⟨d1, os1, ⟨st', g', wo, ⟨rfl, hp', hL', hwo⟩, rfl⟩, rfl, rfl⟩
          obtain ⟨hq', hl'⟩ := hq.give (by omega) hwa (by omega) hp' hL'
          (refine goA ?_)
          refine ⟨_, _, _, ?_, ⟨(⟨i + 1, st', g', (giveP M (st.map (·.2)) G w n).2.1, n + 1, seen⟩ : Os7), ?_, rfl, rfl, rfl⟩, ?_⟩
          · show 60 - (i + 1) < 60 - i; omega
          · exact ⟨by show i + 1 ≤ 60; omega, hlt, by show n + 1 ≤ i + 1; omega, Nat.le_trans (Nat.le_of_eq hl') (Nat.succ_le_succ hai), hq'⟩
          · refine Weak.trans (Weak.only [(2, dls l), (7, .int .i64 (W : Int)), (8, .ptr 0 0 2 0 0), (9, .ptr 7 0 1 0 0), (10, .ptr 9 0 1 0 0), (11, .fn (.func 86) [] [.ptr 7 0 1 0 0, .ptr 9 0 1 0 0]), (12, .int .i64 ((i : Int) + 1))] (gapO 7 (R3 (n + 1) seen) (poU M st' g' wo)) (by kernel_rfl) tld) ?_
            exact Weak.from3 wo hwo rfl
        · (refine goA ?_)
          refine Br.dec (fun h8 => ?_) (fun h8 => ?_)
          · skip
            (refine goA ?_)
            refine Call.mk ((take84 hp (by omega) w).behindN (R3 n seen) rfl (poO_lt M st g)) ?_
            have ho := take_c (st.map (·.2)) G w hwL
            obtain ⟨tv, htv⟩ : ∃ x, (takeP (st.map (·.2)) G w).2.2.1 = x := ⟨_, rfl⟩
            obtain ⟨te, hte⟩ : ∃ x, (takeP (st.map (·.2)) G w).2.2.2 = x := ⟨_, rfl⟩
            rw [htv, hte] at ho ⊢
            rintro d os' ⟨d1, os1, ⟨st', g', wo, ⟨rfl, hp', hL', hwo⟩, rfl⟩, rfl, rfl⟩
            rw [← hL'] at ho
            obtain ⟨hp2, hq', hl'⟩ := hq.out hp' ho
            (refine goA ?_)
            refine Call.mk (put_at tv te hsl hq.n _ rfl rfl rfl) ?_
            rintro d os' ⟨rfl, rfl⟩
            rw [hp2]
            (refine goA ?_)
            refine ⟨_, _, _, ?_, ⟨(⟨i + 1, st', g', (takeP (st.map (·.2)) G w).2.1, n, (putS n seen tv te).1⟩ : Os7), ?_, rfl, rfl, rfl⟩, ?_⟩
            · show 60 - (i + 1) < 60 - i; omega
            · exact ⟨by show i + 1 ≤ 60; omega, hlt, by show n ≤ i + 1; omega, Nat.le_trans hl' (Nat.le_succ_of_le hai), hq'⟩
            · refine Weak.trans (Weak.only [(2, dls l), (7, .int .i64 (W : Int)), (8, .ptr 0 0 2 0 0), (9, .ptr 7 0 1 0 0), (10, .ptr 9 0 1 0 0), (11, .fn (.func 86) [] [.ptr 7 0 1 0 0, .ptr 9 0 1 0 0]), (12, .int .i64 ((i : Int) + 1))] (gapO 7 (R3 n (putS n seen tv te).1) (poU M st' g' wo)) (by kernel_rfl) tld) ?_
              exact Weak.from3 wo hwo rfl
          · (refine goA ?_)
            refine Opt.of (get_map hv) ?_
            (refine goA ?_)
            refine Call.mk ((around33 v.2.2 W hv64.2.2 (by omega)).only _ rfl (by rintro d rfl; rfl)) ?_; rintro d os' ⟨rfl, rfl⟩
            obtain ⟨f, hfe⟩ : ∃ f, around v.2.2 W = f := ⟨_, rfl⟩
            rw [hfe]
            (refine goA ?_)
            refine Call.mk ((steal87 hp (by omega) w f).behindN (R3 n seen) rfl (poO_lt M st g)) ?_
            have ho := steal_c (st.map (·.2)) G w f
            obtain ⟨tv, htv⟩ : ∃ x, (stealP (st.map (·.2)) w f).2.1 = x := ⟨_, rfl⟩
            obtain ⟨te, hte⟩ : ∃ x, (stealP (st.map (·.2)) w f).2.2 = x := ⟨_, rfl⟩
            rw [htv, hte] at ho ⊢
            rintro d os' ⟨d1, os1, ⟨st', g', wo, ⟨rfl, hp', hL', hwo⟩, rfl⟩, rfl, rfl⟩
            rw [← hL'] at ho
            obtain ⟨hp2, hq', hl'⟩ := hq.out hp' ho
            (refine goA ?_)
            refine Call.mk (put_at tv te hsl hq.n _ rfl rfl rfl) ?_
            rintro d os' ⟨rfl, rfl⟩
            rw [hp2]
            (refine goA ?_)
            refine ⟨_, _, _, ?_, ⟨(⟨i + 1, st', g', G, n, (putS n seen tv te).1⟩ : Os7), ?_, rfl, rfl, rfl⟩, ?_⟩
            · show 60 - (i + 1) < 60 - i; omega
            · exact ⟨by show i + 1 ≤ 60; omega, hlt, by show n ≤ i + 1; omega, Nat.le_trans hl' (Nat.le_succ_of_le hai), hq'⟩
            · refine Weak.trans (Weak.only [(2, dls l), (7, .int .i64 (W : Int)), (8, .ptr 0 0 2 0 0), (9, .ptr 7 0 1 0 0), (10, .ptr 9 0 1 0 0), (11, .fn (.func 86) [] [.ptr 7 0 1 0 0, .ptr 9 0 1 0 0]), (12, .int .i64 ((i : Int) + 1))] (gapO 7 (R3 n (putS n seen tv te).1) (poU M st' g' wo)) (by kernel_rfl) tld) ?_
              exact Weak.from3 wo hwo rfl
      · (refine goR ?_)
        refine Pt.weak ?_ (cont.h ((⟨i, st, g, G, n, seen⟩ : Os7)) ?_)
        · refine Weak.only _ _ ?_ ?_
          · kernel_rfl
          · exact tld
        · exact hq.mono hi
    · (refine goR ?_)
      refine Pt.weak ?_ (cont.h ((⟨i, st, g, G, n, seen⟩ : Os7)) ?_)
      · refine Weak.only _ _ ?_ ?_
        · kernel_rfl
        · exact tld
      · exact hq.mono hi
  · rintro ⟨i, st0, g0, G0, n0, seen0⟩ hq0
    dsimp only at hq0 ⊢
    have hn60 := hq0.n
    (refine goR ?_)
    ((with_reducible refine Pt.go ?_); conv => whnf)
    (refine goR ?_)
    refine Loop.inv (A := Os7) (List.range 133) (fun a => [(7, .int .i64 (W : Int)), (8, .ptr 0 0 2 0 0), (9, .ptr 7 0 1 0 0), (10, .ptr 9 0 1 0 0), (11, .fn (.func 86) [] [.ptr 7 0 1 0 0, .ptr 9 0 1 0 0]), (19, .int .i64 (a.i : Int))]) (fun a => poO M a.st a.g ++ R3 a.n a.seen) (fun a => a.i ≤ W ∧ a.n = n0 ∧ (∀ v, v < a.i → qAt (a.st.map (·.2)) v = []) ∧ (0 < a.i → a.G = []) ∧ Onq W M (60 + 61 * a.i) a.st a.g a.G a.n a.seen) (fun a => W - a.i) ⟨0, st0, g0, G0, n0, seen0⟩ ⟨Nat.zero_le _, rfl, (fun v h => by cases h), (fun h => by cases h), hq0⟩ ?_ ?_
    · exact Weak.start' rfl rfl tld
    rintro ⟨w, st, g, G, n', seen⟩ ⟨hw, hn', hqe1, hGe1, hq1⟩
    dsimp only at hw hn' hqe1 hGe1 hq1 ⊢
    subst hn'
    (refine goA ?_)
    refine Br.dec (fun h1 => ?_) (fun h1 => ?_)
    · have hwW : w < W := by omega
      have hst := hq1.w
      (refine goA ?_)
      refine Loop.inv (A := Os7) (List.range 133) (fun a => [(7, .int .i64 (W : Int)), (8, .ptr 0 0 2 0 0), (9, .ptr 7 0 1 0 0), (10, .ptr 9 0 1 0 0), (11, .fn (.func 86) [] [.ptr 7 0 1 0 0, .ptr 9 0 1 0 0]), (19, .int .i64 (w : Int)), (20, .int .i64 (a.i : Int))]) (fun a => poO M a.st a.g ++ R3 a.n a.seen) (fun a => a.i ≤ 61 ∧ a.n = n' ∧ (∀ v, v < w → qAt (a.st.map (·.2)) v = []) ∧ (0 < w → a.G = []) ∧ (qAt (a.st.map (·.2)) w).length + a.G.length ≤ 60 - a.i ∧ Onq W M (60 + 61 * w + a.i) a.st a.g a.G a.n a.seen) (fun a => 61 - a.i) ⟨0, st, g, G, n', seen⟩ ⟨Nat.zero_le _, rfl, hqe1, hGe1, ?_, hq1⟩ ?_ ?_
      · have h1 := qAt_len_le (st.map (·.2)) w
        have h2 := hq1.a
        rw [List.length_append] at h2
        show (qAt (st.map (·.2)) w).length + G.length ≤ 60 - 0
        omega
      · exact Weak.start' rfl rfl tld
      rintro ⟨j, st, g, G, n, seen⟩ ⟨hj, hn', hqe, hGe, hle, hq⟩
      dsimp only at hj hn' hqe hGe hle hq ⊢
      subst hn'
      have hst := hq.w
      have hp := hq.p
      have hsl := hq.o.len
      have hwL : 0 ≤ (w : Int) ∧ (w : Int) < (st.map (·.2)).length := by rw [List.length_map, hst]; omega
      obtain ⟨hlf, hlo⟩ := take_left (st.map (·.2)) G w (by omega)
      (refine goA ?_)
      refine Br.dec (fun h2 => ?_) (fun h2 => ?_)
      · have hG' := take_G (st.map (·.2)) G w
        (refine goA ?_)
        refine Call.mk ((take84 hp (by omega) (w : Int)).behindN (R3 n seen) rfl (poO_lt M st g)) ?_
        have ho := take_c (st.map (·.2)) G w hwL
        obtain ⟨tv, htv⟩ : ∃ x, (takeP (st.map (·.2)) G w).2.2.1 = x := ⟨_, rfl⟩
        obtain ⟨te, hte⟩ : ∃ x, (takeP (st.map (·.2)) G w).2.2.2 = x := ⟨_, rfl⟩
        rw [htv, hte] at ho ⊢
        rintro d os' ⟨d1, os1, ⟨st', g', wo, ⟨rfl, hp', hL', hwo⟩, rfl⟩, rfl, rfl⟩
        rw [← hL'] at ho hlf hlo
        obtain ⟨hp2, hq', hl'⟩ := hq.out hp' ho
        (refine goA ?_)
        refine Call.mk (put_at tv te hsl hq.n _ rfl rfl rfl) ?_
        rintro d os' ⟨rfl, rfl⟩
        rw [hp2]
        (refine goA ?_)
        refine ⟨_, _, _, ?_, ⟨(⟨j + 1, st', g', (takeP (st.map (·.2)) G w).2.1, n, (putS n seen tv te).1⟩ : Os7), ?_, rfl, rfl, rfl⟩, ?_⟩
        · show 61 - (j + 1) < 61 - j; omega
        · exact ⟨by show j + 1 ≤ 61; omega, rfl, fun v hv => by show qAt (st'.map (·.2)) v = []; rw [hlo v (by omega)]; exact hqe v hv, fun h => hG' (hGe h), by show (qAt (st'.map (·.2)) w).length + (takeP (st.map (·.2)) G w).2.1.length ≤ 60 - (j + 1); rw [hlf]; omega, hq'⟩
        · refine Weak.trans (Weak.only [(7, .int .i64 (W : Int)), (8, .ptr 0 0 2 0 0), (9, .ptr 7 0 1 0 0), (10, .ptr 9 0 1 0 0), (11, .fn (.func 86) [] [.ptr 7 0 1 0 0, .ptr 9 0 1 0 0]), (19, .int .i64 (w : Int)), (20, .int .i64 ((j : Int) + 1))] (gapO 7 (R3 n (putS n seen tv te).1) (poU M st' g' wo)) (by kernel_rfl) tld) ?_
          exact Weak.from3 wo hwo rfl
      · have hj61 : j = 61 := by omega
        subst hj61
        have e1 : qAt (st.map (·.2)) w = [] := List.length_eq_zero_iff.1 (by omega)
        have e2 : G = [] := List.length_eq_zero_iff.1 (by omega)
        (refine goA ?_)
        refine ⟨_, _, _, ?_, ⟨(⟨w + 1, st, g, G, n, seen⟩ : Os7), ?_, rfl, rfl, rfl⟩, ?_⟩
        · show W - (w + 1) < W - w; omega
        · refine ⟨hwW, rfl, fun v hv => ?_, fun _ => e2, hq.mono (by show 60 + 61 * w + 61 ≤ 60 + 61 * (w + 1); omega)⟩
          by_cases hvw : v = w
          · subst hvw; exact e1
          · exact hqe v (by have : v < w + 1 := hv; omega)
        · refine Weak.only _ _ ?_ ?_
          · kernel_rfl
          · exact tld
    · have hwW : w = W := by omega
      subst hwW
      have hst := hq1.w
      have hsl := hq1.o.len
      have hp := hq1.p
      have hc : catL (st.map (·.2)) = [] := cat_nil _ (fun v hv => hqe1 v (by rw [List.length_map, hst] at hv; exact hv))
      have hG : G = [] := hGe1 (by omega)
      have hsee : ∀ k : Nat, k < n' → seen.getD k true = true := fun k hk => by
        have := hq1.o.c k
        rw [hc, hG] at this
        cases hb : seen.getD k true with
        | true => rfl
        | false =>
          rw [Int.toNat_natCast, if_pos ⟨⟨by omega, by omega⟩, hb⟩] at this
          simp at this
      (refine goA ?_)
      refine Loop.inv (A := Nat) (List.range 133) (fun k => [(7, .int .i64 (w : Int)), (8, .ptr 0 0 2 0 0), (9, .ptr 7 0 1 0 0), (10, .ptr 9 0 1 0 0), (11, .fn (.func 86) [] [.ptr 7 0 1 0 0, .ptr 9 0 1 0 0]), (24, .int .i64 (k : Int))]) (fun k => poO M st g ++ R3 n' seen) (fun k => k ≤ n') (fun k => n' - k) 0 (Nat.zero_le _) ?_ ?_
      · exact Weak.start' rfl rfl tld
      intro k hk
      (refine goA ?_)
      refine Br.dec (fun h2 => ?_) (fun h2 => ?_)
      · have hkn : k < n' := by omega
        have hki : k < seen.length := by omega
        have hg : (seen.map D.bool)[0 + k]? = some (.bool true) := by
          rw [← hsee k hkn, Nat.zero_add, List.getElem?_map, List.getD_eq_getElem?_getD, List.getElem?_eq_getElem hki]; rfl
        have hsm : (seen.map D.bool).length = 60 := by rw [List.length_map]; exact hsl
        (refine goA ?_)
        refine Opt.of hg ?_
        (refine goA ?_)
        refine ⟨_, _, _, ?_, ⟨k + 1, ?_, rfl, rfl, rfl⟩, ?_⟩
        · show n' - (k + 1) < n' - k; omega
        · exact hkn
        · refine Weak.only _ _ ?_ ?_
          · kernel_rfl
          · exact tld
      · have hlen := (len85 hp (by have := hq1.n; omega)).behind (R3 n' seen) rfl (poO_lt M st g) (by rintro d os' ⟨rfl, rfl⟩; rfl)
        rw [hc, hG] at hlen
        (refine goA ?_)
        refine Call.mk hlen ?_
        rintro d os' ⟨os1, ⟨rfl, rfl⟩, rfl⟩
        (refine goA ?_)
        refine Call.mk ((lives79).only _ rfl (by rintro d rfl; rfl)) ?_; rintro d os' ⟨rfl, rfl⟩
        (refine goA ?_)
        exact Ret.mk [.tmp _] rfl rfl
end Go.Proofs.Ytaplihoeephbeaa.V
end
section
namespace Go.Proofs.Ytaplihoeephbeaa.V
open Go Go.RowKit Go.ChangeShapes Go.WideShapes

/-- Whatever reads as data of type t is told by a D; J: what else is known of it. -/
def Opens {α : Type} (P : Program) (t : TypeId) (enc : α → D) (J : α → Prop) : Prop :=
  ∀ {H : Type} (en : TypeId × Value → H) (w : World) (base : Nat) (sp : Nat → Bool) (held : Bool) (fuel : Nat) (cs : List Value) (x : DataW H × List MemPlace),
    DataW.trod en P w base sp held fuel t cs = some x → (x.1.weights P t).all (· ≤ reachBytes) = true →
    ∃ a v, rep bot (heapIm w) (enc a) v ∧ enc a ≠ .junk ∧ v.cells.toList = cs ∧ (∀ c ∈ cs, c.oneCell' = true) ∧ J a
theorem opens_int {P : Program} {t : TypeId} (ht : P.underlying t = some (.int .i64)) : Opens P t (D.int .i64) (fun n => -9223372036854775808 ≤ n ∧ n ≤ 9223372036854775807) := fun en w base sp held fuel cs x h _ => by
  obtain ⟨n, rfl, rfl, hw⟩ := DataW.trod_int ht h
  refine ⟨n, .int .i64 n, by rw [rep], by simp, rfl, by simp [Value.oneCell'], ?_⟩
  simp [Lit.wf, IntKind.min, IntKind.max, IntKind.signed, IntKind.bits] at hw
  omega
theorem exists_list {α : Type} (n : Nat) (Q : Nat → α → Prop) (h : ∀ i, i < n → ∃ a, Q i a) : ∃ xs : List α, xs.length = n ∧ ∀ i a, xs[i]? = some a → Q i a := by
  induction n with
  | zero => exact ⟨[], rfl, fun i a hi => by simp at hi⟩
  | succ n ih =>
    obtain ⟨xs, hl, hx⟩ := ih (fun i hi => h i (by omega))
    obtain ⟨a, ha⟩ := h n (by omega)
    refine ⟨xs ++ [a], by simp [hl], fun i b hi => ?_⟩
    by_cases hlt : i < n
    · rw [List.getElem?_append_left (by omega)] at hi; exact hx i b hi
    · have hle : i = n := by
        have := (List.getElem?_eq_some_iff.1 hi).1
        simp at this; omega
      subst hle
      rw [List.getElem?_append_right (by omega), hl] at hi
      simp at hi
      exact hi ▸ ha
theorem weights_at {H : Type} {P : Program} {e : TypeId} : ∀ {l : List (DataW H)} {d : DataW H}, d ∈ l → (DataW.weightsAll P e l).all (· ≤ reachBytes) = true → (d.weights P e).all (· ≤ reachBytes) = true
  | y :: r, d, hd, h => by
    rw [DataW.weightsAll, List.all_append, Bool.and_eq_true] at h
    rcases List.mem_cons.1 hd with rfl | hd
    · exact h.1
    · exact weights_at hd h.2
theorem repL_of {ρ : Pl} {I : Im} : ∀ (ds : List D) (vs : List Value), ds.length = vs.length → (∀ (i : Nat) d v, ds[i]? = some d → vs[i]? = some v → rep ρ I d v) → repL ρ I ds vs
  | [], [], _, _ => repL_nil.2 rfl
  | [], _ :: _, h, _ => by simp at h
  | _ :: _, [], h, _ => by simp at h
  | d :: ds, v :: vs, hl, h => repL_cons.2 ⟨v, vs, rfl, h 0 d v rfl rfl, repL_of ds vs (by simpa using hl) (fun i d' v' h1 h2 => h (i + 1) d' v' (by simpa using h1) (by simpa using h2))⟩
/-- The cells of a row of values, each of sz. -/
theorem flat_get {sz : Nat} : ∀ {us : List Value}, (∀ u ∈ us, u.cells.size = sz) → ∀ {j : Nat} {c : Value}, (flat us)[j]? = some c → ∃ u, us[j / sz]? = some u ∧ u.cells.toList[j % sz]? = some c ∧ 0 < sz
  | [], _, j, c, h => by simp [flat] at h
  | u :: us, hu, j, c, h => by
    rw [flat_cons] at h
    have hs : u.cells.toList.length = sz := by simpa using hu u (by simp)
    by_cases hj : j < sz
    · rw [List.getElem?_append_left (by omega)] at h
      exact ⟨u, by rw [Nat.div_eq_of_lt hj]; rfl, by rw [Nat.mod_eq_of_lt hj]; exact h, by omega⟩
    · rw [List.getElem?_append_right (by omega), hs] at h
      obtain ⟨u', h1, h2, h3⟩ := flat_get (fun u hu' => hu u (List.mem_cons_of_mem _ hu')) h
      refine ⟨u', ?_, ?_, h3⟩
      · rw [show j / sz = (j - sz) / sz + 1 by
          rw [show j = (j - sz) + sz by omega, Nat.add_div_right _ h3]; simp]
        simpa using h1
      · rw [← h2]; congr 1
        conv => lhs; rw [show j = (j - sz) + sz by omega]
        simp
theorem prefix_of {cs l : List Value} (h : ∀ (j : Nat) c, cs[j]? = some c → l[j]? = some c) : cs <+: l := by
  have hl : cs.length ≤ l.length := by
    rcases Nat.eq_zero_or_pos cs.length with h0 | h0
    · omega
    · have := h (cs.length - 1) _ (List.getElem?_eq_getElem (by omega))
      have := (List.getElem?_eq_some_iff.1 this).1
      omega
  have : cs = l.take cs.length := by
    apply List.ext_getElem?
    intro j
    by_cases hj : j < cs.length
    · rw [List.getElem?_take, if_pos hj, h j _ (List.getElem?_eq_getElem hj), List.getElem?_eq_getElem hj]
    · rw [List.getElem?_eq_none (by omega), List.getElem?_take, if_neg hj]
  rw [this]; exact List.take_prefix _ _
theorem opens_slice {α : Type} {P : Program} {t e : TypeId} {enc : α → D} {J : α → Prop} {sz : Nat} (ht : P.underlying t = some (.slice e)) (he : Opens P e enc J) (hsz : P.cellsOf e = sz) (h0 : 0 < sz) :
    Opens P t (fun xs : List α => D.lst sz false (xs.map enc)) (fun xs => xs.length ≤ maxLen ∧ xs.length * P.bytesOf e ≤ 140737488351232 ∧ ∀ x ∈ xs, J x) := fun en w base sp held fuel cs x h hwt => by
  rcases DataW.trod_slice ht h with ⟨rfl, rfl⟩ | ⟨a, len, cap, elems, rest, n, rfl, rfl, rfl, hb, hl, hm, hlen, hel, _, _⟩
  · refine ⟨[], .slice none 0 0, ?_, by simp, rfl, by simp [Value.oneCell'], by simp [maxLen], by simp, by simp⟩
    rw [rep]
    exact ⟨none, 0, [], rfl, by simp, by simp [maxLen], by simp, repL_nil.2 rfl, by simp, .inl rfl⟩
  · rw [DataW.weights, ht] at hwt
    simp only [List.all_cons, List.all_append, Bool.and_eq_true, decide_eq_true_eq, List.length_map] at hwt
    obtain ⟨hw0, hw1, _⟩ := hwt
    obtain ⟨xs, hxl, hx⟩ := exists_list len (fun i (p : α × Value) => rep bot (heapIm w) (enc p.1) p.2 ∧ Value.fine p.2 sz ∧ J p.1 ∧ ∀ k c, p.2.cells.toList[k]? = some c → w.cell? (a.add (i * sz + k)) = some c) (fun i hi => by
      have hE := hel i hi
      have hi2 : i < elems.length := by omega
      rw [List.getElem?_eq_getElem hi2, Option.bind_eq_some_iff] at hE
      obtain ⟨c, hc, hy⟩ := hE
      obtain ⟨p, v, h1, h2, h3, h4, h5⟩ := he en w base sp held n c _ hy (weights_at (l := elems.map (·.1)) (List.mem_map.2 ⟨_, List.getElem_mem hi2, rfl⟩) hw1)
      obtain ⟨_, hcl, hcc⟩ := World.cells?_some hc
      rw [hsz] at hcl hcc
      refine ⟨(p, v), h1, ⟨by simpa [← h3] using hcl, fun c hc => h4 c (by rw [← h3]; exact hc)⟩, h5, fun k u hk => ?_⟩
      rw [h3] at hk
      have hkl : k < sz := by have := (List.getElem?_eq_some_iff.1 hk).1; omega
      have := (hcc k hkl).trans hk
      rw [← this]
      congr 1
      unfold Addr.add
      by_cases hm : i * sz = 0 <;> by_cases hn : k = 0 <;> simp [hm, hn, Nat.add_assoc])
    have hfine : ∀ u ∈ xs.map (·.2), Value.fine u sz := by
      intro u hu
      obtain ⟨p, hp, rfl⟩ := List.mem_map.1 hu
      obtain ⟨j, hj⟩ := List.getElem?_of_mem hp
      exact (hx j p hj).2.1
    refine ⟨xs.map (·.1), .slice (some a) len cap, ?_, by simp, rfl, by simp [Value.oneCell'], ?_, ?_, ?_⟩
    · rw [rep]
      refine ⟨some a, cap, xs.map (·.2), by simp [hxl], by simpa [hxl] using hl, hm, by simp, repL_of _ _ (by simp) ?_, hfine, ?_⟩
      · intro i d v h1 h2
        rw [List.map_map, List.getElem?_map, Option.map_eq_some_iff] at h1
        rw [List.getElem?_map, Option.map_eq_some_iff] at h2
        obtain ⟨p, hp, rfl⟩ := h1
        obtain ⟨q, hq, rfl⟩ := h2
        have : p = q := Option.some.inj (hp.symm.trans hq)
        subst this
        exact (hx i p hp).1
      · rcases Nat.eq_zero_or_pos len with hz | hz
        · left; rw [List.eq_nil_of_length_eq_zero (l := xs) (by omega)]; rfl
        · right
          have hcell : ∀ j c, (flat (xs.map (·.2)))[j]? = some c → w.cell? (a.add j) = some c := by
            intro j c hj
            obtain ⟨u, h1, h2, h3⟩ := flat_get (fun u hu => (hfine u hu).1) hj
            rw [List.getElem?_map, Option.map_eq_some_iff] at h1
            obtain ⟨p, hp, rfl⟩ := h1
            have := (hx _ p hp).2.2.2 _ c h2
            rwa [Nat.mul_comm, Nat.div_add_mod] at this
          have hfl : (flat (xs.map (·.2))).length = len * sz := by rw [flat_length (fun u hu => (hfine u hu).1)]; simp [hxl]
          have h00 := hcell 0 _ (List.getElem?_eq_getElem (by rw [hfl]; exact Nat.mul_pos hz h0))
          have ha0 : a.add 0 = a := by simp [Addr.add]
          rw [ha0] at h00
          obtain ⟨b, o, spt⟩ := a
          unfold World.cell? at h00
          split at h00
          case h_2 => simp at h00
          rename_i arr t' fz hblk
          have hsp : spt = none := by cases spt with | none => rfl | some k => simp at h00
          subst hsp
          refine ⟨b, o, arr, t', fz, rfl, hblk, prefix_of fun j c hj => ?_⟩
          have := hcell j c hj
          have ea : Addr.add ⟨b, o, none⟩ j = ⟨b, o + j, none⟩ := by unfold Addr.add; by_cases hj0 : j = 0 <;> simp [hj0]
          rw [ea] at this
          unfold World.cell? at this
          have hblk' : w.heap[b]? = some (.cells arr t' fz) := hblk
          rw [hblk'] at this
          simp at this
          rw [List.getElem?_drop, Array.getElem?_toList]; exact this
    · have hmm : maxLen = 9223372036854775807 := by decide
      simp only [List.length_map, hxl]; omega
    · have hle : (xs.map (·.1)).length ≤ elems.length + rest.length := by simp [hxl]; omega
      refine Nat.le_trans (Nat.mul_le_mul_right _ hle) (Nat.le_trans hw0 ?_)
      decide
    · intro p hp
      obtain ⟨q, hq, rfl⟩ := List.mem_map.1 hp
      obtain ⟨j, hj⟩ := List.getElem?_of_mem hq
      exact (hx j q hj).2.2.1

/-- The fields of a struct, one behind the other. -/
def Fits {H : Type} (en : TypeId × Value → H) (P : Program) (w : World) (base : Nat) (sp : Nat → Bool) (held : Bool) (fuel : Nat) : List TypeId → List Value → List (DataW H × List MemPlace) → Prop
  | [], cs, ys => cs = [] ∧ ys = []
  | t :: ts, cs, ys => ∃ y ys', ys = y :: ys' ∧ P.cellsOf t ≤ cs.length ∧ DataW.trod en P w base sp held fuel t (cs.take (P.cellsOf t)) = some y ∧ Fits en P w base sp held fuel ts (cs.drop (P.cellsOf t)) ys'
def OpensL {α : Type} (P : Program) (ts : List TypeId) (enc : α → List D) (J : α → Prop) : Prop :=
  ∀ {H : Type} (en : TypeId × Value → H) (w : World) (base : Nat) (sp : Nat → Bool) (held : Bool) (fuel : Nat) (cs : List Value) (ys : List (DataW H × List MemPlace)),
    Fits en P w base sp held fuel ts cs ys → (DataW.weightsEach P ts (ys.map (·.1))).all (· ≤ reachBytes) = true → ∃ a, repL bot (heapIm w) (enc a) cs ∧ (∀ c ∈ cs, c.oneCell' = true) ∧ J a
theorem opensL_one {α : Type} {P : Program} {t : TypeId} {enc : α → D} {J : α → Prop} (h : Opens P t enc J) : OpensL P [t] (fun a => (enc a).cells) J := fun en w base sp held fuel cs ys hf hw => by
  obtain ⟨y, ys', rfl, hle, hy, h0, rfl⟩ := hf
  have he : cs.take (P.cellsOf t) = cs := by
    apply List.take_of_length_le
    have := congrArg List.length h0
    simp at this; omega
  rw [he] at hy
  obtain ⟨a, v, h1, h2, h3, h4, h5⟩ := h en w base sp held fuel cs y hy (by simpa [DataW.weightsEach] using hw)
  exact ⟨a, by rw [← h3]; exact rep_cells h2 h1, h4, h5⟩
theorem opensL_cons {α β : Type} {P : Program} {t : TypeId} {ts : List TypeId} {enc : α → D} {enc' : β → List D} {J : α → Prop} {J' : β → Prop} (h : Opens P t enc J) (h' : OpensL P ts enc' J') :
    OpensL P (t :: ts) (fun x : α × β => (enc x.1).cells ++ enc' x.2) (fun x => J x.1 ∧ J' x.2) := fun en w base sp held fuel cs ys hf hw => by
  obtain ⟨y, ys', rfl, hle, hy, hr⟩ := hf
  simp only [List.map_cons, DataW.weightsEach, List.all_append, Bool.and_eq_true] at hw
  obtain ⟨a, v, h1, h2, h3, h4, h5⟩ := h en w base sp held fuel _ _ hy hw.1
  obtain ⟨b, k1, k2, k3⟩ := h' en w base sp held fuel _ _ hr hw.2
  refine ⟨(a, b), ?_, ?_, h5, k3⟩
  · rw [← List.take_append_drop (P.cellsOf t) cs]
    exact repL_append (by rw [← h3]; exact rep_cells h2 h1) k1
  · intro c hc
    rw [← List.take_append_drop (P.cellsOf t) cs] at hc
    exact (List.mem_append.1 hc).elim (h4 c) (k2 c)
/-- The fields lie one behind the other, from o on. -/
def rowed (P : Program) : Nat → List Field → Nat → Bool
  | o, [], n => o == n
  | o, f :: fs, n => f.offset == o && rowed P (o + P.cellsOf f.type) fs n
theorem rowed_le {P : Program} {n : Nat} : ∀ (gs : List Field) (o : Nat), rowed P o gs n = true → o ≤ n
  | [], o, h => by simp only [rowed, beq_iff_eq] at h; omega
  | g :: gs, o, h => by simp only [rowed, Bool.and_eq_true, beq_iff_eq] at h; have := rowed_le gs _ h.2; omega
theorem fits_of {H : Type} {en : TypeId × Value → H} {P : Program} {w : World} {base : Nat} {sp : Nat → Bool} {held : Bool} {fuel : Nat} {n : Nat} : ∀ (fs : List Field) (o : Nat) (cs0 cs : List Value) (ys : List (DataW H × List MemPlace)),
    rowed P o fs n = true → cs0.length = n → cs = cs0.drop o → ys.length = fs.length → (∀ (i : Nat) (f : Field), fs[i]? = some f → DataW.trod en P w base sp held fuel f.type ((cs0.drop f.offset).take (P.cellsOf f.type)) = ys[i]?) → Fits en P w base sp held fuel (fs.map (·.type)) cs ys
  | [], o, cs0, cs, ys, hr, hn, hc, hl, _ => by
    simp only [rowed, beq_iff_eq] at hr
    refine ⟨?_, List.length_eq_zero_iff.1 hl⟩
    rw [hc, hr, ← hn, List.drop_length]
  | f :: fs, o, cs0, cs, ys, hr, hn, hc, hl, h => by
    simp only [rowed, Bool.and_eq_true, beq_iff_eq] at hr
    obtain ⟨ho, hr⟩ := hr
    cases ys with
    | nil => simp at hl
    | cons y ys =>
      have h0 := h 0 f rfl
      simp only [List.getElem?_cons_zero] at h0
      have hle1 := rowed_le fs _ hr
      refine ⟨y, ys, rfl, ?_, ?_, fits_of fs (o + P.cellsOf f.type) cs0 _ ys hr hn ?_ (by simpa using hl) (fun i g hg => by simpa using h (i + 1) g (by simpa using hg))⟩
      · show P.cellsOf f.type ≤ cs.length
        rw [hc, List.length_drop]; omega
      · rw [hc, ← ho]; exact h0
      · rw [hc, List.drop_drop]
theorem opens_struct {α : Type} {P : Program} {t : TypeId} {fs : Array Field} {enc : α → List D} {J : α → Prop} (ht : P.underlying t = some (.struct fs)) (hr : rowed P 0 fs.toList (P.cellsOf t) = true) (h : OpensL P (fs.toList.map (·.type)) enc J) :
    Opens P t (fun a => .agg (enc a)) J := fun en w base sp held fuel cs x hx hw => by
  obtain ⟨xs, n, rfl, rfl, hl, hlen, hf⟩ := DataW.trod_struct ht hx
  obtain ⟨a, h1, h2, h3⟩ := h en w base sp held n cs xs (fits_of fs.toList 0 cs cs xs hr hl (by simp) (by simpa using hlen) (fun i f hi => hf i f (by simpa using hi))) (by rw [DataW.weights, ht] at hw; exact hw)
  exact ⟨a, .agg cs.toArray, by rw [rep]; exact ⟨_, rfl, by simpa using h1⟩, by simp, by simp [Value.cells], h2, h3⟩
theorem opens_iso {α β : Type} {P : Program} {t : TypeId} {enc : α → D} {enc' : β → D} {J : α → Prop} {J' : β → Prop} (h : Opens P t enc J) (g : α → β) (he : ∀ a, enc' (g a) = enc a) (hJ : ∀ a, J a → J' (g a)) : Opens P t enc' J' := fun en w base sp held fuel cs x hx hw => by
  obtain ⟨a, v, h1, h2, h3, h4, h5⟩ := h en w base sp held fuel cs x hx hw
  exact ⟨g a, v, by rw [he]; exact h1, by rw [he]; exact h2, h3, h4, hJ a h5⟩

/-! ### A row of parameters -/
def OpensA {α : Type} (P : Program) (ts : List TypeId) (enc : α → List D) (J : α → Prop) : Prop :=
  ∀ {H : Type} (en : TypeId × Value → H) (w : World) (base : Nat) (sp : Nat → Bool) (held : Bool) (r : Reach) (b0 : Nat) (args : List Value) (ds : List (DataW H)) (ps : List MemPlace),
    DataW.TrodAll en P w base sp held ts args ds ps → (∀ (j : Nat) t v, ts[j]? = some t → args[j]? = some v → Value.okWide P w r b0 t v) → (DataW.weightsEach P ts ds).all (· ≤ reachBytes) = true → ∃ a, repL bot (heapIm w) (enc a) args ∧ J a
theorem opensA_nil {P : Program} : OpensA P [] (fun _ : Unit => []) (fun _ => True) := fun en w base sp held r b0 args ds ps h _ _ => by
  obtain ⟨rfl, _⟩ := trodAll_nil h
  exact ⟨(), repL_nil.2 rfl, trivial⟩
/-- A type whose values are one kind: of one cell, or of cells in a row. -/
def kindly (P : Program) (t : TypeId) : Option Bool :=
  match P.underlying t with
  | some (.struct _) => some true
  | some (.int _) | some .bool | some (.slice _) | some .string => some false
  | _ => none
theorem okWide_kindly {P : Program} {w : World} {r : Reach} {b0 : Nat} {t : TypeId} {b : Bool} (hk : kindly P t = some b) {v u : Value} (h : Value.okWide P w r b0 t v) (hc : v.cells.toList = u.cells.toList) (hu : (∃ cs, u = .agg cs) ↔ b = true) : u = v := by
  have hc' : v.cells = u.cells := Array.ext' hc
  cases b
  · have hv : ¬ ∃ cs, v = .agg cs := by
      unfold kindly at hk
      split at hk <;> simp at hk
      · rename_i ht; obtain ⟨n, rfl⟩ := okWide_int ht h; simp
      · rename_i ht; obtain ⟨n, rfl⟩ := okWide_bool ht h; simp
      · rename_i ht; obtain ⟨a, l, c, rfl⟩ := okWide_slice ht h; simp
      · rename_i ht; obtain ⟨n, rfl⟩ := okWide_string ht h; simp
    have hu' : ¬ ∃ cs, u = .agg cs := fun h => by simpa using hu.1 h
    have e1 : ∀ x : Value, (¬ ∃ cs, x = .agg cs) → x.cells = #[x] := by
      intro x hx
      cases x <;> first | rfl | exact absurd ⟨_, rfl⟩ hx
    rw [e1 v hv, e1 u hu'] at hc'
    have := congrArg Array.toList hc'
    simpa using this.symm
  · obtain ⟨cs, rfl⟩ := hu.2 rfl
    obtain ⟨cs', rfl⟩ : ∃ cs, v = .agg cs := by
      unfold kindly at hk
      split at hk <;> simp at hk
      rename_i ht
      unfold Value.okWide at h
      rw [ht] at h
      obtain ⟨cs, hcs, _⟩ := h
      exact ⟨cs, hcs⟩
    simp only [Value.cells] at hc'
    rw [hc']
def D.isAgg : D → Bool | .agg _ => true | _ => false
theorem rep_agg {ρ : Pl} {I : Im} {d : D} {v : Value} (hj : d ≠ .junk) (h : rep ρ I d v) : (∃ cs, v = .agg cs) ↔ d.isAgg = true := by
  cases d <;> simp only [D.isAgg] <;> rw [rep] at h
  case agg cs => obtain ⟨arr, rfl, h⟩ := h; simp
  case junk => exact absurd rfl hj
  case int => subst h; simp
  case bool => subst h; simp
  case str => subst h; simp
  case nilp => subst h; simp
  case ptr => obtain ⟨p, _, _, rfl⟩ := h; simp
  case pel => obtain ⟨b, o, arr, t, fz, u, rfl, _⟩ := h; simp
  case nils => subst h; simp
  case lst => obtain ⟨A, c, us, rfl, _⟩ := h; simp
  case sl => obtain ⟨p, A, c, _, rfl, _⟩ := h; simp
  case tup => obtain ⟨arr, rfl, h⟩ := h; simp
  case fn => obtain ⟨x, y, rfl, _⟩ := h; simp
  case nilf => subst h; simp
  case mp => obtain ⟨p, _, _, rfl⟩ := h; simp
  case yl => obtain ⟨p, _, _, rfl⟩ := h; simp
theorem opensA_cons {α β : Type} {P : Program} {t : TypeId} {ts : List TypeId} {enc : α → D} {enc' : β → List D} {J : α → Prop} {J' : β → Prop} {b : Bool} (hk : kindly P t = some b) (hb : ∀ a, (enc a).isAgg = b) (h : Opens P t enc J) (h' : OpensA P ts enc' J') :
    OpensA P (t :: ts) (fun x : α × β => enc x.1 :: enc' x.2) (fun x => J x.1 ∧ J' x.2) := fun en w base sp held r b0 args ds ps hA hval hw => by
  obtain ⟨v, vs, d, ds', p, q, rfl, rfl, rfl, ⟨fuel, hf⟩, hr⟩ := trodAll_cons hA
  simp only [DataW.weightsEach, List.all_append, Bool.and_eq_true] at hw
  obtain ⟨a, u, h1, h2, h3, h4, h5⟩ := h en w base sp held fuel _ _ hf hw.1
  obtain ⟨c, k1, k2⟩ := h' en w base sp held r b0 vs ds' q hr (fun j t v ht hv => hval (j + 1) t v (by simpa using ht) (by simpa using hv)) hw.2
  have : u = v := okWide_kindly hk (hval 0 t v rfl rfl) h3.symm (by rw [rep_agg h2 h1, hb])
  subst this
  exact ⟨(a, c), repL_cons.2 ⟨_, _, rfl, h1, k1⟩, h5, k2⟩

/-! ### Behind the call -/
theorem trodAll_below {H : Type} {en : TypeId × Value → H} {P : Program} (hl : laidOutB P = true) {W W' : World} (hb : Below W.heap.size W W') : ∀ {ts : List TypeId} {vs : List Value} {ds : List (DataW H)} {ps : List MemPlace},
    (ts.all fun t => P.readableRec t && decide (t < P.types.size)) = true → DataW.TrodAll en P W 0 (fun _ => true) true ts vs ds ps → DataW.TrodAll en P W' 0 (fun b => decide (b < W.heap.size)) true ts vs ds ps
  | [], [], [], _, _, h => h
  | t :: ts, v :: vs, d :: ds, ps, ht, h => by
    simp only [List.all_cons, Bool.and_eq_true, decide_eq_true_eq] at ht
    obtain ⟨p, q, h1, h2, e⟩ := h
    have lt : ∀ x ∈ p, x.block < W.heap.size := by obtain ⟨m, hm⟩ := h1; exact DataW.trod_lt m _ _ _ hm
    exact ⟨p, q, Below.trod hl ht.1.1 ht.1.2 h1 hb lt, trodAll_below hl hb (by simpa using ht.2) h2, e⟩
  | [], _ :: _, _, _, _, h | [], [], _ :: _, _, _, h | _ :: _, [], _, _, _, h | _ :: _, _ :: _, [], _, _, h => h.elim
end Go.Proofs.Ytaplihoeephbeaa.V
end
section
namespace Go.Proofs.Ytaplihoeephbeaa.V
open Go Go.Proofs Go.RowKit Go.ChangeShapes Go.WideShapes Go.ChangeAt
set_option maxRecDepth 100000
theorem b3 : Try.prog.bytesOf 3 = 8 := by kernel_rfl
theorem opens_i : Opens Try.prog 3 (D.int .i64) I64 := by
  refine opens_iso (opens_int Try.underlying3) (fun x => x) (fun x => rfl) (fun x hx => hx)
end Go.Proofs.Ytaplihoeephbeaa.V
end
section
namespace Go.Proofs.Ytaplihoeephbeaa.V
open Go Go.Proofs Go.RowKit Go.ChangeShapes Go.WideShapes Go.ChangeAt
set_option maxRecDepth 100000
theorem b120 : Try.prog.bytesOf 120 = 24 := by kernel_rfl
theorem opens_dl7 : Opens Try.prog 120 dlT (fun x => I64 x.1 ∧ I64 x.2.1 ∧ I64 x.2.2) := by
  refine opens_iso (opens_struct (P := Try.prog) (t := 120) Try.underlying120 (by kernel_rfl) (opensL_cons opens_i (opensL_cons opens_i (opensL_one opens_i)))) (fun x => (x.1, x.2.1, x.2.2)) (fun x => rfl) (fun x hx => hx)
theorem opens_dls7 : Opens Try.prog 117 dls dlok := by
  refine opens_iso (opens_slice Try.underlying117 opens_dl7 (sz := 3) (by kernel_rfl) (by decide)) (fun x => x) (fun x => rfl) (fun x hx => ?_)
  have h1 := hx.2.1
  rw [b120] at h1
  exact ⟨h1, hx.2.2⟩
end Go.Proofs.Ytaplihoeephbeaa.V
end
