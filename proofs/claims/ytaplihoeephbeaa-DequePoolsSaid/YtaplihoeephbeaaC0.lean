/- C0: a text of a symbolic executor that is proved sound, and contracts that are proved with it. -/
import Derived.Test.YtaplihoeephbeaaVA
import Derived.Test.YtaplihoeephbeaaVB
import Derived.Test.YtaplihoeephbeaaVT
import Derived.Test.YtaplihoeephbeaaVC
set_option linter.unusedVariables false
set_option linter.unusedSimpArgs false
section
namespace Go.Proofs.Ytaplihoeephbeaa.V
open Go Go.Proofs
set_option maxRecDepth 100000
@[reducible] def ints (xs : List Int) : D := .lst 1 false (xs.map (D.int .i64))
def keep (n : Int) : Int := if n < -1073741824 then -1073741824 else if 1073741824 < n then 1073741824 else n
def kept (xs : List Int) : Bool := !(xs.any fun n => decide (n ≠ keep n))
theorem same50 (xs ys : List Int) (hl : xs.length ≤ 9223372036854775806) : Spec Try.prog 50 [ints xs, ints ys] [] (fun d os' => d = .bool (decide (xs = ys)) ∧ os' = []) := by
  refine Spec.by Try.func50 rfl (by decide) (by decide +kernel) rfl ?_
  (refine goA ?_)
  refine Br.cs (fun hb => ?_) (fun hb => ?_)
  · (refine goA ?_)
    refine Ret.mk [.tmp _] rfl ?_; refine And.intro ?_ rfl
    have : ¬ xs = ys := fun e => by subst e; simp at hb
    simp [this]
  · simp only [List.length_map, Bool.not_eq_false', decide_eq_true_eq] at hb
    have hlen : xs.length = ys.length := by omega
    (refine goA ?_)
    refine Loop.inv (A := Nat) [] (fun i => [(5, .int .i64 (i : Int))]) (fun _ => []) (fun i => i ≤ xs.length ∧ xs.take i = ys.take i) (fun i => xs.length - i) 0 ⟨Nat.zero_le _, by simp⟩ (Weak.start tld) ?_
    intro i ⟨hi, hf⟩
    (refine goA ?_)
    refine Br.dec (fun h => ?_) (fun h => ?_)
    · simp only [List.length_map] at h
      (refine goA ?_)
      refine Opt.of (get_map (List.getElem?_eq_getElem (l := xs) (i := i) (by omega))) ?_
      (refine goA ?_)
      refine Opt.of (get_map (List.getElem?_eq_getElem (l := ys) (i := i) (by omega))) ?_
      (refine goA ?_)
      refine Br.cs (fun hb => ?_) (fun hb => ?_)
      · simp at hb
        (refine goA ?_)
        refine Ret.mk [.tmp _] rfl ?_; refine And.intro ?_ rfl
        have : ¬ xs = ys := fun e => by subst e; exact hb rfl
        simp [this]
      · simp at hb
        (refine goA ?_)
        refine Loop.next (i + 1) ?_ ?_ (Weak.back rfl tld rfl rfl)
        · exact ⟨by omega, by rw [List.take_add_one, List.take_add_one, hf, List.getElem?_eq_getElem (by omega), List.getElem?_eq_getElem (by omega), hb]⟩
        · omega
    · simp only [List.length_map] at h
      (refine goA ?_)
      refine Ret.mk [.tmp _] rfl ?_; refine And.intro ?_ rfl
      have : xs = ys := by
        rw [List.take_of_length_le (by omega), List.take_of_length_le (by omega)] at hf
        exact hf
      simp [this]
end Go.Proofs.Ytaplihoeephbeaa.V
end
section
namespace Go.Proofs.Ytaplihoeephbeaa.V
open Go Go.Proofs
set_option maxRecDepth 100000
structure Fm where
  fn : Int
  pc : Int
  ls : List Int
deriving DecidableEq
structure Th where
  st : Int
  on : Int
  fr : List Fm
  sk : List Int
  code : Int
deriving DecidableEq
def Fm.ok (f : Fm) : Prop := f.ls.length ≤ 9223372036854775806
end Go.Proofs.Ytaplihoeephbeaa.V
end
section
namespace Go.Proofs.Ytaplihoeephbeaa.V
open Go Go.Proofs
set_option maxRecDepth 100000
structure Th.ok (t : Th) : Prop where
  fl : t.fr.length ≤ 9223372036854775806
  sl : t.sk.length ≤ 9223372036854775806
  fo : ∀ f ∈ t.fr, f.ok
end Go.Proofs.Ytaplihoeephbeaa.V
end
section
namespace Go.Proofs.Ytaplihoeephbeaa.V
open Go Go.Proofs
set_option maxRecDepth 100000
set_option maxHeartbeats 4000000
@[reducible] def rowI (l : List Int) : Fam := one (.row 3 1 true (l.map (D.int .i64)))
end Go.Proofs.Ytaplihoeephbeaa.V
end
section
namespace Go.Proofs.Ytaplihoeephbeaa.V
open Go Go.Proofs
set_option maxRecDepth 100000
set_option maxHeartbeats 4000000
def I64 (n : Int) : Prop := -9223372036854775808 ≤ n ∧ n ≤ 9223372036854775807
theorem map_snoc (l : List Int) (v : Int) : l.map (D.int .i64) ++ [D.int .i64 v] = (l ++ [v]).map (D.int .i64) := by simp
end Go.Proofs.Ytaplihoeephbeaa.V
end
section
namespace Go.Proofs.Ytaplihoeephbeaa.V
open Go Go.Proofs
set_option maxRecDepth 100000
set_option maxHeartbeats 4000000
/-- Which threads may be. -/
def mayP (st code : Int) (fl sl : Nat) : Prop := 0 ≤ st ∧ st ≤ 9 ∧ 0 ≤ code ∧ code ≤ 6 ∧ (st = 9 ↔ fl = 0) ∧ (st = 9 → sl = 0) ∧ (st ≠ 9 → code = 0) ∧ fl ≤ 8 ∧ sl ≤ 16
instance (st code : Int) (fl sl : Nat) : Decidable (mayP st code fl sl) := by unfold mayP; infer_instance
end Go.Proofs.Ytaplihoeephbeaa.V
end
section
namespace Go.Proofs.Ytaplihoeephbeaa.V
open Go Go.Proofs
set_option maxRecDepth 100000
set_option maxHeartbeats 4000000
/-- Of all slots but these nothing is known any more. -/
theorem Weak.only {n0 : Nat} {m : List (Nat × D)} {os : Objs} (sl : List (Nat × D)) (os' : Objs) (ho : os = os') (h : told m sl) : Weak n0 { m := m, objs := os } { m := sl, objs := os' } := by
  subst ho
  refine Weak.slots rfl (fun i => ?_)
  cases hc : (sl.map (·.1)).contains i with
  | true => exact .inr (told_look h hc)
  | false => exact .inl (look_not_mem hc)
end Go.Proofs.Ytaplihoeephbeaa.V
end
section
namespace Go.Proofs.Ytaplihoeephbeaa.V
open Go Go.Proofs
set_option maxRecDepth 100000
/-- A ring, whose things lie in the family r. -/
@[reducible] def rgC (room at_ n : Int) (m r : Nat) : Fam := one (.row 176 4 false [.agg [.int .i64 room, .int .i64 at_, .sl r 0 1 0 m none, .int .i64 n]])
theorem put_one {os : Objs} {k : Nat} {o0 : O} (h : os[k]? = some (one o0)) (o : O) : os.put k 0 o = os.set k (one o) := by
  unfold Objs.put
  rw [List.getD_eq_getElem?_getD, h]
  rfl
theorem at_one {os : Objs} {k : Nat} {o0 : O} (h : os[k]? = some (one o0)) : os.at k 0 = o0 := by
  unfold Objs.at
  rw [List.getD_eq_getElem?_getD, h]
  rfl
theorem list_set_same {α : Type} {l : List α} {k : Nat} {x : α} (h : l[k]? = some x) : l.set k x = l := by
  apply List.ext_getElem?
  intro i
  by_cases hi : k = i
  · subst hi
    rw [List.getElem?_set_self (List.getElem?_eq_some_iff.1 h).1, h]
  · rw [List.getElem?_set_ne hi]
theorem rg_frame {f : FuncId} {args : List D} {room a n : Int} {L : List Int} {post : D → Objs → Prop} (h : Spec Try.prog f (.ptr 0 0 4 0 0 :: args) [rgC room a n L.length 1, rowI L] post)
    (k r : Nat) (os : Objs) (hk : os[k]? = some (rgC room a n L.length r)) (hr : os[r]? = some (rowI L)) (hkr : k ≠ r) (hargs : D.pureL args = true) :
    Spec Try.prog f (.ptr k 0 4 0 0 :: args) os (fun d os' => ∃ d1 os1, post d1 os1 ∧ d = d1.mapId (lead [(k, 0), (r, 0)] os.length) ∧ os' = merge [(k, 0), (r, 0)] os os1) := by
  have hpl : D.pureL (L.map (D.int .i64)) = true := pureL_map (fun _ => rfl) _
  have := h.frame os [(k, 0), (r, 0)] rfl (by simp [hkr]) (fun i p hp => by
    match i, hp with
    | 0, hp =>
      simp at hp; subst hp
      refine ⟨(List.getElem?_eq_some_iff.1 hk).1, ?_, rfl, fun j hj => one_pos _ hj⟩
      rw [at_one hk]
      rfl
    | 1, hp =>
      simp at hp; subst hp
      refine ⟨(List.getElem?_eq_some_iff.1 hr).1, ?_, ?_, fun j hj => one_pos _ hj⟩
      · rw [at_one hr]
        show _ = O.mapId _ (.row 3 1 true (L.map (D.int .i64)))
        simp only [O.mapId]
      · show O.sgl _ (.row 3 1 true (L.map (D.int .i64))) = true
        simp [O.sgl]
    | i + 2, hp => simp at hp) (by simp [D.sglL, D.sgl, sglL_pure _ _ hargs])
  have e : D.mapIdL (lead [(k, 0), (r, 0)] os.length) (.ptr 0 0 4 0 0 :: args) = .ptr k 0 4 0 0 :: args := by
    simp only [D.mapIdL, D.mapId, lead, mapIdL_pure _ _ hargs]
    rfl
  rw [e] at this
  exact this
/-- A ring is only looked at. -/
theorem Spec.rgR {f : FuncId} {args : List D} {room a n : Int} {L : List Int} {post : D → Prop} (h : Spec Try.prog f (.ptr 0 0 4 0 0 :: args) [rgC room a n L.length 1, rowI L] (fun d os' => post d ∧ os' = [rgC room a n L.length 1, rowI L]))
    (k r : Nat) (os : Objs) (hk : os[k]? = some (rgC room a n L.length r)) (hr : os[r]? = some (rowI L)) (hkr : k ≠ r) (hargs : D.pureL args = true) (hp : ∀ d, post d → d.pure = true) :
    Spec Try.prog f (.ptr k 0 4 0 0 :: args) os (fun d os' => post d ∧ os' = os) := by
  refine (rg_frame h k r os hk hr hkr hargs).mono ?_
  rintro d os' ⟨d1, os1, ⟨hpd, rfl⟩, rfl, rfl⟩
  refine ⟨by rw [mapId_pure _ _ (hp _ hpd)]; exact hpd, ?_⟩
  have e1 : os.put k 0 (.row 176 4 false [.agg [.int .i64 room, .int .i64 a, .sl r 0 1 0 L.length none, .int .i64 n]]) = os := by rw [put_one hk]; exact list_set_same hk
  have e2 : os.put r 0 (.row 3 1 true (L.map (D.int .i64))) = os := by rw [put_one hr]; exact list_set_same hr
  simp only [merge, putAll, List.drop_one, List.length_cons, List.length_nil, List.drop_succ_cons, List.drop_zero, List.map_nil, List.append_nil, List.tail_cons]
  show (os.put k 0 (.row 176 4 false [.agg [.int .i64 room, .int .i64 a, .sl r 0 1 0 L.length none, .int .i64 n]])).put r 0 (.row 3 1 true (L.map (D.int .i64))) = os
  rw [e1, e2]
/-- A ring is changed: its things lie where they lay, or in a row of its own behind all that there is. -/
theorem Spec.rgW {f : FuncId} {args : List D} {room a n : Int} {L : List Int} {post : D → Int → Int → List Int → Prop}
    (h : Spec Try.prog f (.ptr 0 0 4 0 0 :: args) [rgC room a n L.length 1, rowI L] (fun d os' => ∃ a' n' L' g, post d a' n' L' ∧ os' = bif g then [rgC room a' n' L'.length 2, one .gone, rowI L'] else [rgC room a' n' L'.length 1, rowI L']))
    (k r : Nat) (os : Objs) (hk : os[k]? = some (rgC room a n L.length r)) (hr : os[r]? = some (rowI L)) (hkr : k ≠ r) (hargs : D.pureL args = true) (hp : ∀ d a' n' L', post d a' n' L' → d.pure = true) :
    Spec Try.prog f (.ptr k 0 4 0 0 :: args) os (fun d os' => ∃ a' n' L' g, post d a' n' L' ∧ os' = bif g then (os.set k (rgC room a' n' L'.length os.length)).set r (one .gone) ++ [rowI L'] else (os.set k (rgC room a' n' L'.length r)).set r (rowI L')) := by
  refine (rg_frame h k r os hk hr hkr hargs).mono ?_
  rintro d os' ⟨d1, os1, ⟨a', n', L', g, hpd, rfl⟩, rfl, rfl⟩
  refine ⟨a', n', L', g, by rw [mapId_pure _ _ (hp _ _ _ _ hpd)]; exact hpd, ?_⟩
  have hr' : ∀ F, (os.set k F)[r]? = some (rowI L) := fun F => by rw [List.getElem?_set_ne hkr]; exact hr
  cases g with
  | false =>
    simp only [merge, putAll, List.drop_one, List.length_cons, List.length_nil, List.drop_succ_cons, List.drop_zero, List.map_nil, List.append_nil, List.tail_cons, cond_false]
    show (os.put k 0 (.row 176 4 false [.agg [.int .i64 room, .int .i64 a', .sl r 0 1 0 L'.length none, .int .i64 n']])).put r 0 (.row 3 1 true (L'.map (D.int .i64))) = _
    rw [put_one hk, put_one (hr' _)]
  | true =>
    simp only [merge, putAll, List.length_cons, List.length_nil, cond_true]
    show (os.put k 0 (.row 176 4 false [.agg [.int .i64 room, .int .i64 a', .sl (os.length + 0) 0 1 0 L'.length none, .int .i64 n']])).put r 0 .gone ++ [rowI L'] = _
    rw [put_one hk, put_one (hr' _)]
    rfl
/-- A ring is changed where it lies. -/
theorem Spec.rgP {f : FuncId} {args : List D} {room a n : Int} {L : List Int} {post : D → Int → Int → List Int → Prop}
    (h : Spec Try.prog f (.ptr 0 0 4 0 0 :: args) [rgC room a n L.length 1, rowI L] (fun d os' => ∃ a' n' L', post d a' n' L' ∧ os' = [rgC room a' n' L'.length 1, rowI L']))
    (k r : Nat) (os : Objs) (hk : os[k]? = some (rgC room a n L.length r)) (hr : os[r]? = some (rowI L)) (hkr : k ≠ r) (hargs : D.pureL args = true) (hp : ∀ d a' n' L', post d a' n' L' → d.pure = true) :
    Spec Try.prog f (.ptr k 0 4 0 0 :: args) os (fun d os' => ∃ a' n' L', post d a' n' L' ∧ os' = (os.set k (rgC room a' n' L'.length r)).set r (rowI L')) := by
  refine (rg_frame h k r os hk hr hkr hargs).mono ?_
  rintro d os' ⟨d1, os1, ⟨a', n', L', hpd, rfl⟩, rfl, rfl⟩
  refine ⟨a', n', L', by rw [mapId_pure _ _ (hp _ _ _ _ hpd)]; exact hpd, ?_⟩
  have hr' : ∀ F, (os.set k F)[r]? = some (rowI L) := fun F => by rw [List.getElem?_set_ne hkr]; exact hr
  simp only [merge, putAll, List.drop_one, List.length_cons, List.length_nil, List.drop_succ_cons, List.drop_zero, List.map_nil, List.append_nil, List.tail_cons]
  show (os.put k 0 (.row 176 4 false [.agg [.int .i64 room, .int .i64 a', .sl r 0 1 0 L'.length none, .int .i64 n']])).put r 0 (.row 3 1 true (L'.map (D.int .i64))) = _
  rw [put_one hk, put_one (hr' _)]
end Go.Proofs.Ytaplihoeephbeaa.V
end
section
namespace Go.Proofs.Ytaplihoeephbeaa.V
open Go Go.Proofs
set_option maxRecDepth 100000
set_option maxHeartbeats 40000000
theorem room51 (room a n : Int) (hr : 0 ≤ room ∧ room ≤ 1024) (hn : 0 ≤ n ∧ n ≤ 1024) (L : List Int) : Spec Try.prog 51 [.ptr 0 0 4 0 0] [rgC room a n L.length 1, rowI L] (fun d os' => d = .int .i64 (room - n) ∧ os' = [rgC room a n L.length 1, rowI L]) := by
  refine Spec.by Try.func51 rfl (by decide) (by decide +kernel) rfl ?_
  (refine goA ?_)
  refine Ret.mk [.tmp _] rfl ?_; refine And.intro ?_ rfl
  rfl
theorem place124 (room a n i : Int) (L : List Int) (ha : 0 ≤ a ∧ a ≤ 1024) (hi : 0 ≤ i ∧ i ≤ 1024) (hl : 0 < L.length ∧ L.length ≤ 1024) : Spec Try.prog 124 [.ptr 0 0 4 0 0, .int .i64 i] [rgC room a n L.length 1, rowI L] (fun d os' => d = .int .i64 ((a + i) % (L.length : Int)) ∧ os' = [rgC room a n L.length 1, rowI L]) := by
  refine Spec.by Try.func124 rfl (by decide) (by decide +kernel) rfl ?_
  (refine goA ?_)
  refine Ret.mk [.tmp _] rfl ?_; refine And.intro ?_ rfl
  rw [Int.tmod_eq_emod_of_nonneg (by omega)]
/-- A ring that is as one must be: what it holds, in its row. -/
structure Rg (room a n : Int) (L c : List Int) : Prop where
  rm : 0 ≤ room ∧ room ≤ 1024
  nl : n = c.length
  cl : c.length ≤ L.length
  ll : (L.length : Int) ≤ room
  at0 : 0 ≤ a
  atl : L = [] ∧ a = 0 ∨ a < L.length
  el : ∀ i, i < c.length → L[(a.toNat + i) % L.length]? = c[i]?
theorem Rg.mod {room a n : Int} {L c : List Int} (h : Rg room a n L c) (i : Nat) : ((a + i) % (L.length : Int)).toNat = (a.toNat + i) % L.length := by
  have := h.at0
  have e : a + (i : Int) = ((a.toNat + i : Nat) : Int) := by omega
  rw [e, ← Int.natCast_emod, Int.toNat_natCast]
def atV (c : List Int) (i : Int) : Int := if 0 ≤ i then c.getD i.toNat 0 else 0
theorem at146 {room a n : Int} {L c : List Int} (h : Rg room a n L c) (i : Int) : Spec Try.prog 146 [.ptr 0 0 4 0 0, .int .i64 i] [rgC room a n L.length 1, rowI L] (fun d os' => d = .tup [.int .i64 (atV c i), .bool (decide (0 ≤ i ∧ i < (c.length : Int)))] ∧ os' = [rgC room a n L.length 1, rowI L]) := by
  obtain ⟨h1, h2, h3, h4, h5, h6, h7⟩ := id h
  refine Spec.by Try.func146 rfl (by decide) (by decide +kernel) rfl ?_
  (refine goA ?_)
  refine Br.dec (fun h0 => ?_) (fun h0 => ?_)
  · (refine goA ?_)
    refine Ret.mk [.tmp 4, .tmp 5] rfl ?_; (refine goA ?_)
    have e1 : atV c i = 0 := by unfold atV; rw [if_neg (by omega)]
    have e2 : decide (0 ≤ i ∧ i < (c.length : Int)) = false := decide_eq_false (by omega)
    rw [e1, e2]; exact ⟨rfl, rfl⟩
  · (refine goA ?_)
    refine Br.dec (fun h8 => ?_) (fun h8 => ?_)
    · (refine goA ?_)
      refine Ret.mk [.tmp 4, .tmp 5] rfl ?_; (refine goA ?_)
      have e1 : atV c i = 0 := by
        unfold atV
        rw [if_pos (by omega), List.getD_eq_getElem?_getD, List.getElem?_eq_none (by omega)]
        rfl
      have e2 : decide (0 ≤ i ∧ i < (c.length : Int)) = false := decide_eq_false (by omega)
      rw [e1, e2]; exact ⟨rfl, rfl⟩
    · obtain ⟨k, rfl⟩ : ∃ k : Nat, i = k := ⟨i.toNat, by omega⟩
      have hk : k < c.length := by omega
      have hget : L[0 + ((a + (k : Int)) % (L.length : Int)).toNat]? = some c[k] := by rw [Nat.zero_add, h.mod, h7 k hk]; exact List.getElem?_eq_getElem hk
      have e1 : atV c k = c[k] := by
        unfold atV
        rw [if_pos (by omega), List.getD_eq_getElem?_getD, Int.toNat_natCast, List.getElem?_eq_getElem hk]
        rfl
      have e2 : decide (0 ≤ (k : Int) ∧ (k : Int) < (c.length : Int)) = true := decide_eq_true (by omega)
      have hm0 : 0 ≤ (a + (k : Int)) % (L.length : Int) := Int.emod_nonneg _ (by omega)
      have hm1 : (a + (k : Int)) % (L.length : Int) < (L.length : Int) := Int.emod_lt_of_pos _ (by omega)
      rw [e1, e2]
      (refine goA ?_)
      refine Call.mk (place124 room a n k L (by omega) (by omega) (by omega)) ?_
      rintro d os' ⟨rfl, rfl⟩
      (refine goA ?_)
      refine Opt.of (get_map hget) ?_
      (refine goA ?_)
      refine Ret.mk [.tmp 4, .tmp 5] rfl ?_; (conv => whnf); repeat (first | ((with_reducible refine Pt.go ?_); conv => whnf) | ((with_reducible refine dA ?_); conv => whnf) | ((with_reducible refine dL ?_); conv => whnf) | ((with_reducible refine dM ?_); conv => whnf) | (refine Br.t ?_; conv => whnf) | (refine Br.f ?_; conv => whnf) | (refine bT ?_; conv => whnf) | (refine bF ?_; conv => whnf) | (refine Opt.mk ?_; conv => whnf) | ((with_reducible refine aR ?_); conv => whnf) | (refine ⟨fun h => absurd (congrArg List.length h) (Nat.succ_ne_zero _), fun _ => ?_⟩; conv => whnf) | (refine aC ?_; conv => whnf) | (refine apG ?_; conv => whnf) | (refine capF ?_; conv => whnf) | fail)
theorem peek125 {room a n : Int} {L c : List Int} (h : Rg room a n L c) : Spec Try.prog 125 [.ptr 0 0 4 0 0] [rgC room a n L.length 1, rowI L] (fun d os' => d = .tup [.int .i64 (atV c 0), .int .i64 (if c = [] then 7 else 0)] ∧ os' = [rgC room a n L.length 1, rowI L]) := by
  refine Spec.by Try.func125 rfl (by decide) (by decide +kernel) rfl ?_
  (refine goA ?_)
  refine Call.mk (at146 h 0) ?_
  rintro d os' ⟨rfl, rfl⟩
  cases c with
  | nil =>
    (refine goA ?_)
    refine Ret.mk [.tmp 2, .tmp 3] rfl ?_; (conv => whnf); repeat (first | ((with_reducible refine Pt.go ?_); conv => whnf) | ((with_reducible refine dA ?_); conv => whnf) | ((with_reducible refine dL ?_); conv => whnf) | ((with_reducible refine dM ?_); conv => whnf) | (refine Br.t ?_; conv => whnf) | (refine Br.f ?_; conv => whnf) | (refine bT ?_; conv => whnf) | (refine bF ?_; conv => whnf) | (refine Opt.mk ?_; conv => whnf) | ((with_reducible refine aR ?_); conv => whnf) | (refine ⟨fun h => absurd (congrArg List.length h) (Nat.succ_ne_zero _), fun _ => ?_⟩; conv => whnf) | (refine aC ?_; conv => whnf) | (refine apG ?_; conv => whnf) | (refine capF ?_; conv => whnf) | fail)
  | cons v c =>
    have e : decide ((0 : Int) ≤ 0 ∧ (0 : Int) < ((v :: c).length : Int)) = true := decide_eq_true ⟨Int.le_refl _, by rw [List.length_cons]; omega⟩
    rw [e]
    (refine goA ?_)
    refine Ret.mk [.tmp 2, .tmp 3] rfl ?_; (conv => whnf); repeat (first | ((with_reducible refine Pt.go ?_); conv => whnf) | ((with_reducible refine dA ?_); conv => whnf) | ((with_reducible refine dL ?_); conv => whnf) | ((with_reducible refine dM ?_); conv => whnf) | (refine Br.t ?_; conv => whnf) | (refine Br.f ?_; conv => whnf) | (refine bT ?_; conv => whnf) | (refine bF ?_; conv => whnf) | (refine Opt.mk ?_; conv => whnf) | ((with_reducible refine aR ?_); conv => whnf) | (refine ⟨fun h => absurd (congrArg List.length h) (Nat.succ_ne_zero _), fun _ => ?_⟩; conv => whnf) | (refine aC ?_; conv => whnf) | (refine apG ?_; conv => whnf) | (refine capF ?_; conv => whnf) | fail)
theorem Rg.pop {room a n : Int} {L : List Int} {v : Int} {c : List Int} (h : Rg room a n L (v :: c)) : Rg room ((a + 1) % (L.length : Int)) (n - 1) (L.set a.toNat 0) c := by
  obtain ⟨h1, h2, h3, h4, h5, h6, h7⟩ := id h
  simp only [List.length_cons] at h2 h3 h7
  have hal : a < L.length := by
    rcases h6 with ⟨rfl, _⟩ | h6
    · simp at h3
    · exact h6
  have hm0 : 0 ≤ (a + 1) % (L.length : Int) := Int.emod_nonneg _ (by omega)
  have hm1 : (a + 1) % (L.length : Int) < (L.length : Int) := Int.emod_lt_of_pos _ (by omega)
  refine ⟨h1, by omega, by rw [List.length_set]; omega, by rw [List.length_set]; omega, hm0, .inr (by rw [List.length_set]; exact hm1), fun i hi => ?_⟩
  have em : ((a + 1) % (L.length : Int)).toNat = (a.toNat + 1) % L.length := h.mod 1
  rw [List.length_set, em, Nat.mod_add_mod]
  have hne : ¬ a.toNat = (a.toNat + 1 + i) % L.length := by
    intro hc
    rcases Nat.lt_or_ge (a.toNat + 1 + i) L.length with hlt | hge
    · rw [Nat.mod_eq_of_lt hlt] at hc; omega
    · rw [Nat.mod_eq_sub_mod hge, Nat.mod_eq_of_lt (by omega)] at hc; omega
  rw [List.getElem?_set_ne hne, show a.toNat + 1 + i = a.toNat + (i + 1) by omega, h7 (i + 1) (by omega)]
  rfl
theorem pop48 {room a n : Int} {L : List Int} {v : Int} {c : List Int} (h : Rg room a n L (v :: c)) : Spec Try.prog 48 [.ptr 0 0 4 0 0] [rgC room a n L.length 1, rowI L] (fun d os' => d = .tup [.int .i64 v, .int .i64 0] ∧ os' = [rgC room ((a + 1) % (L.length : Int)) (n - 1) L.length 1, rowI (L.set a.toNat 0)]) := by
  obtain ⟨h1, h2, h3, h4, h5, h6, h7⟩ := id h
  simp only [List.length_cons] at h2 h3 h7
  have hal : a < L.length := by
    rcases h6 with ⟨rfl, _⟩ | h6
    · simp at h3
    · exact h6
  have hlm : (L.map (D.int .i64)).length = L.length := List.length_map ..
  refine Spec.by Try.func48 rfl (by decide) (by decide +kernel) rfl ?_
  (refine goA ?_)
  refine Call.mk (peek125 h) ?_
  rintro d os' ⟨rfl, rfl⟩
  have e : (if v :: c = [] then (7 : Int) else 0) = 0 := rfl
  rw [e]
  have hget : L[0 + a.toNat]? = some L[a.toNat] := by rw [Nat.zero_add]; exact List.getElem?_eq_getElem (by omega)
  (refine goA ?_)
  refine Opt.of (get_map hget) ?_
  (refine goR ?_)
  refine Pt.weak (Weak.objs (os' := [rgC room a n (L.set a.toNat 0).length 1, rowI (L.set a.toNat 0)]) ?_) ?_
  · rw [List.length_set]
    exact congrArg (fun r => ([rgC room a n L.length 1, one (.row 3 1 true r)] : Objs)) (by rw [Nat.zero_add, List.map_set])
  (refine goA ?_)
  refine Call.mk (place124 room a n 1 (L.set a.toNat 0) (by omega) (by omega) (by rw [List.length_set]; omega)) ?_
  rintro d os' ⟨rfl, rfl⟩
  (refine goA ?_)
  refine Ret.mk [.tmp 2, .tmp 3] rfl ?_; (refine goA ?_)
  rw [List.length_set]
  exact rfl
theorem popE48 {room a n : Int} {L : List Int} (h : Rg room a n L []) : Spec Try.prog 48 [.ptr 0 0 4 0 0] [rgC room a n L.length 1, rowI L] (fun d os' => d = .tup [.int .i64 0, .int .i64 7] ∧ os' = [rgC room a n L.length 1, rowI L]) := by
  refine Spec.by Try.func48 rfl (by decide) (by decide +kernel) rfl ?_
  (refine goA ?_)
  refine Call.mk (peek125 h) ?_
  rintro d os' ⟨rfl, rfl⟩
  (refine goA ?_)
  refine Ret.mk [.tmp 2, .tmp 3] rfl ?_; (conv => whnf); repeat (first | ((with_reducible refine Pt.go ?_); conv => whnf) | ((with_reducible refine dA ?_); conv => whnf) | ((with_reducible refine dL ?_); conv => whnf) | ((with_reducible refine dM ?_); conv => whnf) | (refine Br.t ?_; conv => whnf) | (refine Br.f ?_; conv => whnf) | (refine bT ?_; conv => whnf) | (refine bF ?_; conv => whnf) | (refine Opt.mk ?_; conv => whnf) | ((with_reducible refine aR ?_); conv => whnf) | (refine ⟨fun h => absurd (congrArg List.length h) (Nat.succ_ne_zero _), fun _ => ?_⟩; conv => whnf) | (refine aC ?_; conv => whnf) | (refine apG ?_; conv => whnf) | (refine capF ?_; conv => whnf) | fail)
theorem all126 (i : Nat) (os : Objs) : Spec Try.prog 126 [.ptr i 0 4 0 0] os (fun d os' => d = .fn (.func 189) [] [.ptr os.length 0 1 0 0] ∧ os' = os ++ [one (.row 56 1 false [.ptr i 0 4 0 0])]) := by
  refine Spec.by Try.func126 rfl (by decide) (by decide +kernel) rfl ?_
  (refine goA ?_)
  refine Ret.mk [.tmp _] rfl ?_; refine And.intro ?_ rfl
  rfl
theorem list123 {room a n : Int} {L c : List Int} (h : Rg room a n L c) : Spec Try.prog 123 [.ptr 0 0 4 0 0] [rgC room a n L.length 1, rowI L] (fun d os' => d = .sl 4 0 1 0 c.length none ∧ os' = [rgC room a n L.length 1, rowI L, one (.row 23 1 false [.sl 4 0 1 0 c.length none]), one (.row 56 1 false [.ptr 0 0 4 0 0]), rowI c, one .gone]) := by
  refine Spec.by Try.func123 rfl (by decide) (by decide +kernel) rfl ?_
  (refine goA ?_)
  refine Call.mk (all126 0 _) ?_
  rintro d os' ⟨rfl, rfl⟩
  (refine goA ?_)
  refine Rng.mk (f := 189) (fn := Try.f189) [(2, .nils), (3, .ptr 2 0 1 0 0), (7, .fn (.func 189) [] [.ptr 3 0 1 0 0])] [rgC room a n L.length 1, rowI L, one (.row 23 1 false [.sl 4 0 1 0 0 none]), one (.row 56 1 false [.ptr 0 0 4 0 0]), rowI []] ?_ tld rfl Try.func189 rfl rfl (by decide +kernel) rfl rfl (by decide) ?_
  · refine Weak.trans (Weak.only [(2, .nils), (3, .ptr 2 0 1 0 0), (7, .fn (.func 189) [] [.ptr 3 0 1 0 0])] [rgC room a n L.length 1, rowI L, one (.row 23 1 false [.nils]), one (.row 56 1 false [.ptr 0 0 4 0 0])] (by kernel_rfl) tld) ?_
    exact Weak.nilO 2 4 rfl (es := [.nils]) rfl [.sl 4 0 1 0 0 none] rfl (.cons (.nils _ _) (.same _ _)) 3 1 true
  intro gf tm df
  generalize hr : (⟨.ready, none, gf, tm, #[8, 9], _, _, df⟩ : Go.Loop) = r
  (refine goA ?_)
  refine Loop.inv (A := Nat) (List.range 25) (fun i => [(0, .yl 5 0), (1, .ptr 3 0 1 0 0), (9, .int .i64 n), (10, .int .i64 (i : Int))]) (fun i => [rgC room a n L.length 1, rowI L, one (.row 23 1 false [.sl 4 0 1 0 i none]), one (.row 56 1 false [.ptr 0 0 4 0 0]), rowI (c.take i), one (.loop r .ready none [(2, .nils), (3, .ptr 2 0 1 0 0), (7, .fn (.func 189) [] [.ptr 3 0 1 0 0])])]) (fun i => i ≤ c.length) (fun i => c.length - i) 0 (Nat.zero_le _) ?_ ?_
  · exact Weak.start' rfl rfl tld
  rintro i hi
  (refine goA ?_)
  refine Br.dec (fun h0 => ?_) (fun h0 => ?_)
  · have hil : i < c.length := by have := h.nl; omega
    have e1 : atV c i = c[i] := by
      unfold atV
      rw [if_pos (by omega), List.getD_eq_getElem?_getD, Int.toNat_natCast, List.getElem?_eq_getElem hil]
      rfl
    have e2 : decide (0 ≤ (i : Int) ∧ (i : Int) < (c.length : Int)) = true := decide_eq_true (by omega)
    (refine goA ?_)
    refine Call.mk (Spec.rgR (at146 h i) 0 1 _ rfl rfl (by decide) rfl (by rintro d rfl; rfl)) ?_
    rintro d os' ⟨rfl, rfl⟩
    rw [e1, e2]
    (refine goA ?_)
    subst hr
    refine Yld.mk [(2, .nils), (3, .ptr 2 0 1 0 0), (7, .fn (.func 189) [] [.ptr 3 0 1 0 0])] rfl rfl ?_
    have hlt : ((c.take i).map (D.int .i64)).length = i := by rw [List.length_map, List.length_take]; omega
    have hcl : c.length ≤ 1024 := by have := h.cl; have := h.ll; have := h.rm; omega
    (refine goA ?_)
    refine ⟨_, rfl, ?_⟩
    (refine goA ?_)
    refine App.only false rfl rfl ?_
    (refine goA ?_)
    refine ⟨_, rfl, ?_⟩
    (refine goA ?_)
    refine ⟨_, _, _, ?_, ⟨i + 1, ?_, rfl, rfl, rfl⟩, ?_⟩
    · show c.length - (i + 1) < c.length - i; omega
    · exact hil
    · refine Weak.trans (Weak.shift 6 4 (by decide) (by simp) (Nat.le_of_ble_eq_true rfl) (Nat.le_of_ble_eq_true rfl) (fun j => by cases j <;> rfl) rfl) ?_
      refine Weak.backT 6 (by simp) ?_ (by kernel_rfl) (Nat.le_of_ble_eq_true rfl) tld (by kernel_rfl) (by kernel_rfl)
      exact congrArg (fun r => ([rgC room a n L.length 1, rowI L, one (.row 23 1 false [.sl 4 0 1 0 (i + 1) none]), one (.row 56 1 false [.ptr 0 0 4 0 0]), one (.row 3 1 true r), _] : Objs)) (by rw [List.take_add_one, List.getElem?_eq_getElem hil]; exact map_snoc _ _)
  · have hil : i = c.length := by have := h.nl; omega
    subst hil
    (refine goA ?_)
    refine After.mk 5 .ready none _ rfl (by decide) ?_
    (refine goA ?_)
    refine Ret.mk [.tmp 2] rfl ⟨rfl, ?_⟩
    rw [List.take_length]
    rfl
def pushC (room : Int) (c : List Int) (v : Int) : Int × List Int := if (c.length : Int) = room then (6, c) else (0, c ++ [v])
theorem Rg.grow {room a n : Int} {L c : List Int} (h : Rg room a n L c) (hn : (c.length : Int) < room) (v : Int) : Rg room 0 (n + 1) (c ++ [v]) (c ++ [v]) := by
  have h1 := h.nl
  refine ⟨h.rm, by simp; omega, Nat.le_refl _, by simp; omega, Int.le_refl _, .inr (by simp), fun i hi => ?_⟩
  rw [show (0 : Int).toNat = 0 from rfl, Nat.zero_add, Nat.mod_eq_of_lt hi]
theorem Rg.put {room a n : Int} {L c : List Int} (h : Rg room a n L c) (hn : c.length < L.length) (v : Int) : Rg room a (n + 1) (L.set ((a.toNat + c.length) % L.length) v) (c ++ [v]) := by
  obtain ⟨h1, h2, h3, h4, h5, h6, h7⟩ := id h
  have hal : a < L.length := by
    rcases h6 with ⟨rfl, _⟩ | h6
    · simp at hn
    · exact h6
  refine ⟨h1, by simp; omega, by simp; omega, by simp; omega, h5, .inr (by simp; omega), fun i hi => ?_⟩
  rw [List.length_set]
  have hmod : ∀ x, x < L.length → (a.toNat + x) % L.length = if a.toNat + x < L.length then a.toNat + x else a.toNat + x - L.length := fun x hx => by
    split
    · rename_i hh; exact Nat.mod_eq_of_lt hh
    · rename_i hh; rw [Nat.mod_eq_sub_mod (by omega), Nat.mod_eq_of_lt (by omega)]
  rw [List.length_append, List.length_singleton] at hi
  by_cases hic : i = c.length
  · subst hic
    rw [List.getElem?_set_self (Nat.mod_lt _ (by omega))]
    simp
  · have hne : ¬ (a.toNat + c.length) % L.length = (a.toNat + i) % L.length := by
      rw [hmod c.length hn, hmod i (by omega)]
      split <;> split <;> omega
    rw [List.getElem?_set_ne hne, h7 i (by omega), List.getElem?_append_left (by omega)]
theorem push47 {room a n : Int} {L c : List Int} (h : Rg room a n L c) (v : Int) : Spec Try.prog 47 [.ptr 0 0 4 0 0, .int .i64 v] [rgC room a n L.length 1, rowI L] (fun d os' => ∃ a' n' L' g, (d = .int .i64 (pushC room c v).1 ∧ Rg room a' n' L' (pushC room c v).2) ∧ os' = bif g then [rgC room a' n' L'.length 2, one .gone, rowI L'] else [rgC room a' n' L'.length 1, rowI L']) := by
  obtain ⟨h1, h2, h3, h4, h5, h6, h7⟩ := id h
  have hlm : (c.map (D.int .i64)).length = c.length := List.length_map ..
  have hlL : (L.map (D.int .i64)).length = L.length := List.length_map ..
  refine Spec.by Try.func47 rfl (by decide) (by decide +kernel) rfl ?_
  (refine goA ?_)
  refine Call.mk (room51 room a n h1 (by omega) L) ?_
  rintro d os' ⟨rfl, rfl⟩
  (refine goA ?_)
  refine Br.dec (fun h0 => ?_) (fun h0 => ?_)
  · have e : pushC room c v = (6, c) := by unfold pushC; rw [if_pos (by omega)]
    rw [e]
    (refine goA ?_)
    refine Ret.mk [.tmp 4] rfl ⟨_, _, _, false, ⟨rfl, h⟩, rfl⟩
  · have e : pushC room c v = (0, c ++ [v]) := by unfold pushC; rw [if_neg (by omega)]
    rw [e]
    (refine goA ?_)
    refine Br.dec (fun h8 => ?_) (fun h8 => ?_)
    · (refine goA ?_)
      refine Call.mk (list123 h) ?_
      rintro d os' ⟨rfl, rfl⟩
      (refine goA ?_)
      refine App.only false rfl rfl ?_
      (refine goR ?_)
      refine Pt.weak (Weak.only [(0, .ptr 0 0 4 0 0), (4, .int .i64 0)] [one (.row 176 4 false [.agg [.int .i64 room, .int .i64 a, .sl 6 0 1 0 (c.length + 1) none, .int .i64 n]]), rowI L, one (.row 23 1 false [.sl 4 0 1 0 c.length none]), one (.row 56 1 false [.ptr 0 0 4 0 0]), one .gone, one .gone, one (.row 3 1 true (c.map (D.int .i64) ++ [D.int .i64 v]))] (by kernel_rfl) tld) ?_
      rw [map_snoc c v]
      refine Pt.frz (fun k => Nat.beq k 1 || (Nat.beq k 2 || Nat.beq k 3)) [] trivial ?_
      refine Pt.weak (Weak.shift 6 2 (by decide) (by simp) (Nat.le_of_ble_eq_true rfl) (Nat.le_of_ble_eq_true rfl) (fun j => by cases j <;> rfl) rfl) ?_
      refine Pt.weak (Weak.trim 3 (by show 2 ≤ 3; decide) rfl (Nat.le_of_ble_eq_true rfl)) ?_
      (refine goA ?_)
      refine Ret.mk [.tmp 4] rfl ⟨_, _, _, true, ⟨rfl, h.grow (by omega) v⟩, ?_⟩
      rw [List.length_append]
      rfl
    · have hcl : c.length < L.length := by omega
      have hcl' : (0 : Int) < L.length := by omega
      have hm0 : 0 ≤ (a + n) % (L.length : Int) := Int.emod_nonneg _ (by omega)
      have hm1 : (a + n) % (L.length : Int) < (L.length : Int) := Int.emod_lt_of_pos _ (by omega)
      have hget : L[0 + ((a + n) % (L.length : Int)).toNat]? = some L[((a + n) % (L.length : Int)).toNat] := by rw [Nat.zero_add]; exact List.getElem?_eq_getElem (by omega)
      (refine goA ?_)
      refine Call.mk (place124 room a n n L (by omega) (by omega) (by omega)) ?_
      rintro d os' ⟨rfl, rfl⟩
      (refine goA ?_)
      refine Opt.of (get_map hget) ?_
      (refine goA ?_)
      have hmm := h.mod c.length
      rw [← h2] at hmm
      refine Ret.mk [.tmp 4] rfl ⟨_, _, _, false, ⟨rfl, h.put hcl v⟩, ?_⟩
      rw [← hmm, List.length_set]
      exact congrArg (fun r => ([rgC room a (n + 1) L.length 1, one (.row 3 1 true r)] : Objs)) (by rw [Nat.zero_add, List.map_set])
end Go.Proofs.Ytaplihoeephbeaa.V
end
section
namespace Go.Proofs.Ytaplihoeephbeaa.V
open Go Go.Proofs
set_option maxRecDepth 100000
set_option maxHeartbeats 40000000
def newL (room : Int) (c : List Int) : List Int → List Int
  | [] => c
  | v :: l => newL room (pushC room c v).2 l
theorem newL_snoc (room : Int) : ∀ (l : List Int) (c : List Int) (v : Int), newL room c (l ++ [v]) = (pushC room (newL room c l) v).2
  | [], c, v => rfl
  | w :: l, c, v => by simp only [List.cons_append, newL]; exact newL_snoc room l _ v
def roomI (n : Int) : Int := if 1024 < if n < 0 then 0 else n then 1024 else if n < 0 then 0 else n
theorem roomI_r (n : Int) : 0 ≤ roomI n ∧ roomI n ≤ 1024 := by
  unfold roomI
  split <;> split <;> omega
theorem new46 (room : Int) (l : List Int) (hl : l.length ≤ 1000000) : Spec Try.prog 46 [.int .i64 room, ints l] [] (fun d os' => ∃ a n L, (Rg (roomI room) a n L (newL (roomI room) [] l) ∧ d = .ptr 0 0 4 0 0) ∧ os' = [rgC (roomI room) a n L.length 1, rowI L]) := by
  have hlm : (l.map (D.int .i64)).length = l.length := List.length_map ..
  have hR := roomI_r room
  refine Spec.by Try.func46 rfl (by decide) (by decide +kernel) rfl ?_
  (refine goR ?_)
  ((with_reducible refine Pt.go ?_); conv => whnf)
  (refine goR ?_)
  ((with_reducible refine Pt.go ?_); conv => whnf)
  (refine goR ?_)
  refine Pt.weak (Weak.trans (Weak.only [(1, ints l), (4, .nilp), (5, .ptr 0 0 4 0 0)] [one (.row 176 4 false [.agg [.int .i64 (roomI room), .int .i64 0, .nils, .int .i64 0]])] (by kernel_rfl) tld) (Weak.nilO 0 1 rfl (es := [.agg [.int .i64 (roomI room), .int .i64 0, .nils, .int .i64 0]]) rfl [.agg [.int .i64 (roomI room), .int .i64 0, .sl 1 0 1 0 0 none, .int .i64 0]] rfl (.cons (.agg (.cons (.same _ _) (.cons (.same _ _) (.cons (.nils _ _) (.same _ _))))) (.same _ _)) 3 1 true)) ?_
  (refine goA ?_)
  refine Loop.inv (A := Nat × Int × Int × List Int) (List.range 24) (fun x => [(4, .nilp), (5, .ptr 0 0 4 0 0), (13, ints l), (14, .int .i64 ((l.map (D.int .i64)).length : Int)), (15, .int .i64 (x.1 : Int))]) (fun x => [rgC (roomI room) x.2.1 x.2.2.1 x.2.2.2.length 1, rowI x.2.2.2]) (fun x => x.1 ≤ l.length ∧ Rg (roomI room) x.2.1 x.2.2.1 x.2.2.2 (newL (roomI room) [] (l.take x.1))) (fun x => l.length - x.1) (0, 0, 0, []) ⟨Nat.zero_le _, ⟨hR, rfl, Nat.le_refl _, hR.1, Int.le_refl _, .inl ⟨rfl, rfl⟩, fun i hi => by cases hi⟩⟩ ?_ ?_
  · exact Weak.start' rfl rfl tld
  rintro ⟨i, a, n, L⟩ ⟨hi, hg⟩
  dsimp only at hi hg ⊢
  (refine goA ?_)
  refine Br.dec (fun h0 => ?_) (fun h0 => ?_)
  · have hil : i < l.length := by omega
    have hget : l[i]? = some l[i] := List.getElem?_eq_getElem hil
    (refine goA ?_)
    refine Opt.of (get_map hget) ?_
    (refine goA ?_)
    refine Call.mk (push47 hg l[i]) ?_
    rintro d os' ⟨a', n', L', g, ⟨rfl, hg'⟩, rfl⟩
    have hs := newL_snoc (roomI room) (l.take i) [] l[i]
    rw [show l.take i ++ [l[i]] = l.take (i + 1) by rw [List.take_add_one, hget]; rfl] at hs
    rw [← hs] at hg'
    cases g with
    | true =>
      (refine goA ?_)
      refine ⟨_, _, _, ?_, ⟨(i + 1, a', n', L'), ?_, rfl, rfl, rfl⟩, ?_⟩
      · show l.length - (i + 1) < l.length - i; omega
      · exact ⟨hil, hg'⟩
      · refine Weak.trans (Weak.shift 2 1 (by decide) (by simp) (Nat.le_of_ble_eq_true rfl) (Nat.le_of_ble_eq_true rfl) (fun j => by cases j <;> rfl) rfl) ?_
        refine Weak.backT 2 (by simp) (by first | rfl | kernel_rfl) (by kernel_rfl) (Nat.le_of_ble_eq_true rfl) tld (by kernel_rfl) (by kernel_rfl)
    | false =>
      (refine goA ?_)
      refine ⟨_, _, _, ?_, ⟨(i + 1, a', n', L'), ?_, rfl, rfl, rfl⟩, ?_⟩
      · show l.length - (i + 1) < l.length - i; omega
      · exact ⟨hil, hg'⟩
      · refine Weak.backT 2 (by simp) (by first | rfl | kernel_rfl) (by kernel_rfl) (Nat.le_of_ble_eq_true rfl) tld (by kernel_rfl) (by kernel_rfl)
  · have hil : i = l.length := by omega
    subst hil
    rw [List.take_length] at hg
    (refine goA ?_)
    exact Ret.mk [.tmp 4] rfl ⟨_, _, _, ⟨hg, rfl⟩, rfl⟩
end Go.Proofs.Ytaplihoeephbeaa.V
end
section
namespace Go.Proofs.Ytaplihoeephbeaa.V
open Go Go.Proofs
set_option maxRecDepth 100000
set_option maxHeartbeats 40000000
/-- A deque: its things lie in a row of its own (family r), or are only read. -/
@[reducible] def dqA (room : Int) (n r : Nat) : Fam := one (.row 201 2 false [.agg [.int .i64 room, .sl r 0 1 0 n none]])
@[reducible] def dqB (room : Int) (l : List Int) : Fam := one (.row 201 2 false [.agg [.int .i64 room, .lst 1 true (l.map (D.int .i64))]])
@[reducible] def dqO (own : Bool) (room : Int) (l : List Int) (r : Nat) : Objs := bif own then [dqA room l.length r, rowI l] else [dqB room l, one .gone]
theorem room78 (own : Bool) (room : Int) (l : List Int) (hr : 0 ≤ room ∧ room ≤ 8) (hl : l.length ≤ 8) : Spec Try.prog 78 [.ptr 0 0 2 0 0] (dqO own room l 1) (fun d os' => d = .int .i64 (room - l.length) ∧ os' = dqO own room l 1) := by
  have hlm : (l.map (D.int .i64)).length = l.length := List.length_map ..
  cases own with
  | true =>
    refine Spec.by Try.func78 rfl (by decide) (by decide +kernel) rfl ?_
    (refine goA ?_)
    exact Ret.mk [.tmp 2] rfl ⟨rfl, rfl⟩
  | false =>
    refine Spec.by Try.func78 rfl (by decide) (by decide +kernel) rfl ?_
    (refine goA ?_)
    refine Ret.mk [.tmp 2] rfl ⟨?_, rfl⟩
    show D.int .i64 (room - ((l.map (D.int .i64)).length : Int)) = _
    rw [hlm]
theorem push74 (own : Bool) (room : Int) (l : List Int) (v : Int) (hr : 0 ≤ room ∧ room ≤ 8) (hl : (l.length : Int) ≤ room) : Spec Try.prog 74 [.ptr 0 0 2 0 0, .int .i64 v] (dqO own room l 1)
    (fun d os' => d = .int .i64 (pushC room l v).1 ∧ os' = if (l.length : Int) = room then dqO own room l 1 else [dqA room (l.length + 1) 2, one .gone, rowI (l ++ [v])]) := by
  have hlm : (l.map (D.int .i64)).length = l.length := List.length_map ..
  cases own with
  | true =>
    refine Spec.by Try.func74 rfl (by decide) (by decide +kernel) rfl ?_
    (refine goA ?_)
    refine Call.mk (room78 true room l hr (by omega)) ?_
    rintro d os' ⟨rfl, rfl⟩
    (refine goA ?_)
    refine Br.dec (fun h => ?_) (fun h => ?_)
    · rw [if_pos (by omega)]
      have e : pushC room l v = (6, l) := by unfold pushC; rw [if_pos (by omega)]
      rw [e]
      (refine goA ?_)
      exact Ret.mk [.tmp 4] rfl ⟨rfl, rfl⟩
    · rw [if_neg (by omega)]
      have e : pushC room l v = (0, l ++ [v]) := by unfold pushC; rw [if_neg (by omega)]
      rw [e]
      (refine goA ?_)
      refine App.only false rfl rfl ?_
      (refine goA ?_)
      refine Ret.mk [.tmp 4] rfl ⟨rfl, ?_⟩
      exact congrArg (fun r => ([dqA room (l.length + 1) 2, one .gone, one (.row 3 1 true r)] : Objs)) (map_snoc _ _)
  | false =>
    refine Spec.by Try.func74 rfl (by decide) (by decide +kernel) rfl ?_
    (refine goA ?_)
    refine Call.mk (room78 false room l hr (by omega)) ?_
    rintro d os' ⟨rfl, rfl⟩
    (refine goA ?_)
    refine Br.dec (fun h => ?_) (fun h => ?_)
    · rw [if_pos (by omega)]
      have e : pushC room l v = (6, l) := by unfold pushC; rw [if_pos (by omega)]
      rw [e]
      (refine goA ?_)
      exact Ret.mk [.tmp 4] rfl ⟨rfl, rfl⟩
    · rw [if_neg (by omega)]
      have e : pushC room l v = (0, l ++ [v]) := by unfold pushC; rw [if_neg (by omega)]
      rw [e]
      (refine goA ?_)
      refine App.only false rfl rfl ?_
      (refine goA ?_)
      refine App.own ?_
      (refine goA ?_)
      refine Ret.mk [.tmp 4] rfl ⟨rfl, ?_⟩
      rw [show l.length + 1 = (l.map (D.int .i64)).length + 1 by rw [hlm]]
      exact congrArg (fun r => ([dqA room ((l.map (D.int .i64)).length + 1) 2, one .gone, one (.row 3 1 true r)] : Objs)) (map_snoc _ _)
/-- The bottom one. -/
theorem pop76 (own : Bool) (room : Int) (l : List Int) (hl : l.length ≤ 8) : Spec Try.prog 76 [.ptr 0 0 2 0 0] (dqO own room l 1)
    (fun d os' => (l = [] ∧ d = .tup [.int .i64 0, .int .i64 7] ∧ os' = dqO own room l 1) ∨ (∃ v, l.getLast? = some v ∧ d = .tup [.int .i64 v, .int .i64 0] ∧ os' = [dqB room l.dropLast, one .gone])) := by
  have hlm : (l.map (D.int .i64)).length = l.length := List.length_map ..
  by_cases hn : l = []
  · subst hn
    cases own with
    | true =>
      refine Spec.by Try.func76 rfl (by decide) (by decide +kernel) rfl ?_
      (refine goA ?_)
      exact Ret.mk [.tmp 2, .tmp 3] rfl (.inl ⟨rfl, rfl, rfl⟩)
    | false =>
      refine Spec.by Try.func76 rfl (by decide) (by decide +kernel) rfl ?_
      (refine goA ?_)
      exact Ret.mk [.tmp 2, .tmp 3] rfl (.inl ⟨rfl, rfl, rfl⟩)
  · obtain ⟨s, v, rfl⟩ : ∃ s v, l = s ++ [v] := ⟨l.dropLast, l.getLast hn, (List.dropLast_concat_getLast hn).symm⟩
    have hls : (s ++ [v]).length = s.length + 1 := by rw [List.length_append, List.length_singleton]
    have hgl : (s ++ [v]).getLast? = some v := by simp
    have hdl : (s ++ [v]).dropLast = s := by simp
    rw [hls] at hl
    rw [hgl, hdl]
    have hF : ∀ os : Objs, View (fun i => Nat.beq i 1) os (.lst 1 true (s.map (D.int .i64))) (.lst 1 true (s.map (D.int .i64))) := fun os => View.same _
    cases own with
    | true =>
      have hget : (s ++ [v])[0 + (s.length : Int).toNat]? = some v := by rw [Int.toNat_natCast, Nat.zero_add]; simp
      refine Spec.by Try.func76 rfl (by decide) (by decide +kernel) rfl ?_
      (refine goR ?_)
      ((with_reducible refine Pt.go ?_); conv => whnf)
      (refine goR ?_)
      ((with_reducible refine Pt.go ?_); conv => whnf)
      (refine goR ?_)
      refine Pt.weak (Weak.only [(0, .ptr 0 0 2 0 0), (2, .int .i64 0), (3, .int .i64 0), (4, .int .i64 (s.length : Int))] [dqA room (s ++ [v]).length 1, rowI (s ++ [v])] (by kernel_rfl) tld) ?_
      (refine goA ?_)
      refine Opt.of (get_map hget) ?_
      (refine goR ?_)
      ((with_reducible refine Pt.go ?_); conv => whnf)
      (refine goR ?_)
      refine ⟨fun hz => ?_, fun hz => ?_⟩
      · obtain rfl : s = [] := List.eq_nil_of_length_eq_zero (by omega)
        (refine goR ?_)
        refine Pt.weak (Weak.only [(2, .int .i64 0), (3, .int .i64 0), (5, .int .i64 v)] [dqB room [], rowI [v]] (by kernel_rfl) tld) ?_
        refine Pt.frz (fun i => Nat.beq i 1) [] trivial ?_
        (refine goA ?_)
        exact Ret.mk [.tmp 2, .tmp 3] rfl (.inr ⟨v, rfl, rfl, rfl⟩)
      · (refine goR ?_)
        refine Pt.weak (Weak.only [(2, .int .i64 0), (3, .int .i64 0), (5, .int .i64 v)] [one (.row 201 2 false [.agg [.int .i64 room, .sl 1 0 1 0 s.length (some s.length)]]), rowI (s ++ [v])] (by kernel_rfl) tld) ?_
        refine Pt.weak (Weak.frzO (fun i => Nat.beq i 1) [] 0 (ty := 201) (sz := 2) (es := [.agg [.int .i64 room, .sl 1 0 1 0 s.length (some s.length)]]) rfl rfl [.agg [.int .i64 room, .lst 1 true (s.map (D.int .i64))]] rfl (.cons (View.agg (.cons (.same _) (.cons (View.sl (t := 3) (pr := true) (es := (s ++ [v]).map (D.int .i64)) rfl rfl (by rw [hlm, hls]; omega) (fun _ => rfl) (by rw [List.drop_zero, List.map_append, List.take_left' (List.length_map ..)]; exact ViewL.same _) (pureL_map (fun _ => rfl) _)) .nil))) .nil) trivial) ?_
        (refine goA ?_)
        exact Ret.mk [.tmp 2, .tmp 3] rfl (.inr ⟨v, rfl, rfl, rfl⟩)
    | false =>
      have hget : (s ++ [v])[(s.length : Int).toNat]? = some v := by rw [Int.toNat_natCast]; simp
      refine Spec.by Try.func76 rfl (by decide) (by decide +kernel) rfl ?_
      (refine goR ?_)
      ((with_reducible refine Pt.go ?_); conv => whnf)
      (refine goR ?_)
      ((with_reducible refine Pt.go ?_); conv => whnf)
      (refine goR ?_)
      refine Pt.weak (Weak.only [(0, .ptr 0 0 2 0 0), (2, .int .i64 0), (3, .int .i64 0), (4, .int .i64 (s.length : Int))] [dqB room (s ++ [v]), one .gone] (by kernel_rfl) tld) ?_
      (refine goA ?_)
      refine Opt.of (get_map hget) ?_
      (refine goA ?_)
      refine Nm.mk (s.map (D.int .i64)) (by show s.map (D.int .i64) = (((s ++ [v]).map (D.int .i64)).take (s.length : Int).toNat).drop 0; rw [Int.toNat_natCast, List.drop_zero, List.map_append, List.take_left' (List.length_map ..)]) ?_
      (refine goA ?_)
      exact Ret.mk [.tmp 2, .tmp 3] rfl (.inr ⟨v, rfl, rfl, rfl⟩)
/-- The top one. -/
theorem steal75 (own : Bool) (room : Int) (l : List Int) (hl : l.length ≤ 8) : Spec Try.prog 75 [.ptr 0 0 2 0 0] (dqO own room l 1)
    (fun d os' => (l = [] ∧ d = .tup [.int .i64 0, .int .i64 7] ∧ os' = dqO own room l 1) ∨ (∃ v, l.head? = some v ∧ d = .tup [.int .i64 v, .int .i64 0] ∧ os' = [dqB room l.tail, one .gone])) := by
  have hlm : (l.map (D.int .i64)).length = l.length := List.length_map ..
  by_cases hn : l = []
  · subst hn
    cases own with
    | true =>
      refine Spec.by Try.func75 rfl (by decide) (by decide +kernel) rfl ?_
      (refine goA ?_)
      exact Ret.mk [.tmp 2, .tmp 3] rfl (.inl ⟨rfl, rfl, rfl⟩)
    | false =>
      refine Spec.by Try.func75 rfl (by decide) (by decide +kernel) rfl ?_
      (refine goA ?_)
      exact Ret.mk [.tmp 2, .tmp 3] rfl (.inl ⟨rfl, rfl, rfl⟩)
  · obtain ⟨v, s, rfl⟩ : ∃ v s, l = v :: s := List.exists_cons_of_ne_nil hn
    have hls : (v :: s).length = s.length + 1 := List.length_cons
    rw [hls] at hl
    rw [show (v :: s).head? = some v from rfl, show (v :: s).tail = s from rfl]
    cases own with
    | true =>
      refine Spec.by Try.func75 rfl (by decide) (by decide +kernel) rfl ?_
      (refine goA ?_)
      refine ⟨fun hz => ?_, fun hz => ?_⟩
      · obtain rfl : s = [] := List.eq_nil_of_length_eq_zero (by omega)
        (refine goR ?_)
        refine Pt.weak (Weak.only [(2, .int .i64 0), (3, .int .i64 0), (4, .int .i64 v)] [dqB room [], rowI [v]] (by kernel_rfl) tld) ?_
        refine Pt.frz (fun i => Nat.beq i 1) [] trivial ?_
        (refine goA ?_)
        exact Ret.mk [.tmp 2, .tmp 3] rfl (.inr ⟨v, rfl, rfl, rfl⟩)
      · (refine goR ?_)
        refine Pt.weak (Weak.only [(2, .int .i64 0), (3, .int .i64 0), (4, .int .i64 v)] [one (.row 201 2 false [.agg [.int .i64 room, .sl 1 0 1 1 s.length (some s.length)]]), rowI (v :: s)] (by kernel_rfl) tld) ?_
        refine Pt.weak (Weak.frzO (fun i => Nat.beq i 1) [] 0 (ty := 201) (sz := 2) (es := [.agg [.int .i64 room, .sl 1 0 1 1 s.length (some s.length)]]) rfl rfl [.agg [.int .i64 room, .lst 1 true (s.map (D.int .i64))]] rfl (.cons (View.agg (.cons (.same _) (.cons (View.sl (t := 3) (pr := true) (es := (v :: s).map (D.int .i64)) rfl rfl (by rw [hlm, hls]; omega) (fun _ => rfl) (by rw [List.map_cons, List.drop_one, List.tail_cons, List.take_of_length_le (by rw [List.length_map]; exact Nat.le_refl _)]; exact ViewL.same _) (pureL_map (fun _ => rfl) _)) .nil))) .nil) trivial) ?_
        (refine goA ?_)
        exact Ret.mk [.tmp 2, .tmp 3] rfl (.inr ⟨v, rfl, rfl, rfl⟩)
    | false =>
      refine Spec.by Try.func75 rfl (by decide) (by decide +kernel) rfl ?_
      (refine goA ?_)
      refine Nm.mk (s.map (D.int .i64)) (by rw [Int.toNat_natCast, List.take_of_length_le (Nat.le_refl _)]; rfl) ?_
      (refine goA ?_)
      exact Ret.mk [.tmp 2, .tmp 3] rfl (.inr ⟨v, rfl, rfl, rfl⟩)
end Go.Proofs.Ytaplihoeephbeaa.V
end
section
namespace Go.Proofs.Ytaplihoeephbeaa.V
open Go Go.Proofs
set_option maxRecDepth 100000
/-- A row is told to its first so many. -/
theorem Weak.cutRow {n0 : Nat} {m : List (Nat × D)} {os : Objs} (f k : Nat) {t : TypeId} {sz : Nat} {pr : Bool} {es : List D} (hf : os.at f 0 = .row t sz pr es) : Weak n0 { m := m, objs := os } { m := m, objs := os.put f 0 (.row t sz pr (es.take k)) } := by
  intro ρ I w tm h1 h2 h3
  have hfl : f < os.length := lt_of_at (by rw [hf]; simp)
  have hat : ∀ i j, (os.put f 0 (.row t sz pr (es.take k))).at i j ≠ .gone → os.at i j ≠ .gone := by
    intro i j hne
    by_cases hc : i = f ∧ j = 0
    · rw [hc.1, hc.2, hf]; simp
    · rwa [at_put_ne _ _ _ _ hc] at hne
  refine ⟨ρ, I, ⟨h1.im, fun i j hne => ?_, fun i j i' j' p p' hne hne' => h1.inj i j i' j' p p' (hat i j hne) (hat i' j' hne'), ?_, fun i j hi => h1.dom i j (by simpa [length_put] using hi)⟩, h2, Im.le_refl _, by simpa [length_put] using h3, fun _ _ _ => rfl, fun _ h => .inl h, ?_⟩
  · obtain ⟨p, hp, hok⟩ := h1.ok i j (hat i j hne)
    refine ⟨p, hp, ?_⟩
    by_cases hc : i = f ∧ j = 0
    · obtain ⟨rfl, rfl⟩ := hc
      simp only
      rw [at_put_self _ _ _ hfl]
      rw [hf] at hok
      obtain ⟨k1, k2, k3⟩ := hok
      refine ⟨by rw [List.length_take]; omega, k2, fun hpos => ?_⟩
      obtain ⟨arr, us, g1, g2, g3, g4, g5⟩ := k3 hpos
      exact ⟨arr, us.take k, g1, g2, repL_take k g3, fun u hu => g4 u (List.mem_of_mem_take hu), (flat_take_prefix k us).trans g5⟩
    · simp only
      rw [at_put_ne _ _ _ _ hc]; exact hok
  · rintro b ⟨i, j, p, hne, hp, hpos, rfl⟩
    exact h1.apart _ ⟨i, j, p, hat i j hne, hp, hpos, rfl⟩
  · rintro b ⟨i, j, p, hne, hp, hpos, rfl⟩
    exact ⟨i, j, p, hat i j hne, hp, hpos, rfl⟩
end Go.Proofs.Ytaplihoeephbeaa.V
end
section
namespace Go.Proofs.Ytaplihoeephbeaa.V
open Go Go.Proofs
set_option maxRecDepth 100000
set_option maxHeartbeats 40000000
def dqI (n : Int) : Int := if 8 < (if n < 1 then 1 else n) then 8 else (if n < 1 then 1 else n)
theorem dqI_r (n : Int) : 1 ≤ dqI n ∧ dqI n ≤ 8 := by
  unfold dqI
  split <;> split <;> omega
theorem new73 (n : Int) : Spec Try.prog 73 [.int .i64 n] [] (fun d os' => d = .ptr 0 0 2 0 0 ∧ os' = [one (.row 201 2 false [.agg [.int .i64 (dqI n), .nils]])]) := by
  refine Spec.by Try.func73 rfl (by decide) (by decide +kernel) rfl ?_
  (refine goA ?_)
  exact Ret.mk [.tmp 2] rfl ⟨rfl, rfl⟩
/-- The cell of a deque, as it is told. -/
@[reducible] def dqF (own : Bool) (room : Int) (l : List Int) (r : Nat) : Fam := bif own then dqA room l.length r else dqB room l
@[reducible] def dqR (own : Bool) (l : List Int) : Fam := bif own then rowI l else one .gone
theorem dq_frame {f : FuncId} {args : List D} {own : Bool} {room : Int} {l : List Int} {post : D → Objs → Prop} (h : Spec Try.prog f (.ptr 0 0 2 0 0 :: args) (dqO own room l 1) post)
    (k r : Nat) (os : Objs) (hk : os[k]? = some (dqF own room l r)) (hr : os[r]? = some (dqR own l)) (hkr : k ≠ r) (hargs : D.pureL args = true) :
    Spec Try.prog f (.ptr k 0 2 0 0 :: args) os (fun d os' => ∃ d1 os1, post d1 os1 ∧ d = d1.mapId (lead [(k, 0), (r, 0)] os.length) ∧ os' = merge [(k, 0), (r, 0)] os os1) := by
  have hpl : D.pureL (l.map (D.int .i64)) = true := pureL_map (fun _ => rfl) _
  have e : D.mapIdL (lead [(k, 0), (r, 0)] os.length) (.ptr 0 0 2 0 0 :: args) = .ptr k 0 2 0 0 :: args := by
    simp only [D.mapIdL, D.mapId, lead, mapIdL_pure _ _ hargs]
    rfl
  have hs : D.sglL 2 (.ptr 0 0 2 0 0 :: args) = true := by simp [D.sglL, D.sgl, sglL_pure _ _ hargs]
  rw [← e]
  cases own with
  | true =>
    refine h.frame os [(k, 0), (r, 0)] rfl (by simp [hkr]) (fun i p hp => ?_) hs
    match i, hp with
    | 0, hp =>
      simp at hp; subst hp
      exact ⟨(List.getElem?_eq_some_iff.1 hk).1, by rw [at_one hk]; rfl, rfl, fun j hj => one_pos _ hj⟩
    | 1, hp =>
      simp at hp; subst hp
      refine ⟨(List.getElem?_eq_some_iff.1 hr).1, ?_, ?_, fun j hj => one_pos _ hj⟩
      · rw [at_one hr]
        show _ = O.mapId _ (.row 3 1 true (l.map (D.int .i64)))
        simp only [O.mapId]
      · show O.sgl _ (.row 3 1 true (l.map (D.int .i64))) = true
        simp [O.sgl]
    | i + 2, hp => simp at hp
  | false =>
    refine h.frame os [(k, 0), (r, 0)] rfl (by simp [hkr]) (fun i p hp => ?_) hs
    match i, hp with
    | 0, hp =>
      simp at hp; subst hp
      exact ⟨(List.getElem?_eq_some_iff.1 hk).1, by rw [at_one hk]; rfl, rfl, fun j hj => one_pos _ hj⟩
    | 1, hp =>
      simp at hp; subst hp
      exact ⟨(List.getElem?_eq_some_iff.1 hr).1, by rw [at_one hr]; rfl, rfl, fun j hj => one_pos _ hj⟩
    | i + 2, hp => simp at hp
/-- What stood there is put there again. -/
theorem dq_same {own : Bool} {room : Int} {l : List Int} (k r : Nat) (os : Objs) (hk : os[k]? = some (dqF own room l r)) (hr : os[r]? = some (dqR own l)) : merge [(k, 0), (r, 0)] os (dqO own room l 1) = os := by
  cases own with
  | true =>
    have e1 : os.put k 0 (.row 201 2 false [.agg [.int .i64 room, .sl r 0 1 0 l.length none]]) = os := by rw [put_one hk]; exact list_set_same hk
    have e2 : os.put r 0 (.row 3 1 true (l.map (D.int .i64))) = os := by rw [put_one hr]; exact list_set_same hr
    show (os.put k 0 (.row 201 2 false [.agg [.int .i64 room, .sl r 0 1 0 l.length none]])).put r 0 (.row 3 1 true (l.map (D.int .i64))) ++ [] = os
    rw [e1, e2, List.append_nil]
  | false =>
    have e1 : os.put k 0 (.row 201 2 false [.agg [.int .i64 room, .lst 1 true (l.map (D.int .i64))]]) = os := by rw [put_one hk]; exact list_set_same hk
    have e2 : os.put r 0 .gone = os := by rw [put_one hr]; exact list_set_same hr
    show (os.put k 0 (.row 201 2 false [.agg [.int .i64 room, .lst 1 true (l.map (D.int .i64))]])).put r 0 .gone ++ [] = os
    rw [e1, e2, List.append_nil]
theorem dq_oneF (own : Bool) (room : Int) (l : List Int) (r : Nat) : ∃ o, dqF own room l r = one o := by cases own <;> exact ⟨_, rfl⟩
theorem dq_oneR (own : Bool) (l : List Int) : ∃ o, dqR own l = one o := by cases own <;> exact ⟨_, rfl⟩
theorem push74at (own : Bool) (room : Int) (l : List Int) (v : Int) (hrm : 0 ≤ room ∧ room ≤ 8) (hl : (l.length : Int) ≤ room) (k r : Nat) (os : Objs) (hk : os[k]? = some (dqF own room l r)) (hr : os[r]? = some (dqR own l)) (hkr : k ≠ r) :
    Spec Try.prog 74 [.ptr k 0 2 0 0, .int .i64 v] os (fun d os' => d = .int .i64 (pushC room l v).1 ∧ os' = if (l.length : Int) = room then os else (os.set k (dqA room (l.length + 1) os.length)).set r (one .gone) ++ [rowI (l ++ [v])]) := by
  refine (dq_frame (push74 own room l v hrm hl) k r os hk hr hkr rfl).mono ?_
  rintro d os' ⟨d1, os1, ⟨rfl, rfl⟩, rfl, rfl⟩
  refine ⟨rfl, ?_⟩
  by_cases h : (l.length : Int) = room
  · rw [if_pos h, if_pos h]; exact dq_same k r os hk hr
  · rw [if_neg h, if_neg h]
    obtain ⟨o, ho⟩ := dq_oneF own room l r
    obtain ⟨o', ho'⟩ := dq_oneR own l
    rw [ho] at hk
    rw [ho'] at hr
    have hr' : ∀ F, (os.set k F)[r]? = some (one o') := fun F => by rw [List.getElem?_set_ne hkr]; exact hr
    show (os.put k 0 (.row 201 2 false [.agg [.int .i64 room, .sl (os.length + 0) 0 1 0 (l.length + 1) none]])).put r 0 .gone ++ [rowI (l ++ [v])] = _
    rw [put_one hk, put_one (hr' _)]
    rfl
theorem pop76at (own : Bool) (room : Int) (l : List Int) (hl : l.length ≤ 8) (k r : Nat) (os : Objs) (hk : os[k]? = some (dqF own room l r)) (hr : os[r]? = some (dqR own l)) (hkr : k ≠ r) :
    Spec Try.prog 76 [.ptr k 0 2 0 0] os (fun d os' => (l = [] ∧ d = .tup [.int .i64 0, .int .i64 7] ∧ os' = os) ∨ (∃ v, l.getLast? = some v ∧ d = .tup [.int .i64 v, .int .i64 0] ∧ os' = (os.set k (dqB room l.dropLast)).set r (one .gone))) := by
  refine (dq_frame (pop76 own room l hl) k r os hk hr hkr rfl).mono ?_
  rintro d os' ⟨d1, os1, ⟨h, rfl, rfl⟩ | ⟨v, h, rfl, rfl⟩, rfl, rfl⟩
  · exact .inl ⟨h, rfl, dq_same k r os hk hr⟩
  · obtain ⟨o, ho⟩ := dq_oneF own room l r
    obtain ⟨o', ho'⟩ := dq_oneR own l
    rw [ho] at hk
    rw [ho'] at hr
    have hr' : ∀ F, (os.set k F)[r]? = some (one o') := fun F => by rw [List.getElem?_set_ne hkr]; exact hr
    refine .inr ⟨v, h, rfl, ?_⟩
    show (os.put k 0 (.row 201 2 false [.agg [.int .i64 room, .lst 1 true (l.dropLast.map (D.int .i64))]])).put r 0 .gone ++ [] = _
    rw [put_one hk, put_one (hr' _), List.append_nil]
end Go.Proofs.Ytaplihoeephbeaa.V
end
section
namespace Go.Proofs.Ytaplihoeephbeaa.V
open Go Go.Proofs
set_option maxRecDepth 100000
set_option maxHeartbeats 40000000
/-- Behind a call all roads lead to one place. -/
theorem Call.cut {f : FuncId} {args : List D} {os : Objs} {K : D → Objs → Prop} {post : D → Objs → Prop} {A : Type} {n0 : Nat} {K2 : St → Prop} (S : A → List (Nat × D)) (O : A → Objs) (Q : A → Prop)
    (h : Spec Try.prog f args os post) (hk : ∀ d os', post d os' → (∀ a, Q a → Pt n0 { m := S a, objs := O a } K2) → K d os') (key : ∀ a, Q a → Pt n0 { m := S a, objs := O a } K2) : Call Try.prog f args os K :=
  .mk h fun d os' hp => hk d os' hp key
def popC (c : List Int) : Int × Int := match c with
  | [] => (0, 7)
  | v :: _ => (v, 0)
theorem pop48x {room a n : Int} {L c : List Int} (h : Rg room a n L c) : Spec Try.prog 48 [.ptr 0 0 4 0 0] [rgC room a n L.length 1, rowI L] (fun d os' => ∃ a' n' L', (d = .tup [.int .i64 (popC c).1, .int .i64 (popC c).2] ∧ Rg room a' n' L' c.tail) ∧ os' = [rgC room a' n' L'.length 1, rowI L']) := by
  cases c with
  | nil =>
    refine (popE48 h).mono ?_
    rintro d os' ⟨rfl, rfl⟩
    exact ⟨a, n, L, ⟨rfl, h⟩, rfl⟩
  | cons v c =>
    refine (pop48 h).mono ?_
    rintro d os' ⟨rfl, rfl⟩
    exact ⟨_, _, _, ⟨rfl, h.pop⟩, by rw [List.length_set]⟩
end Go.Proofs.Ytaplihoeephbeaa.V
end
section
namespace Go.Proofs.Ytaplihoeephbeaa.V
open Go Go.Proofs
set_option maxRecDepth 100000
set_option maxHeartbeats 40000000
/-- The pool of the document's example. -/
@[reducible] def p0C (rings : D) : Fam := one (.row 114 2 false [.agg [rings, .sl 1 0 1 0 2 none]])
@[reducible] def p0R : Fam := one (.row 102 1 false [.ptr 2 0 2 0 0, .ptr 3 0 2 0 0])
theorem new80c : Spec Try.prog 80 [.int .i64 2, .int .i64 1] [] (fun d os' => d = .ptr 0 0 2 0 0 ∧ os' = [p0C .nils, p0R, dqB 1 [], dqB 1 []]) := by
  refine Spec.by Try.func80 rfl (by decide) (by decide +kernel) rfl ?_
  (refine goR ?_)
  ((with_reducible refine Pt.go ?_); conv => whnf)
  (refine goR ?_)
  ((with_reducible refine Pt.go ?_); conv => whnf)
  (refine goR ?_)
  refine Pt.weak (Weak.trans (Weak.only [(0, .int .i64 2), (1, .int .i64 1), (4, .nilp), (5, .ptr 0 0 2 0 0)] [one (.row 114 2 false [.agg [.nils, .nils]])] (by kernel_rfl) tld) (Weak.nilO 0 1 rfl (es := [.agg [.nils, .nils]]) rfl [.agg [.nils, .sl 1 0 1 0 0 none]] rfl (.cons (.agg (.cons (.same _ _) (.cons (.nils _ _) (.same _ _)))) (.same _ _)) 102 1 false)) ?_
  (refine goA ?_)
  refine Loop.inv (A := Nat) (List.range 26) (fun i => [(1, .int .i64 1), (4, .nilp), (5, .ptr 0 0 2 0 0), (10, .int .i64 2), (11, .int .i64 (i : Int))]) (fun i => match i with
    | 0 => [one (.row 114 2 false [.agg [.nils, .sl 1 0 1 0 0 none]]), one (.row 102 1 false [])]
    | 1 => [one (.row 114 2 false [.agg [.nils, .sl 1 0 1 0 1 none]]), one (.row 102 1 false [.ptr 2 0 2 0 0]), one (.row 201 2 false [.agg [.int .i64 1, .nils]])]
    | _ => [p0C .nils, p0R, one (.row 201 2 false [.agg [.int .i64 1, .nils]]), one (.row 201 2 false [.agg [.int .i64 1, .nils]])]) (fun i => i ≤ 2) (fun i => 2 - i) 0 (Nat.zero_le _) ?_ ?_
  · exact Weak.start' rfl rfl tld
  rintro i hi
  have hq : dqI 1 = 1 := rfl
  obtain rfl | rfl | rfl : i = 0 ∨ i = 1 ∨ i = 2 := by omega
  · (refine goA ?_)
    refine Call.mk ((new73 1).onto _ rfl) ?_
    rintro d os' ⟨d1, os1, ⟨rfl, rfl⟩, rfl, rfl⟩
    rw [hq]
    (refine goA ?_)
    refine App.own ?_
    (refine goA ?_)
    refine ⟨_, _, _, ?_, ⟨0 + 1, ?_, rfl, rfl, rfl⟩, ?_⟩
    · show 2 - (0 + 1) < 2 - 0; omega
    · show 0 + 1 ≤ 2; omega
    · refine Weak.trans (Weak.shift 4 1 (by decide) (by simp) (Nat.le_of_ble_eq_true rfl) (Nat.le_of_ble_eq_true rfl) (fun j => by cases j <;> rfl) rfl) ?_
      refine Weak.backT 3 (by simp) (by first | rfl | kernel_rfl) (by kernel_rfl) (Nat.le_of_ble_eq_true rfl) tld (by kernel_rfl) (by kernel_rfl)
  · (refine goA ?_)
    refine Call.mk ((new73 1).onto _ rfl) ?_
    rintro d os' ⟨d1, os1, ⟨rfl, rfl⟩, rfl, rfl⟩
    rw [hq]
    (refine goA ?_)
    refine App.own ?_
    (refine goA ?_)
    refine ⟨_, _, _, ?_, ⟨1 + 1, ?_, rfl, rfl, rfl⟩, ?_⟩
    · show 2 - (1 + 1) < 2 - 1; omega
    · show 1 + 1 ≤ 2; omega
    · refine Weak.trans (Weak.shift 5 1 (by decide) (by simp) (Nat.le_of_ble_eq_true rfl) (Nat.le_of_ble_eq_true rfl) (fun j => by cases j <;> rfl) rfl) ?_
      refine Weak.backT 4 (by simp) (by first | rfl | kernel_rfl) (by kernel_rfl) (Nat.le_of_ble_eq_true rfl) tld (by kernel_rfl) (by kernel_rfl)
  · (refine goA ?_)
    refine Ret.weak (Weak.trans (Weak.only [(4, .ptr 0 0 2 0 0)] [p0C .nils, p0R, one (.row 201 2 false [.agg [.int .i64 1, .nils]]), one (.row 201 2 false [.agg [.int .i64 1, .nils]])] (by kernel_rfl) tld) (Weak.trans (Weak.frzO (fun _ => false) [] 2 (ty := 201) (sz := 2) (es := [.agg [.int .i64 1, .nils]]) rfl rfl [.agg [.int .i64 1, .lst 1 true []]] rfl (.cons (View.agg (.cons (.same _) (.cons (View.nils 1 true) .nil))) .nil) trivial) (Weak.frzO (fun _ => false) [] 3 (ty := 201) (sz := 2) (es := [.agg [.int .i64 1, .nils]]) rfl rfl [.agg [.int .i64 1, .lst 1 true []]] rfl (.cons (View.agg (.cons (.same _) (.cons (View.nils 1 true) .nil))) .nil) trivial))) ?_
    exact Ret.mk [.tmp 4] rfl ⟨rfl, rfl⟩
theorem is157c (k : Nat) (os : Objs) (rings : D) (h : os[0]? = some (p0C rings)) : Spec Try.prog 157 [.ptr 0 0 2 0 0, .int .i64 0] os (fun d os' => d = .bool true ∧ os' = os) := by
  have hat := at_one h
  refine Spec.by Try.func157 rfl (by decide) (by decide +kernel) rfl ?_
  (refine goA ?_)
  rw [hat]
  (refine goA ?_)
  exact Ret.mk [.tmp 4] rfl ⟨rfl, rfl⟩
theorem give81a : Spec Try.prog 81 [.ptr 0 0 2 0 0, .int .i64 0, .int .i64 5] [p0C .nils, p0R, dqB 1 [], dqB 1 [], one .gone, one .gone] (fun d os' => d = .int .i64 0 ∧ os' = [p0C .nils, p0R, dqA 1 1 6, dqB 1 [], one .gone, one .gone, rowI [5]]) := by
  refine Spec.by Try.func81 rfl (by decide) (by decide +kernel) rfl ?_
  (refine goA ?_)
  refine Call.mk (is157c 0 _ .nils rfl) ?_
  rintro d os' ⟨rfl, rfl⟩
  (refine goA ?_)
  refine Call.mk (push74at false 1 [] 5 (by decide) (by decide) 2 4 _ rfl rfl (by decide)) ?_
  rintro d os' ⟨rfl, rfl⟩
  rw [if_neg (by decide)]
  (refine goA ?_)
  exact Ret.mk [.tmp 6] rfl ⟨rfl, rfl⟩
theorem put158c : Spec Try.prog 158 [.ptr 0 0 2 0 0, .int .i64 6] [p0C .nils, p0R, dqA 1 1 6, dqB 1 [], one .gone, one .gone, rowI [5]] (fun d os' => ∃ a n L, (Rg 1024 a n L [6] ∧ d = .tup []) ∧ os' = [p0C (.sl 10 0 1 0 1 none), p0R, dqA 1 1 6, dqB 1 [], one .gone, one .gone, rowI [5], rgC 1024 a n L.length 8, rowI L, one (.row 56 1 false [.ptr 7 0 4 0 0]), one (.row 56 1 false [.ptr 7 0 4 0 0])]) := by
  have hc : newL (roomI 1024) [] [6] = [6] := rfl
  have hro : roomI 1024 = 1024 := rfl
  refine Spec.by Try.func158 rfl (by decide) (by decide +kernel) rfl ?_
  (refine goA ?_)
  refine App.only false rfl rfl ?_
  (refine goA ?_)
  refine Call.mk ((new46 1024 [6] (by decide)).onto _ rfl) ?_
  rintro d os' ⟨d1, os1, ⟨a, n, L, ⟨hg, rfl⟩, rfl⟩, rfl, rfl⟩
  rw [hc, hro] at hg
  rw [hro]
  (refine goA ?_)
  refine App.own ?_
  (refine goA ?_)
  refine App.own ?_
  (refine goA ?_)
  exact Ret.mk [] rfl ⟨a, n, L, ⟨hg, rfl⟩, rfl⟩
theorem give81b : Spec Try.prog 81 [.ptr 0 0 2 0 0, .int .i64 0, .int .i64 6] [p0C .nils, p0R, dqA 1 1 6, dqB 1 [], one .gone, one .gone, rowI [5]] (fun d os' => ∃ a n L, (Rg 1024 a n L [6] ∧ d = .int .i64 0) ∧ os' = [p0C (.sl 10 0 1 0 1 none), p0R, dqA 1 1 6, dqB 1 [], one .gone, one .gone, rowI [5], rgC 1024 a n L.length 8, rowI L, one (.row 56 1 false [.ptr 7 0 4 0 0]), one (.row 56 1 false [.ptr 7 0 4 0 0])]) := by
  refine Spec.by Try.func81 rfl (by decide) (by decide +kernel) rfl ?_
  (refine goA ?_)
  refine Call.mk (is157c 0 _ .nils rfl) ?_
  rintro d os' ⟨rfl, rfl⟩
  (refine goA ?_)
  refine Call.mk (push74at true 1 [5] 6 (by decide) (by decide) 2 6 _ rfl rfl (by decide)) ?_
  rintro d os' ⟨rfl, rfl⟩
  rw [if_pos (by decide)]
  (refine goA ?_)
  refine Call.mk put158c ?_
  rintro d os' ⟨a, n, L, ⟨hg, rfl⟩, rfl⟩
  (refine goA ?_)
  exact Ret.mk [.tmp 6] rfl ⟨a, n, L, ⟨hg, rfl⟩, rfl⟩
@[reducible] def exY (a n : Int) (L : List Int) : Objs := [p0C (.sl 10 0 1 0 1 none), p0R, dqB 1 [], dqB 1 [], one .gone, one .gone, one .gone, rgC 1024 a n L.length 8, rowI L, one (.row 56 1 false [.ptr 7 0 4 0 0]), one (.row 56 1 false [.ptr 7 0 4 0 0])]
theorem take84a (a n : Int) (L : List Int) : Spec Try.prog 84 [.ptr 0 0 2 0 0, .int .i64 0] [p0C (.sl 10 0 1 0 1 none), p0R, dqA 1 1 6, dqB 1 [], one .gone, one .gone, rowI [5], rgC 1024 a n L.length 8, rowI L, one (.row 56 1 false [.ptr 7 0 4 0 0]), one (.row 56 1 false [.ptr 7 0 4 0 0])] (fun d os' => d = .tup [.int .i64 5, .int .i64 0] ∧ os' = exY a n L) := by
  refine Spec.by Try.func84 rfl (by decide) (by decide +kernel) rfl ?_
  (refine goA ?_)
  refine Call.mk (is157c 0 _ (.sl 10 0 1 0 1 none) rfl) ?_
  rintro d os' ⟨rfl, rfl⟩
  (refine goA ?_)
  refine Call.mk (pop76at true 1 [5] (by decide) 2 6 _ rfl rfl (by decide)) ?_
  rintro d os' (⟨h, _⟩ | ⟨v, h, rfl, rfl⟩)
  · cases h
  · obtain rfl : 5 = v := Option.some.inj h
    (refine goA ?_)
    exact Ret.mk [.tmp 4, .tmp 5] rfl ⟨rfl, rfl⟩
theorem first159c {a n : Int} {L : List Int} (hg : Rg 1024 a n L [6]) : Spec Try.prog 159 [.ptr 0 0 2 0 0] (exY a n L) (fun d os' => ∃ a n L, (Rg 1024 a n L [] ∧ d = .tup [.int .i64 6, .int .i64 0]) ∧ os' = exY a n L) := by
  refine Spec.by Try.func159 rfl (by decide) (by decide +kernel) rfl ?_
  (refine goA ?_)
  refine Loop.inv (A := Nat) (List.range 34) (fun i => [(0, .ptr 0 0 2 0 0), (2, .int .i64 0), (3, .int .i64 0)]) (fun _ => exY a n L) (fun _ => True) (fun _ => 0) 0 trivial ?_ ?_
  · exact Weak.start' rfl rfl tld
  rintro _ _
  (refine goA ?_)
  refine Call.mk (Spec.rgP (pop48x hg) 7 8 _ rfl rfl (by decide) rfl (by rintro d a n L ⟨rfl, _⟩; rfl)) ?_
  rintro d os' ⟨a3, n3, L3, ⟨rfl, hg3⟩, rfl⟩
  (refine goA ?_)
  exact Ret.mk [.tmp 2, .tmp 3] rfl ⟨a3, n3, L3, ⟨hg3, rfl⟩, rfl⟩
theorem take84b {a n : Int} {L : List Int} (hg : Rg 1024 a n L [6]) : Spec Try.prog 84 [.ptr 0 0 2 0 0, .int .i64 0] (exY a n L) (fun d os' => ∃ a n L, (Rg 1024 a n L [] ∧ d = .tup [.int .i64 6, .int .i64 0]) ∧ os' = exY a n L) := by
  refine Spec.by Try.func84 rfl (by decide) (by decide +kernel) rfl ?_
  (refine goA ?_)
  refine Call.mk (is157c 0 _ (.sl 10 0 1 0 1 none) rfl) ?_
  rintro d os' ⟨rfl, rfl⟩
  (refine goA ?_)
  refine Call.mk (pop76at false 1 [] (by decide) 2 6 _ rfl rfl (by decide)) ?_
  rintro d os' (⟨_, rfl, rfl⟩ | ⟨v, h, _⟩)
  · (refine goA ?_)
    refine Call.mk (first159c hg) ?_
    rintro d os' ⟨a3, n3, L3, ⟨hg3, rfl⟩, rfl⟩
    (refine goA ?_)
    exact Ret.mk [.tmp 4, .tmp 5] rfl ⟨a3, n3, L3, ⟨hg3, rfl⟩, rfl⟩
  · cases h
end Go.Proofs.Ytaplihoeephbeaa.V
end
section
namespace Go.Proofs.Ytaplihoeephbeaa.V
open Go Go.Proofs
set_option maxRecDepth 100000
set_option maxHeartbeats 40000000
theorem global83c {a n : Int} {L : List Int} (hg : Rg 1024 a n L []) : Spec Try.prog 83 [.ptr 0 0 2 0 0] (exY a n L) (fun d os' => d = .nils ∧ os' = exY a n L) := by
  obtain rfl : n = 0 := hg.nl
  refine Spec.weak (post := fun d os' => d = .nils ∧ ∃ x, os' = exY a 0 L ++ [x]) ?_ (by
    rintro d os' ⟨rfl, x, rfl⟩
    exact ⟨_, _, Weak.trim 11 (Nat.le_refl _) rfl (Nat.le_of_ble_eq_true rfl), rfl, rfl⟩)
  refine Spec.by Try.func83 rfl (by decide) (by decide +kernel) rfl ?_
  (refine goA ?_)
  refine Loop.inv (A := Nat) (List.range 27) (fun i => [(2, .nils), (3, .ptr 11 0 1 0 0), (11, .sl 10 0 1 0 1 none), (12, .int .i64 1), (13, .int .i64 (i : Int))]) (fun i => exY a 0 L ++ [one (.row 23 1 false [.nils])]) (fun i => i ≤ 1) (fun i => 1 - i) 0 (Nat.zero_le _) ?_ ?_
  · exact Weak.start' rfl rfl tld
  rintro i hi
  obtain rfl | rfl : i = 0 ∨ i = 1 := by omega
  · (refine goA ?_)
    refine Call.mk (all126 7 _) ?_
    rintro d os' ⟨rfl, rfl⟩
    (refine goA ?_)
    refine Rng.mk (f := 189) (fn := Try.f189) [(2, .nils), (3, .ptr 11 0 1 0 0), (11, .sl 10 0 1 0 1 none), (12, .int .i64 1), (13, .int .i64 0), (18, .fn (.func 189) [] [.ptr 12 0 1 0 0])] (exY a 0 L ++ [one (.row 23 1 false [.nils]), one (.row 56 1 false [.ptr 7 0 4 0 0])]) (Weak.only _ _ (by kernel_rfl) tld) tld rfl Try.func189 rfl rfl (by decide +kernel) rfl rfl (by decide) ?_
    intro gf tm df
    generalize hr : (⟨.ready, none, gf, tm, #[19, 20], _, _, df⟩ : Go.Loop) = r
    (refine goA ?_)
    refine Loop.inv (A := Nat) (List.range 25) (fun i => [(0, .yl 13 0), (1, .ptr 12 0 1 0 0), (9, .int .i64 0), (10, .int .i64 0)]) (fun i => exY a 0 L ++ [one (.row 23 1 false [.nils]), one (.row 56 1 false [.ptr 7 0 4 0 0]), one (.loop r .ready none [(2, .nils), (3, .ptr 11 0 1 0 0), (11, .sl 10 0 1 0 1 none), (12, .int .i64 1), (13, .int .i64 0), (18, .fn (.func 189) [] [.ptr 12 0 1 0 0])])]) (fun _ => True) (fun _ => 0) 0 trivial ?_ ?_
    · exact Weak.start' rfl rfl tld
    rintro _ _
    (refine goA ?_)
    refine After.mk 13 .ready none _ rfl (by decide) ?_
    (refine goA ?_)
    refine ⟨_, _, _, ?_, ⟨0 + 1, ?_, rfl, rfl, rfl⟩, ?_⟩
    · show 1 - (0 + 1) < 1 - 0; omega
    · show 0 + 1 ≤ 1; omega
    · refine Weak.backT 12 (by simp) (by first | rfl | kernel_rfl) (by kernel_rfl) (Nat.le_of_ble_eq_true rfl) tld (by kernel_rfl) (by kernel_rfl)
  · (refine goA ?_)
    exact Ret.mk [.tmp 2] rfl ⟨rfl, _, rfl⟩
theorem all160c {a n : Int} {L : List Int} (hg : Rg 1024 a n L []) : Spec Try.prog 160 [.ptr 0 0 2 0 0] (exY a n L) (fun d os' => d = .nils ∧ os' = exY a n L) := by
  refine Spec.by Try.func160 rfl (by decide) (by decide +kernel) rfl ?_
  (refine goA ?_)
  refine Loop.inv (A := Nat) (List.range 28) (fun i => [(0, .ptr 0 0 2 0 0), (2, .nils), (3, .nils), (9, .sl 1 0 1 0 2 none), (10, .int .i64 2), (11, .int .i64 (i : Int))]) (fun i => exY a n L) (fun i => i ≤ 2) (fun i => 2 - i) 0 (Nat.zero_le _) ?_ ?_
  · exact Weak.start' rfl rfl tld
  rintro i hi
  obtain rfl | rfl | rfl : i = 0 ∨ i = 1 ∨ i = 2 := by omega
  · (refine goA ?_)
    refine ⟨fun _ => ?_, fun h => absurd rfl h⟩
    (refine goA ?_)
    refine ⟨_, _, _, ?_, ⟨0 + 1, ?_, rfl, rfl, rfl⟩, ?_⟩
    · show 2 - (0 + 1) < 2 - 0; omega
    · show 0 + 1 ≤ 2; omega
    · refine Weak.backT 11 (by simp) (by first | rfl | kernel_rfl) (by kernel_rfl) (Nat.le_of_ble_eq_true rfl) tld (by kernel_rfl) (by kernel_rfl)
  · (refine goA ?_)
    refine ⟨fun _ => ?_, fun h => absurd rfl h⟩
    (refine goA ?_)
    refine ⟨_, _, _, ?_, ⟨1 + 1, ?_, rfl, rfl, rfl⟩, ?_⟩
    · show 2 - (1 + 1) < 2 - 1; omega
    · show 1 + 1 ≤ 2; omega
    · refine Weak.backT 11 (by simp) (by first | rfl | kernel_rfl) (by kernel_rfl) (Nat.le_of_ble_eq_true rfl) tld (by kernel_rfl) (by kernel_rfl)
  · (refine goA ?_)
    refine Call.mk (global83c hg) ?_
    rintro d os' ⟨rfl, rfl⟩
    (refine goA ?_)
    refine ⟨fun _ => ?_, fun h => absurd rfl h⟩
    (refine goA ?_)
    exact Ret.mk [.tmp 2] rfl ⟨rfl, rfl⟩
theorem len85c {a n : Int} {L : List Int} (hg : Rg 1024 a n L []) : Spec Try.prog 85 [.ptr 0 0 2 0 0] (exY a n L) (fun d os' => d = .int .i64 0 ∧ os' = exY a n L) := by
  refine Spec.by Try.func85 rfl (by decide) (by decide +kernel) rfl ?_
  (refine goA ?_)
  refine Call.mk (all160c hg) ?_
  rintro d os' ⟨rfl, rfl⟩
  (refine goA ?_)
  exact Ret.mk [.tmp 2] rfl ⟨rfl, rfl⟩
theorem lives79 : Spec Try.prog 79 [] [] (fun d os' => d = .bool true ∧ os' = []) := by
  refine Spec.by Try.func79 rfl (by decide) (by decide +kernel) rfl ?_
  (refine goA ?_)
  refine Call.mk new80c ?_
  rintro d os' ⟨rfl, rfl⟩
  (refine goR ?_)
  refine Pt.weak (Weak.trans Weak.gone Weak.gone) ?_
  (refine goA ?_)
  refine Call.mk give81a ?_
  rintro d os' ⟨rfl, rfl⟩
  (refine goA ?_)
  refine Call.mk give81b ?_
  rintro d os' ⟨a, n, L, ⟨hg, rfl⟩, rfl⟩
  (refine goA ?_)
  refine Call.mk (take84a a n L) ?_
  rintro d os' ⟨rfl, rfl⟩
  (refine goA ?_)
  refine Call.mk (take84b hg) ?_
  rintro d os' ⟨a2, n2, L2, ⟨hg2, rfl⟩, rfl⟩
  (refine goA ?_)
  refine Call.mk (len85c hg2) ?_
  rintro d os' ⟨rfl, rfl⟩
  (refine goA ?_)
  refine Ret.trim 0 (by simp) rfl (Nat.le_of_ble_eq_true rfl) ?_
  refine Ret.mk [.tmp _] rfl ?_; refine And.intro ?_ rfl
  rfl
end Go.Proofs.Ytaplihoeephbeaa.V
end
section
namespace Go.Proofs.Ytaplihoeephbeaa.V
open Go Go.Proofs
set_option maxRecDepth 100000
set_option maxHeartbeats 40000000
theorem clone130t (xs : List Int) (hl : xs.length * 8 ≤ 140737488351232) : Spec Try.prog 130 [.lst 1 true (xs.map (D.int .i64))] [] (fun d os' => d = ints xs ∧ os' = []) := by
  refine Spec.by Try.func130 rfl (by decide) (by decide +kernel) rfl ?_
  (refine goA ?_)
  refine And.intro (fun hn => ?_) (fun hn => And.intro ?_ ?_)
  · (refine goA ?_)
    refine App.own ?_
    (refine goA ?_)
    refine Ret.frz allF [(2, ints xs)] ⟨View.slAll rfl rfl (by simp [setAll]) (by simp) (ViewL.same _) (pureL_map (fun _ => rfl) _), trivial⟩ ?_
    refine Ret.trim 0 (by simp) rfl (Nat.le_of_ble_eq_true rfl) ?_
    refine Ret.mk [.tmp _] rfl ?_; refine And.intro ?_ rfl
    rfl
  · (refine goA ?_)
    refine Ret.frz allF [(2, ints xs)] ⟨by rw [ints, hn]; exact View.nils 1 false, trivial⟩ ?_
    refine Ret.trim 0 (by simp) rfl (Nat.le_of_ble_eq_true rfl) ?_
    refine Ret.mk [.tmp _] rfl ?_; refine And.intro ?_ rfl
    rfl
  · (refine goA ?_)
    refine App.own ?_
    (refine goA ?_)
    refine Ret.frz allF [(2, ints xs)] ⟨View.slAll rfl rfl (by simp [setAll]) (by simp) (ViewL.same _) (pureL_map (fun _ => rfl) _), trivial⟩ ?_
    refine Ret.trim 0 (by simp) rfl (Nat.le_of_ble_eq_true rfl) ?_
    refine Ret.mk [.tmp _] rfl ?_; refine And.intro ?_ rfl
    rfl
theorem clone130p (xs : List Int) (hl : xs.length * 8 ≤ 140737488351232) (hx : xs ≠ []) : Spec Try.prog 130 [ints xs] [] (fun d os' => d = .sl 0 0 1 0 xs.length none ∧ os' = [rowI xs]) := by
  have hm : (xs.map (D.int .i64)) ≠ [] := fun e => hx (List.map_eq_nil_iff.1 e)
  refine Spec.by Try.func130 rfl (by decide) (by decide +kernel) rfl ?_
  (refine goA ?_)
  refine And.intro (fun hn => ?_) (fun hn => absurd hn hm)
  (refine goA ?_)
  refine App.own ?_
  (refine goA ?_)
  refine Ret.weak (Weak.shift 1 0 (by decide) (by simp) (Nat.le_of_ble_eq_true rfl) (Nat.le_of_ble_eq_true rfl) (fun j => by cases j <;> rfl) rfl) ?_
  refine Ret.trim 1 (by simp) rfl (Nat.le_of_ble_eq_true rfl) ?_
  refine Ret.mk [.tmp _] rfl (And.intro ?_ rfl)
  show D.sl 0 0 1 0 (0 + (xs.map (D.int .i64)).length) none = _
  simp
theorem ownL_ints : ∀ (l : List Int), D.ownL (l.map (D.int .i64)) = true
  | [] => rfl
  | v :: l => by
    show ((D.int .i64 v).own && D.ownL (l.map (D.int .i64))) = true
    rw [ownL_ints l]; rfl
theorem list88 (own : Bool) (room : Int) (l : List Int) (hl : l.length ≤ 1000000) (hne : own = true → l ≠ []) : Spec Try.prog 88 [.ptr 0 0 2 0 0] (dqO own room l 1) (fun d os' => d = ints l ∧ os' = dqO own room l 1) := by
  have hlm : (l.map (D.int .i64)).length = l.length := List.length_map ..
  cases own with
  | true =>
    refine Spec.weak (post := fun d os' => d = .sl 2 0 1 0 l.length none ∧ os' = [dqA room l.length 1, rowI l, rowI l]) ?_ (by
      rintro d os' ⟨rfl, rfl⟩
      exact ⟨_, _, Weak.trans (Weak.frzK (fun i => Nat.beq i 2) [(0, ints l)] ⟨View.slAll rfl rfl hlm (by simp) (ViewL.same _) (pureL_map (fun _ => rfl) _), trivial⟩) (Weak.trim 2 (Nat.le_refl _) rfl (Nat.le_of_ble_eq_true rfl)), rfl, rfl⟩)
    refine Spec.by Try.func88 rfl (by decide) (by decide +kernel) rfl ?_
    (refine goA ?_)
    refine Call.mk ((clone130p l (by omega) (hne rfl)).fresh (.cons (View.slAll rfl rfl hlm (by simp) (ViewL.same _) (pureL_map (fun _ => rfl) _)) .nil) rfl (by rintro d os' ⟨rfl, rfl⟩; exact ⟨rfl, fun i j => by
        match i, j with
        | 0, 0 => exact ownL_ints l
        | 0, j + 1 => rfl
        | i + 1, j => cases i <;> cases j <;> rfl⟩)) ?_
    rintro d os' ⟨d1, os1, ⟨rfl, rfl⟩, rfl, rfl⟩
    (refine goA ?_)
    exact Ret.mk [.tmp 2] rfl ⟨rfl, rfl⟩
  | false =>
    refine Spec.by Try.func88 rfl (by decide) (by decide +kernel) rfl ?_
    (refine goA ?_)
    refine Call.mk ((clone130t l (by omega)).only _ rfl (by rintro d rfl; rfl)) ?_
    rintro d os' ⟨rfl, rfl⟩
    (refine goA ?_)
    exact Ret.mk [.tmp 2] rfl ⟨rfl, rfl⟩
end Go.Proofs.Ytaplihoeephbeaa.V
end
section
namespace Go.Proofs.Ytaplihoeephbeaa.V
open Go Go.Proofs
set_option maxRecDepth 100000
/-! The steps between states, with what they ask found where they are used. -/
theorem Weak.on {n0 : Nat} {m : List (Nat × D)} {os : Objs} (sl : List (Nat × D)) (os' : Objs) (ho : os = os' := by kernel_rfl) (h : told m sl := by repeat (first | exact trivial | refine And.intro (by first | rfl | exact congrArg (fun n => D.sl _ _ _ _ n none) List.length_append | exact congrArg _ (by omega)) ?_)) : Weak n0 { m := m, objs := os } { m := sl, objs := os' } := Weak.only sl os' ho h
theorem Pt.on {n0 : Nat} {m : List (Nat × D)} {os : Objs} {K : St → Prop} (sl : List (Nat × D)) (os' : Objs) (hk : Pt n0 { m := sl, objs := os' } K) (ho : os = os' := by kernel_rfl) (h : told m sl := by repeat (first | exact trivial | refine And.intro (by first | rfl | exact congrArg (fun n => D.sl _ _ _ _ n none) List.length_append | exact congrArg _ (by omega)) ?_)) : Pt n0 { m := m, objs := os } K := Pt.weak (Weak.only sl os' ho h) hk
end Go.Proofs.Ytaplihoeephbeaa.V
end
section
namespace Go.Proofs.Ytaplihoeephbeaa.V
open Go Go.Proofs Go.RowKit
theorem at_r (A r : Objs) {i : Nat} (j : Nat) (h : A.length ≤ i) : Objs.at (A ++ r) i j = r.at (i - A.length) j := by
  unfold Objs.at
  simp only [List.getD_eq_getElem?_getD]
  rw [List.getElem?_append_right h]
/-- A callee that keeps to the first objects (families, too) and leaves no other ones, among others behind them. -/
theorem Spec.behind {P : Program} {f : FuncId} {args : List D} {A : Objs} {post : D → Objs → Prop} (h : Spec P f args A post) (r : Objs) (hargs : D.ltL A.length args = true) (hA : ∀ i j, (A.at i j).lt A.length = true)
    (hp : ∀ d os', post d os' → os'.length = A.length) : Spec P f args (A ++ r) (fun d os' => ∃ os1, post d os1 ∧ os' = os1 ++ r) := by
  refine ⟨h.1, fun ρ I w vs sat hr => ?_⟩
  obtain ⟨ρ1, hρ1⟩ : ∃ ρ1 : Pl, ρ1 = fun i j => if i < A.length then ρ i j else none := ⟨_, rfl⟩
  have e1 : ∀ i j, i < A.length → ρ1 i j = ρ i j := fun i j hi => by rw [hρ1]; simp [hi]
  have e0 : ∀ i j, A.length ≤ i → ρ1 i j = none := fun i j hi => by rw [hρ1]; simp [Nat.not_lt.2 hi]
  have ea : ∀ i j, i < A.length → (A ++ r).at i j = A.at i j := fun i j hi => at_lt _ _ _ hi
  have sat1 : Sat ρ1 I A w := by
    refine ⟨sat.im, fun i j hne => ?_, fun i j i' j' p p' hne hne' hp hp' hpos hpos' he => ?_, ?_, fun i j hi => e0 i j hi⟩
    · have hi := lt_of_at hne
      obtain ⟨p, hp, hok⟩ := sat.ok i j (by rw [ea i j hi]; exact hne)
      rw [ea i j hi] at hok
      exact ⟨p, by rw [e1 i j hi]; exact hp, objOk_lt' e1 (hA i j) hok⟩
    · have hi := lt_of_at hne
      have hi' := lt_of_at hne'
      rw [e1 _ _ hi] at hp
      rw [e1 _ _ hi'] at hp'
      exact sat.inj i j i' j' p p' (by rw [ea i j hi]; exact hne) (by rw [ea i' j' hi']; exact hne') hp hp' hpos hpos' he
    · rintro b ⟨i, j, p, hne, hp, hpos, rfl⟩
      have hi := lt_of_at hne
      rw [e1 _ _ hi] at hp
      exact sat.apart _ ⟨i, j, p, by rw [ea i j hi]; exact hne, hp, hpos, rfl⟩
  have hfoot1 : ∀ b, foot ρ1 A b → foot ρ (A ++ r) b := by
    rintro b ⟨i, j, p, hne, hp, hpos, rfl⟩
    have hi := lt_of_at hne
    rw [e1 _ _ hi] at hp
    exact ⟨i, j, p, by rw [ea i j hi]; exact hne, hp, hpos, rfl⟩
  have hr1 : repL ρ1 I args vs := repL_lt e1 args vs hargs hr
  refine (h.2 ρ1 I w vs sat1 hr1).mono ?_
  rintro e w' ⟨v, d, os1, ρ2, I', rfl, hpost, sat2, fr2, hrv⟩
  have hlen := hp _ _ hpost
  have hle : ρ2.le ρ := by
    intro i j p hp
    rcases Nat.lt_or_ge i A.length with hi | hi
    · rw [fr2.same i j hi, e1 i j hi] at hp; exact hp
    · rw [sat2.dom i j (by omega)] at hp; cases hp
  have ea2 : ∀ i j, i < A.length → (os1 ++ r).at i j = os1.at i j := fun i j hi => at_lt _ _ _ (by omega)
  have er2 : ∀ i j, A.length ≤ i → (os1 ++ r).at i j = (A ++ r).at i j := fun i j hi => by rw [at_r _ _ _ (by omega), at_r _ _ _ hi, hlen]
  have e2 : ∀ i j, i < A.length → ρ i j = ρ2 i j := fun i j hi => by rw [fr2.same i j hi, e1 i j hi]
  have nofoot : ∀ i j p, A.length ≤ i → (A ++ r).at i j ≠ .gone → ρ i j = some p → 0 < p.2 → ¬ foot ρ1 A p.1 := by
    rintro i j p hi hne hp hpos ⟨i', j', p', hne', hp', hpos', he⟩
    have hi' := lt_of_at hne'
    rw [e1 _ _ hi'] at hp'
    have := sat.inj i' j' i j p' p (by rw [ea i' j' hi']; exact hne') hne hp' hp hpos' hpos he
    omega
  have cross : ∀ i j p i' j' p', i < A.length → os1.at i j ≠ .gone → ρ i j = some p → 0 < p.2 → A.length ≤ i' → (A ++ r).at i' j' ≠ .gone → ρ i' j' = some p' → 0 < p'.2 → p.1 = p'.1 → False := by
    intro i j p i' j' p' hi hne hp hpos hi' hne' hp' hpos' he
    rcases fr2.obnew p.1 ⟨i, j, p, hne, by rw [← e2 i j hi]; exact hp, hpos, rfl⟩ with h' | h'
    · exact nofoot i' j' p' hi' hne' hp' hpos' (he ▸ h')
    · have := sat.foot_lt ⟨i', j', p', hne', hp', hpos', rfl⟩
      omega
  have sat' : Sat ρ I' (os1 ++ r) w' := by
    refine ⟨sat2.im, fun i j hne => ?_, fun i j i' j' p p' hne hne' hp hp' hpos hpos' he => ?_, ?_, fun i j hi => ?_⟩
    · rcases Nat.lt_or_ge i A.length with hi | hi
      · rw [ea2 i j hi] at hne ⊢
        obtain ⟨p, hp, hok⟩ := sat2.ok i j hne
        exact ⟨p, hle _ _ _ hp, objOk_mono hle (Im.le_refl _) (fun _ => rfl) hok⟩
      · rw [er2 i j hi] at hne ⊢
        obtain ⟨p, hp, hok⟩ := sat.ok i j hne
        exact ⟨p, hp, objOk_mono (Pl.le_refl _) fr2.imle (fun hpos => fr2.kept p.1 (objOk_lt hne hpos hok) (nofoot i j p hi hne hp hpos)) hok⟩
    · rcases Nat.lt_or_ge i A.length with hi | hi <;> rcases Nat.lt_or_ge i' A.length with hi' | hi'
      · rw [ea2 i j hi] at hne
        rw [ea2 i' j' hi'] at hne'
        exact sat2.inj i j i' j' p p' hne hne' (by rw [← e2 i j hi]; exact hp) (by rw [← e2 i' j' hi']; exact hp') hpos hpos' he
      · rw [ea2 i j hi] at hne
        rw [er2 i' j' hi'] at hne'
        exact (cross i j p i' j' p' hi hne hp hpos hi' hne' hp' hpos' he).elim
      · rw [er2 i j hi] at hne
        rw [ea2 i' j' hi'] at hne'
        exact (cross i' j' p' i j p hi' hne' hp' hpos' hi hne hp hpos he.symm).elim
      · rw [er2 i j hi] at hne
        rw [er2 i' j' hi'] at hne'
        exact sat.inj i j i' j' p p' hne hne' hp hp' hpos hpos' he
    · rintro b ⟨i, j, p, hne, hp, hpos, rfl⟩
      rcases Nat.lt_or_ge i A.length with hi | hi
      · rw [ea2 i j hi] at hne
        exact sat2.apart _ ⟨i, j, p, hne, by rw [← e2 i j hi]; exact hp, hpos, rfl⟩
      · rw [er2 i j hi] at hne
        have hfa : foot ρ (A ++ r) p.1 := ⟨i, j, p, hne, hp, hpos, rfl⟩
        cases hb : I' p.1 with
        | none => rfl
        | some o =>
          exfalso
          rcases fr2.imnew p.1 (by rw [hb]; simp) with h' | h' | h'
          · exact h' (sat.apart _ hfa)
          · exact nofoot i j p hi hne hp hpos h'
          · have := sat.foot_lt hfa
            omega
    · exact sat.dom i j (by rw [List.length_append] at hi ⊢; omega)
  refine ⟨v, d, os1 ++ r, ρ, I', rfl, ⟨os1, hpost, rfl⟩, sat', ⟨fr2.wos, fr2.tape, fr2.output, fr2.size, fun b hb hf => fr2.kept b hb (fun h' => hf (hfoot1 b h')), by rw [List.length_append, List.length_append]; omega, fun _ _ _ => rfl, fr2.imle, fun b hb => ?_, fun b hb => ?_⟩, rep_mono hle (Im.le_refl _) d v hrv⟩
  · rcases fr2.imnew b hb with h' | h' | h'
    · exact .inl h'
    · exact .inr (.inl (hfoot1 b h'))
    · exact .inr (.inr h')
  · obtain ⟨i, j, p, hne, hp, hpos, rfl⟩ := hb
    rcases Nat.lt_or_ge i A.length with hi | hi
    · rw [ea2 i j hi] at hne
      rcases fr2.obnew p.1 ⟨i, j, p, hne, by rw [← e2 i j hi]; exact hp, hpos, rfl⟩ with h' | h'
      · exact .inl (hfoot1 _ h')
      · exact .inr h'
    · rw [er2 i j hi] at hne
      exact .inl ⟨i, j, p, hne, hp, hpos, rfl⟩
/-- Names are changed: ψ tells of each new name which one it was, φ the new name of each old one. -/
theorem Weak.rens {n0 : Nat} {m : List (Nat × D)} {os os' : Objs} (ψ φ : Nat → Nat → Nat × Nat) (h0 : ∀ i j, i < n0 → ψ i j = (i, j)) (h1 : ∀ i j, ψ (φ i j).1 (φ i j).2 = (i, j)) (h2 : ∀ i j, os'.at i j ≠ .gone → φ (ψ i j).1 (ψ i j).2 = (i, j))
    (hd : ∀ i j, os'.length ≤ i → os.length ≤ (ψ i j).1) (hl : n0 ≤ os'.length) (hat : ∀ i j, os'.at i j ≠ .gone → os'.at i j = (os.at (ψ i j).1 (ψ i j).2).mapId φ) : Weak n0 { m := m, objs := os } { m := mapM φ m, objs := os' } := by
  intro ρ I w tm g1 g2 g3
  obtain ⟨ρ', hρ'⟩ : ∃ ρ' : Pl, ρ' = fun i j => ρ (ψ i j).1 (ψ i j).2 := ⟨_, rfl⟩
  have up : ∀ k j p, ρ k j = some p → ρ' (φ k j).1 (φ k j).2 = some p := by
    intro k j p hp
    rw [hρ']
    simp only
    rw [h1]
    exact hp
  have old : ∀ i j, os'.at i j ≠ .gone → os.at (ψ i j).1 (ψ i j).2 ≠ .gone := fun i j hn he => by
    have := hat i j hn
    rw [he] at this; exact hn this
  have hfoot : ∀ c, foot ρ' os' c → foot ρ os c := by
    rintro c ⟨i, j, p, hne, hp, hpos, rfl⟩
    exact ⟨_, _, p, old i j hne, by rw [hρ'] at hp; exact hp, hpos, rfl⟩
  refine ⟨ρ', I, ⟨g1.im, fun i j hne => ?_, fun i j i' j' p p' hne hne' hp hp' hpos hpos' he => ?_, fun c hc => g1.apart c (hfoot c hc), fun i j hi => ?_⟩, fun i => ?_, Im.le_refl _, hl, fun i j hi => ?_, fun _ h => .inl h, hfoot⟩
  · obtain ⟨p, hp, hok⟩ := g1.ok _ _ (old i j hne)
    refine ⟨p, by rw [hρ']; exact hp, ?_⟩
    show objOk ρ' I w p (os'.at i j)
    rw [hat i j hne]
    exact obj_up up hok
  · rw [hρ'] at hp hp'
    have := g1.inj _ _ _ _ p p' (old i j hne) (old i' j' hne') hp hp' hpos hpos' he
    have e := h2 i j hne
    rw [this.1, this.2, h2 i' j' hne'] at e
    injection e with e1 e2
    exact ⟨e1.symm, e2.symm⟩
  · rw [hρ']
    exact g1.dom _ _ (hd i j hi)
  · simp only [St.get]
    rw [look_mapM]
    exact rep_up up _ _ (g2 i)
  · rw [hρ']
    simp only
    rw [h0 i j hi]
/-- The objects from number n on are left (families, too). -/
theorem Weak.takeF {n0 : Nat} {m : List (Nat × D)} {os : Objs} (n : Nat) (hn : n0 ≤ n) (hm : (m.all fun p => p.2.lt n) = true) (hol : ∀ i j, i < n → (os.at i j).lt n = true) (hl : n ≤ os.length) : Weak n0 { m := m, objs := os } { m := m, objs := os.take n } := by
  intro ρ I w tm h1 h2 h3
  obtain ⟨ρ', hρ'⟩ : ∃ ρ' : Pl, ρ' = fun i j => if i < n then ρ i j else none := ⟨_, rfl⟩
  have e1 : ∀ i j, i < n → ρ' i j = ρ i j := fun i j h => by rw [hρ']; simp [h]
  have hlt : ∀ i j, Objs.at (os.take n) i j ≠ .gone → i < n ∧ Objs.at (os.take n) i j = os.at i j := by
    intro i j hne
    rw [at_take] at hne ⊢
    split at hne
    · rename_i h; exact ⟨h, by rw [if_pos h]⟩
    · exact absurd rfl hne
  have hfoot : ∀ c, foot ρ' (os.take n) c → foot ρ os c := by
    rintro c ⟨i, j, p, hne, hp, hpos, rfl⟩
    obtain ⟨hi, he⟩ := hlt i j hne
    rw [he] at hne
    exact ⟨i, j, p, hne, by rw [← e1 i j hi]; exact hp, hpos, rfl⟩
  refine ⟨ρ', I, ⟨h1.im, fun i j hne => ?_, ?_, fun c hc => h1.apart c (hfoot c hc), fun i j hi => ?_⟩, fun i => rep_lt e1 _ _ (look_lt i hm) (h2 i), Im.le_refl _, by simp; omega, fun i j hi => e1 i j (by omega), fun _ h => .inl h, hfoot⟩
  · obtain ⟨hi, he⟩ := hlt i j hne
    rw [he] at hne ⊢
    obtain ⟨p, hp, hok⟩ := h1.ok i j hne
    exact ⟨p, by rw [e1 i j hi]; exact hp, objOk_lt' e1 (hol i j hi) hok⟩
  · intro i j i' j' p p' hne hne' hp hp' hpos hpos' he
    obtain ⟨hi, e⟩ := hlt i j hne
    obtain ⟨hi', e'⟩ := hlt i' j' hne'
    rw [e] at hne
    rw [e'] at hne'
    rw [e1 i j hi] at hp
    rw [e1 i' j' hi'] at hp'
    exact h1.inj i j i' j' p p' hne hne' hp hp' hpos hpos' he
  · have : n ≤ i := by simp at hi; omega
    rw [hρ']
    simp only
    rw [if_neg (by omega)]
mutual
theorem mapId_lt {n : Nat} {φ : Nat → Nat → Nat × Nat} (h : ∀ i j, i < n → φ i j = (i, j)) : ∀ (d : D), d.lt n = true → d.mapId φ = d
  | .int _ _, _ | .bool _, _ | .str _, _ | .nilp, _ | .nils, _ | .nilf, _ | .junk, _ | .pel .., _ | .lst .., _ => rfl
  | .ptr i j sz e off, hl | .sl i j sz lo len cap, hl | .mp i j, hl | .yl i j, hl => by
    have hi : i < n := Nat.le_of_ble_eq_true hl
    simp only [D.mapId, h i j hi]
  | .agg cs, hl => by simp only [D.mapId, mapIdL_lt h cs (by simpa [D.lt] using hl)]
  | .tup cs, hl => by simp only [D.mapId, mapIdL_lt h cs (by simpa [D.lt] using hl)]
  | .fn f a b, hl => by
    have hl' : D.ltL n a = true ∧ D.ltL n b = true := by simpa [D.lt] using hl
    simp only [D.mapId, mapIdL_lt h a hl'.1, mapIdL_lt h b hl'.2]
theorem mapIdL_lt {n : Nat} {φ : Nat → Nat → Nat × Nat} (h : ∀ i j, i < n → φ i j = (i, j)) : ∀ (ds : List D), D.ltL n ds = true → D.mapIdL φ ds = ds
  | [], _ => rfl
  | d :: ds, hl => by
    have hl' : d.lt n = true ∧ D.ltL n ds = true := by simpa [D.ltL] using hl
    simp only [D.mapIdL, mapId_lt h d hl'.1, mapIdL_lt h ds hl'.2]
end
theorem mapIdN_lt {n : Nat} {φ : Nat → Nat → Nat × Nat} {α : Type} (h : ∀ i j, i < n → φ i j = (i, j)) : ∀ (es : List (α × D)), D.ltL n (es.map (·.2)) = true → es.map (fun p => (p.1, p.2.mapId φ)) = es
  | [], _ => rfl
  | (x, d) :: es, hl => by
    have hl' : d.lt n = true ∧ D.ltL n (es.map (·.2)) = true := by simpa [D.ltL] using hl
    simp only [List.map_cons, mapId_lt h d hl'.1, mapIdN_lt h es hl'.2]
theorem mapO_lt {n : Nat} {φ : Nat → Nat → Nat × Nat} (h : ∀ i j, i < n → φ i j = (i, j)) (o : O) (hl : o.lt n = true) : o.mapId φ = o := by
  cases o with
  | gone => rfl
  | row t sz p es => cases p with
    | true => rfl
    | false => simp only [O.mapId, mapIdL_lt h es hl]
  | map es => simp only [O.mapId, mapIdN_lt h es hl]
  | loop r st pe sl => simp only [O.mapId, mapIdN_lt h sl hl]
def swq (a b i j : Nat) : Nat × Nat := if i = a then (b, j) else if i = b then (a, j) else (i, j)
theorem swq_swq (a b i j : Nat) : swq a b (swq a b i j).1 (swq a b i j).2 = (i, j) := by
  unfold swq
  by_cases h1 : i = a
  · subst h1
    rw [if_pos rfl]
    by_cases h2 : b = i
    · subst h2; simp
    · simp [h2]
  · rw [if_neg h1]
    by_cases h2 : i = b
    · subst h2; simp
    · rw [if_neg h2]; simp [h1, h2]
/-- Two objects behind the first ones (families, too) change places. -/
theorem Weak.swapR {n0 : Nat} {mm : List (Nat × D)} {A r r' : Objs} (a b : Nat) (hA : ∀ i j, (A.at i j).lt A.length = true) (h0 : n0 ≤ A.length) (ha : A.length ≤ a ∧ a < A.length + r.length) (hb : A.length ≤ b ∧ b < A.length + r.length) (hl : r'.length = r.length)
    (hr : ∀ i j, i < r.length → r'.at i j = ((A ++ r).at (swq a b (i + A.length) j).1 (swq a b (i + A.length) j).2).mapId (swq a b)) : Weak n0 { m := mm, objs := A ++ r } { m := mapM (swq a b) mm, objs := A ++ r' } := by
  have hs : ∀ i j, i < A.length → swq a b i j = (i, j) := fun i j hi => by unfold swq; rw [if_neg (by omega), if_neg (by omega)]
  have hd : ∀ i j, A.length + r.length ≤ i → swq a b i j = (i, j) := fun i j hi => by unfold swq; rw [if_neg (by omega), if_neg (by omega)]
  refine Weak.rens (swq a b) (swq a b) (fun i j hi => hs i j (by omega)) (swq_swq a b) (fun i j _ => swq_swq a b i j) (fun i j hi => ?_) (by rw [List.length_append]; omega) (fun i j hne => ?_)
  · rw [List.length_append] at hi
    rw [hd i j (by omega), List.length_append]
    show A.length + r.length ≤ i
    omega
  · rcases Nat.lt_or_ge i A.length with hi | hi
    · rw [hs i j hi]
      dsimp only
      rw [at_lt _ _ _ hi, at_lt _ _ _ hi, mapO_lt hs _ (hA i j)]
    · have hi2 : i < A.length + r.length := by have := lt_of_at hne; rw [List.length_append] at this; omega
      rw [at_r _ _ _ hi, hr (i - A.length) j (by omega), show i - A.length + A.length = i by omega]
end Go.Proofs.Ytaplihoeephbeaa.V
end
section
namespace Go.Proofs.Ytaplihoeephbeaa.V
open Go Go.Proofs
set_option maxRecDepth 100000
set_option maxHeartbeats 40000000
/-- A deque's cell: its things lie in the row j of the family 3, or are only read. -/
def cellF (m : Int) (st : List (Bool × List Int)) (j : Nat) : O := match st[j]? with
  | none => .gone
  | some (true, l) => .row 201 2 false [.agg [.int .i64 m, .sl 3 j 1 0 l.length none]]
  | some (false, l) => .row 201 2 false [.agg [.int .i64 m, .lst 1 true (l.map (D.int .i64))]]
def rwF (st : List (Bool × List Int)) (j : Nat) : O := match st[j]? with
  | some (true, l) => .row 3 1 true (l.map (D.int .i64))
  | _ => .gone
def ptrs (n : Nat) : List D := (List.range n).map fun j => .ptr 2 j 2 0 0
/-- The global queue: how many rings are dead; is one alive; that one. -/
structure Gl where
  k : Nat
  c : Bool
  a : Int
  n : Int
  L : List Int
@[reducible] def poC (n : Nat) (g : Gl) (q : Nat) : Fam := one (.row 114 2 false [.agg [.sl q 0 1 g.k (bif g.c then 1 else 0) none, .sl 1 0 1 0 n none]])
@[reducible] def poP (n : Nat) : Fam := one (.row 102 1 false (ptrs n))
def poRo (g : Gl) (q : Nat) : O := .row 56 1 false (bif g.c then List.replicate g.k .junk ++ [.ptr q 0 4 0 0] else List.replicate g.k .junk)
def poRi (g : Gl) (r : Nat) : O := bif g.c then .row 176 4 false [.agg [.int .i64 1024, .int .i64 g.a, .sl r 0 1 0 g.L.length none, .int .i64 g.n]] else .gone
def poRw (g : Gl) : O := bif g.c then .row 3 1 true (g.L.map (D.int .i64)) else .gone
/-- A pool's objects, in order. -/
@[reducible] def poO (m : Int) (st : List (Bool × List Int)) (g : Gl) : Objs := [poC st.length g 4, poP st.length, .fam (cellF m st), .fam (rwF st), one (poRo g 5), one (poRi g 6), one (poRw g)]
/-- The same, with a ring that lives; with none. -/
@[reducible] def poT (m : Int) (st : List (Bool × List Int)) (k : Nat) (a n : Int) (L : List Int) : Objs := [one (.row 114 2 false [.agg [.sl 4 0 1 k 1 none, .sl 1 0 1 0 st.length none]]), poP st.length, .fam (cellF m st), .fam (rwF st), one (.row 56 1 false (List.replicate k .junk ++ [.ptr 5 0 4 0 0])), rgC 1024 a n L.length 6, rowI L]
@[reducible] def poE (m : Int) (st : List (Bool × List Int)) (k : Nat) : Objs := [one (.row 114 2 false [.agg [.sl 4 0 1 k 0 none, .sl 1 0 1 0 st.length none]]), poP st.length, .fam (cellF m st), .fam (rwF st), one (.row 56 1 false (List.replicate k .junk)), one .gone, one .gone]
/-- One deque's row is a new one (w). -/
def cellU (m : Int) (st : List (Bool × List Int)) (w : Option Nat) (j : Nat) : O := if w = some j then .row 201 2 false [.agg [.int .i64 m, .sl 7 0 1 0 (st.getD j (true, [])).2.length none]] else cellF m st j
def rowU (st : List (Bool × List Int)) (w : Option Nat) (j : Nat) : O := if w = some j then .gone else rwF st j
def rowW (st : List (Bool × List Int)) (w : Option Nat) : O := match w with
  | none => .gone
  | some j => .row 3 1 true ((st.getD j (true, [])).2.map (D.int .i64))
/-- A pool's objects behind a deed: the global queue's lie behind, and perhaps one deque's row. -/
@[reducible] def poU (m : Int) (st : List (Bool × List Int)) (g : Gl) (w : Option Nat) : Objs := [poC st.length g 8, poP st.length, .fam (cellU m st w), .fam (rowU st w), one .gone, one .gone, one .gone, one (rowW st w), one (poRo g 9), one (poRi g 10), one (poRw g)]
structure PoOk (b : Nat) (m : Int) (st : List (Bool × List Int)) (g : Gl) (G : List Int) : Prop where
  r : 1 ≤ m ∧ m ≤ 8
  n : 1 ≤ st.length ∧ st.length ≤ 64
  l : ∀ s ∈ st, (s.2.length : Int) ≤ m
  t : g.c = true → Rg 1024 g.a g.n g.L G
  f : g.c = false → G = []
  k : g.k ≤ b
  G : G.length ≤ b
theorem ptrs_len (n : Nat) : (ptrs n).length = n := by simp [ptrs]
theorem ptrs_get {n w : Nat} (h : w < n) : (ptrs n)[w]? = some (.ptr 2 w 2 0 0) := by
  unfold ptrs
  rw [List.getElem?_map, List.getElem?_range h]; rfl
theorem ptrs_get0 {n w : Nat} (h : w < n) : (ptrs n)[0 + w]? = some (.ptr 2 w 2 0 0) := by rw [Nat.zero_add]; exact ptrs_get h
theorem ptrs_lt (b : Nat) (hb : Nat.blt 2 b = true) (n : Nat) : D.ltL b (ptrs n) = true := by
  unfold ptrs
  induction List.range n with
  | nil => rfl
  | cons x l ih => simp [D.ltL, D.lt, hb, ih]
theorem ptrs_map (φ : Nat → Nat → Nat × Nat) (h : ∀ j, φ 2 j = (2, j)) (n : Nat) : D.mapIdL φ (ptrs n) = ptrs n := by
  unfold ptrs
  induction List.range n with
  | nil => rfl
  | cons x l ih => simp [D.mapIdL, D.mapId, h, ih]
theorem junk_lt (b k : Nat) : D.ltL b (List.replicate k .junk) = true := by
  induction k with
  | zero => rfl
  | succ k ih => simp [List.replicate_succ, D.ltL, D.lt, ih]
theorem cellF_some {m : Int} {st : List (Bool × List Int)} {j : Nat} {o : Bool} {l : List Int} (h : st[j]? = some (o, l)) : cellF m st j = bif o then .row 201 2 false [.agg [.int .i64 m, .sl 3 j 1 0 l.length none]] else .row 201 2 false [.agg [.int .i64 m, .lst 1 true (l.map (D.int .i64))]] := by
  unfold cellF; rw [h]; cases o <;> rfl
theorem rwF_some {st : List (Bool × List Int)} {j : Nat} {o : Bool} {l : List Int} (h : st[j]? = some (o, l)) : rwF st j = bif o then .row 3 1 true (l.map (D.int .i64)) else .gone := by
  unfold rwF; rw [h]; cases o <;> rfl
/-- A deque's contract, at the place w of a pool. -/
theorem dq_pool {f : FuncId} {args : List D} {m : Int} {st : List (Bool × List Int)} {g : Gl} {w : Nat} {o : Bool} {l : List Int} {post : D → Objs → Prop} (hw : st[w]? = some (o, l)) (h : Spec Try.prog f (.ptr 0 0 2 0 0 :: args) (dqO o m l 1) post) (hargs : D.pureL args = true) :
    Spec Try.prog f (.ptr 2 w 2 0 0 :: args) (poO m st g) (fun d os' => ∃ d1 os1, post d1 os1 ∧ d = d1.mapId (lead [(2, w), (3, w)] 7) ∧ os' = merge [(2, w), (3, w)] (poO m st g) os1) := by
  have e : D.mapIdL (lead [(2, w), (3, w)] (poO m st g).length) (.ptr 0 0 2 0 0 :: args) = .ptr 2 w 2 0 0 :: args := by
    simp only [D.mapIdL, D.mapId, lead, mapIdL_pure _ _ hargs]
    rfl
  have hs : D.sglL 2 (.ptr 0 0 2 0 0 :: args) = true := by simp [D.sglL, D.sgl, sglL_pure _ _ hargs]
  have hc := cellF_some (m := m) hw
  have hr := rwF_some hw
  rw [← e]
  cases o with
  | true =>
    refine h.frame (poO m st g) [(2, w), (3, w)] rfl (by simp) (fun i p hp => ?_) hs
    match i, hp with
    | 0, hp =>
      simp at hp; subst hp
      exact ⟨Nat.le_of_ble_eq_true rfl, hc, rfl, fun j hj => one_pos _ hj⟩
    | 1, hp =>
      simp at hp; subst hp
      exact ⟨Nat.le_of_ble_eq_true rfl, hr, rfl, fun j hj => one_pos _ hj⟩
    | i + 2, hp => simp at hp
  | false =>
    refine h.frame (poO m st g) [(2, w), (3, w)] rfl (by simp) (fun i p hp => ?_) hs
    match i, hp with
    | 0, hp =>
      simp at hp; subst hp
      exact ⟨Nat.le_of_ble_eq_true rfl, hc, rfl, fun j hj => one_pos _ hj⟩
    | 1, hp =>
      simp at hp; subst hp
      exact ⟨Nat.le_of_ble_eq_true rfl, hr, rfl, fun j hj => one_pos _ hj⟩
    | i + 2, hp => simp at hp
/-- What a put leaves, of a family. -/
theorem putF {f f' : Nat → O} (w : Nat) (o : O) (h : ∀ j, (if j = w then o else f j) = f' j) : (Fam.fam f).put w o = .fam f' := by
  show Fam.fam _ = _
  exact congrArg Fam.fam (funext h)
theorem cellF_same {m : Int} {st : List (Bool × List Int)} {w : Nat} {o : O} (h : cellF m st w = o) : ∀ j, (if j = w then o else cellF m st j) = cellF m st j := by
  intro j
  split
  · rename_i e; rw [e, h]
  · rfl
theorem rwF_same {st : List (Bool × List Int)} {w : Nat} {o : O} (h : rwF st w = o) : ∀ j, (if j = w then o else rwF st j) = rwF st j := by
  intro j
  split
  · rename_i e; rw [e, h]
  · rfl
/-- A deque of a pool is only looked at. -/
theorem dq_poolL {f : FuncId} {args : List D} {m : Int} {st : List (Bool × List Int)} {g : Gl} {w : Nat} {o : Bool} {l : List Int} {post : D → Prop} (hw : st[w]? = some (o, l)) (h : Spec Try.prog f (.ptr 0 0 2 0 0 :: args) (dqO o m l 1) (fun d os' => post d ∧ os' = dqO o m l 1)) (hargs : D.pureL args = true) (hp : ∀ d, post d → d.pure = true) :
    Spec Try.prog f (.ptr 2 w 2 0 0 :: args) (poO m st g) (fun d os' => post d ∧ os' = poO m st g) := by
  refine (dq_pool hw h hargs).mono ?_
  rintro d os' ⟨d1, os1, ⟨hpd, rfl⟩, rfl, rfl⟩
  refine ⟨by rw [mapId_pure _ _ (hp _ hpd)]; exact hpd, ?_⟩
  have hc := cellF_some (m := m) hw
  have hr := rwF_some hw
  cases o with
  | true =>
    dsimp only [cond_true] at hc hr
    show [poC st.length g 4, poP st.length, (Fam.fam (cellF m st)).put w (.row 201 2 false [.agg [.int .i64 m, .sl 3 w 1 0 l.length none]]), (Fam.fam (rwF st)).put w (.row 3 1 true (l.map (D.int .i64))), one (poRo g 5), one (poRi g 6), one (poRw g)] = _
    rw [putF w _ (cellF_same hc), putF w _ (rwF_same hr)]
  | false =>
    dsimp only [cond_false] at hc hr
    show [poC st.length g 4, poP st.length, (Fam.fam (cellF m st)).put w (.row 201 2 false [.agg [.int .i64 m, .lst 1 true (l.map (D.int .i64))]]), (Fam.fam (rwF st)).put w .gone, one (poRo g 5), one (poRi g 6), one (poRw g)] = _
    rw [putF w _ (cellF_same hc), putF w _ (rwF_same hr)]
theorem set_ne {st : List (Bool × List Int)} {w j : Nat} {x : Bool × List Int} (h : j ≠ w) : (st.set w x)[j]? = st[j]? := List.getElem?_set_ne (fun e => h e.symm)
theorem set_eq {st : List (Bool × List Int)} {w : Nat} {x y : Bool × List Int} (h : st[w]? = some y) : (st.set w x)[w]? = some x := List.getElem?_set_self (List.getElem?_eq_some_iff.1 h).1
theorem cellF_set {m : Int} {st : List (Bool × List Int)} {w : Nat} {y : Bool × List Int} (l : List Int) (h : st[w]? = some y) : ∀ j, (if j = w then .row 201 2 false [.agg [.int .i64 m, .lst 1 true (l.map (D.int .i64))]] else cellF m st j) = cellF m (st.set w (false, l)) j := by
  intro j
  split
  · rename_i e; subst e; rw [cellF_some (set_eq h)]; rfl
  · rename_i e; unfold cellF; rw [set_ne e]
theorem rwF_set {st : List (Bool × List Int)} {w : Nat} {y : Bool × List Int} (l : List Int) (h : st[w]? = some y) : ∀ j, (if j = w then .gone else rwF st j) = rwF (st.set w (false, l)) j := by
  intro j
  split
  · rename_i e; subst e; rw [rwF_some (set_eq h)]; rfl
  · rename_i e; unfold rwF; rw [set_ne e]
theorem getD_sets {st : List (Bool × List Int)} {w : Nat} {x y : Bool × List Int} (h : st[w]? = some y) : (st.set w x).getD w (true, []) = x := by
  rw [List.getD_eq_getElem?_getD, set_eq h]; rfl
theorem cellU_set {m : Int} {st : List (Bool × List Int)} {w : Nat} {y : Bool × List Int} (l : List Int) (h : st[w]? = some y) {n : Nat} (hn : n = l.length) : ∀ j, (if j = w then .row 201 2 false [.agg [.int .i64 m, .sl 7 0 1 0 n none]] else cellF m st j) = cellU m (st.set w (true, l)) (some w) j := by
  intro j
  unfold cellU
  by_cases e : j = w
  · subst e; rw [if_pos rfl, if_pos rfl, getD_sets h, hn]
  · rw [if_neg e, if_neg (fun he => e (Option.some.inj he).symm)]; unfold cellF; rw [set_ne e]
theorem rowU_set {st : List (Bool × List Int)} {w : Nat} {y : Bool × List Int} (l : List Int) (h : st[w]? = some y) : ∀ j, (if j = w then .gone else rwF st j) = rowU (st.set w (true, l)) (some w) j := by
  intro j
  unfold rowU
  by_cases e : j = w
  · subst e; rw [if_pos rfl, if_pos rfl]
  · rw [if_neg e, if_neg (fun he => e (Option.some.inj he).symm)]; unfold rwF; rw [set_ne e]
/-- A number is pushed at the place w. -/
theorem push_pool {m : Int} {st : List (Bool × List Int)} {g : Gl} {w : Nat} {o : Bool} {l : List Int} (hw : st[w]? = some (o, l)) (hm : 1 ≤ m ∧ m ≤ 8) (hl : (l.length : Int) < m) (v : Int) : Spec Try.prog 74 [.ptr 2 w 2 0 0, .int .i64 v] (poO m st g)
    (fun d os' => d = .int .i64 0 ∧ os' = [poC st.length g 4, poP st.length, .fam (cellU m (st.set w (true, l ++ [v])) (some w)), .fam (rowU (st.set w (true, l ++ [v])) (some w)), one (poRo g 5), one (poRi g 6), one (poRw g), rowI (l ++ [v])]) := by
  refine (dq_pool hw (push74 o m l v (by omega) (by omega)) rfl).mono ?_
  rintro d os' ⟨d1, os1, ⟨rfl, rfl⟩, rfl, rfl⟩
  have e : pushC m l v = (0, l ++ [v]) := by unfold pushC; rw [if_neg (by omega)]
  rw [if_neg (by omega), e]
  refine ⟨rfl, ?_⟩
  show [poC st.length g 4, poP st.length, (Fam.fam (cellF m st)).put w (.row 201 2 false [.agg [.int .i64 m, .sl 7 0 1 0 (l.length + 1) none]]), (Fam.fam (rwF st)).put w .gone, one (poRo g 5), one (poRi g 6), one (poRw g), rowI (l ++ [v])] = _
  rw [putF w _ (cellU_set (l ++ [v]) hw (by simp)), putF w _ (rowU_set (l ++ [v]) hw)]
theorem pushF_pool {m : Int} {st : List (Bool × List Int)} {g : Gl} {w : Nat} {o : Bool} {l : List Int} (hw : st[w]? = some (o, l)) (hm : 1 ≤ m ∧ m ≤ 8) (hl : (l.length : Int) = m) (v : Int) : Spec Try.prog 74 [.ptr 2 w 2 0 0, .int .i64 v] (poO m st g) (fun d os' => d = .int .i64 6 ∧ os' = poO m st g) := by
  have h := push74 o m l v (by omega) (by omega)
  have e : pushC m l v = (6, l) := by unfold pushC; rw [if_pos (by omega)]
  rw [e] at h
  refine dq_poolL hw (post := fun d => d = .int .i64 6) (h.mono ?_) rfl (by rintro d rfl; rfl)
  rintro d os' ⟨rfl, rfl⟩
  exact ⟨rfl, by rw [if_pos hl]⟩
/-- What a deque of a pool comes to, that is only read from now on. -/
theorem dqB_pool {m : Int} {st : List (Bool × List Int)} {g : Gl} {w : Nat} {o : Bool} {l s : List Int} (hw : st[w]? = some (o, l)) : merge [(2, w), (3, w)] (poO m st g) [dqB m s, one .gone] = poO m (st.set w (false, s)) g := by
  show [poC st.length g 4, poP st.length, (Fam.fam (cellF m st)).put w (.row 201 2 false [.agg [.int .i64 m, .lst 1 true (s.map (D.int .i64))]]), (Fam.fam (rwF st)).put w .gone, one (poRo g 5), one (poRi g 6), one (poRw g)] = _
  rw [putF w _ (cellF_set s hw), putF w _ (rwF_set s hw)]
  unfold poO
  rw [List.length_set]
theorem dqS_pool {m : Int} {st : List (Bool × List Int)} {g : Gl} {w : Nat} {o : Bool} {l : List Int} (hw : st[w]? = some (o, l)) : merge [(2, w), (3, w)] (poO m st g) (dqO o m l 1) = poO m st g := by
  have hc := cellF_some (m := m) hw
  have hr := rwF_some hw
  cases o with
  | true =>
    dsimp only [cond_true] at hc hr
    show [poC st.length g 4, poP st.length, (Fam.fam (cellF m st)).put w (.row 201 2 false [.agg [.int .i64 m, .sl 3 w 1 0 l.length none]]), (Fam.fam (rwF st)).put w (.row 3 1 true (l.map (D.int .i64))), one (poRo g 5), one (poRi g 6), one (poRw g)] = _
    rw [putF w _ (cellF_same hc), putF w _ (rwF_same hr)]
  | false =>
    dsimp only [cond_false] at hc hr
    show [poC st.length g 4, poP st.length, (Fam.fam (cellF m st)).put w (.row 201 2 false [.agg [.int .i64 m, .lst 1 true (l.map (D.int .i64))]]), (Fam.fam (rwF st)).put w .gone, one (poRo g 5), one (poRi g 6), one (poRw g)] = _
    rw [putF w _ (cellF_same hc), putF w _ (rwF_same hr)]
theorem pop_pool {m : Int} {st : List (Bool × List Int)} {g : Gl} {w : Nat} {o : Bool} {l : List Int} (hw : st[w]? = some (o, l)) (hl : l.length ≤ 8) : Spec Try.prog 76 [.ptr 2 w 2 0 0] (poO m st g)
    (fun d os' => (l = [] ∧ d = .tup [.int .i64 0, .int .i64 7] ∧ os' = poO m st g) ∨ (∃ v, l.getLast? = some v ∧ d = .tup [.int .i64 v, .int .i64 0] ∧ os' = poO m (st.set w (false, l.dropLast)) g)) := by
  refine (dq_pool hw (pop76 o m l hl) rfl).mono ?_
  rintro d os' ⟨d1, os1, (⟨h1, rfl, rfl⟩ | ⟨v, h1, rfl, rfl⟩), rfl, rfl⟩
  · exact .inl ⟨h1, rfl, dqS_pool hw⟩
  · exact .inr ⟨v, h1, rfl, dqB_pool hw⟩
theorem steal_pool {m : Int} {st : List (Bool × List Int)} {g : Gl} {w : Nat} {o : Bool} {l : List Int} (hw : st[w]? = some (o, l)) (hl : l.length ≤ 8) : Spec Try.prog 75 [.ptr 2 w 2 0 0] (poO m st g)
    (fun d os' => (l = [] ∧ d = .tup [.int .i64 0, .int .i64 7] ∧ os' = poO m st g) ∨ (∃ v, l.head? = some v ∧ d = .tup [.int .i64 v, .int .i64 0] ∧ os' = poO m (st.set w (false, l.tail)) g)) := by
  refine (dq_pool hw (steal75 o m l hl) rfl).mono ?_
  rintro d os' ⟨d1, os1, (⟨h1, rfl, rfl⟩ | ⟨v, h1, rfl, rfl⟩), rfl, rfl⟩
  · exact .inl ⟨h1, rfl, dqS_pool hw⟩
  · exact .inr ⟨v, h1, rfl, dqB_pool hw⟩
end Go.Proofs.Ytaplihoeephbeaa.V
end
section
namespace Go.Proofs.Ytaplihoeephbeaa.V
open Go Go.Proofs
set_option maxRecDepth 100000
set_option maxHeartbeats 40000000
/-- Which name each one was: the global queue's (q rings, c the ring, r its row) go to 8, 9, 10. -/
def psU (q c r : Nat) (i j : Nat) : Nat × Nat := if i = 8 then (q, j) else if i = 9 then (c, j) else if i = 10 then (r, j) else if i ≤ 7 then (i, j) else if i < 28 then (i + 100, j) else (i - 20, j)
def upU (q c r : Nat) (i j : Nat) : Nat × Nat := if i = q then (8, j) else if i = c then (9, j) else if i = r then (10, j) else if i ≤ 7 then (i, j) else (i + 20, j)
theorem mapO_cellF (φ : Nat → Nat → Nat × Nat) (h : ∀ j, φ 3 j = (3, j)) (m : Int) (st : List (Bool × List Int)) (j : Nat) : (cellF m st j).mapId φ = cellF m st j := by
  unfold cellF
  split
  · rfl
  · simp [O.mapId, D.mapIdL, D.mapId, h]
  · rfl
theorem mapO_rwF (φ : Nat → Nat → Nat × Nat) (st : List (Bool × List Int)) (j : Nat) : (rwF st j).mapId φ = rwF st j := by
  unfold rwF
  split <;> rfl
theorem mapO_cellU (φ : Nat → Nat → Nat × Nat) (h : ∀ j, φ 3 j = (3, j)) (h7 : φ 7 0 = (7, 0)) (m : Int) (st : List (Bool × List Int)) (w : Option Nat) (j : Nat) : (cellU m st w j).mapId φ = cellU m st w j := by
  unfold cellU
  split
  · simp [O.mapId, D.mapIdL, D.mapId, h7]
  · exact mapO_cellF φ h m st j
theorem mapO_rowU (φ : Nat → Nat → Nat × Nat) (st : List (Bool × List Int)) (w : Option Nat) (j : Nat) : (rowU st w j).mapId φ = rowU st w j := by
  unfold rowU
  split
  · rfl
  · exact mapO_rwF φ st j
theorem mapIdL_app' (φ : Nat → Nat → Nat × Nat) : ∀ (a b : List D), D.mapIdL φ (a ++ b) = D.mapIdL φ a ++ D.mapIdL φ b
  | [], b => rfl
  | x :: a, b => by rw [List.cons_append, D.mapIdL, D.mapIdL, mapIdL_app' φ a b, List.cons_append]
theorem mapIdL_junk (φ : Nat → Nat → Nat × Nat) (k : Nat) : D.mapIdL φ (List.replicate k .junk) = List.replicate k .junk := by
  induction k with
  | zero => rfl
  | succ k ih => rw [List.replicate_succ, D.mapIdL, ih]; rfl
theorem mapO_poRo {φ : Nat → Nat → Nat × Nat} {g : Gl} {q q' : Nat} (h : g.c = true → φ q 0 = (q', 0)) : (poRo g q).mapId φ = poRo g q' := by
  unfold poRo
  cases hc : g.c with
  | true =>
    simp only [cond_true, O.mapId, mapIdL_app', mapIdL_junk]
    show O.row 56 1 false (_ ++ [D.ptr (φ q 0).1 (φ q 0).2 4 0 0]) = _
    rw [h hc]
  | false =>
    simp only [cond_false, O.mapId, mapIdL_junk]
theorem mapO_poRi {φ : Nat → Nat → Nat × Nat} {g : Gl} {r r' : Nat} (h : g.c = true → φ r 0 = (r', 0)) : (poRi g r).mapId φ = poRi g r' := by
  unfold poRi
  cases hc : g.c with
  | true =>
    show O.row 176 4 false [.agg [.int .i64 1024, .int .i64 g.a, .sl (φ r 0).1 (φ r 0).2 1 0 g.L.length none, .int .i64 g.n]] = _
    rw [h hc]; rfl
  | false => rfl
theorem mapO_poRw {φ : Nat → Nat → Nat × Nat} {g : Gl} : (poRw g).mapId φ = poRw g := by
  unfold poRw
  cases g.c <;> rfl
theorem at_gones (os : Objs) (n i j : Nat) (h : os.length ≤ i) : Objs.at (os ++ List.replicate n (one .gone)) i j = .gone := by
  rw [at_r _ _ _ h]
  unfold Objs.at
  rw [List.getD_eq_getElem?_getD, List.getElem?_replicate]
  split <;> cases j <;> rfl
theorem poU_lt (m : Int) (st : List (Bool × List Int)) (g : Gl) (w : Option Nat) (i j : Nat) : ((poU m st g w).at i j).lt 11 = true := by
  have hj : ∀ x, D.ltL 11 (List.replicate x .junk) = true := junk_lt 11
  have happ : ∀ (a b : List D), D.ltL 11 (a ++ b) = (D.ltL 11 a && D.ltL 11 b) := fun a b => by
    induction a with
    | nil => rfl
    | cons x a ih => simp [D.ltL, ih, Bool.and_assoc]
  match i, j with
  | 0, 0 => rfl
  | 1, 0 => exact ptrs_lt 11 rfl _
  | 2, j =>
    show (cellU m st w j).lt 11 = true
    unfold cellU
    split
    · rfl
    · unfold cellF; split <;> rfl
  | 3, j =>
    show (rowU st w j).lt 11 = true
    unfold rowU
    split
    · rfl
    · unfold rwF; split <;> rfl
  | 4, 0 | 5, 0 | 6, 0 => rfl
  | 7, 0 => show (rowW st w).lt 11 = true; unfold rowW; split <;> rfl
  | 8, 0 =>
    show D.ltL 11 (bif g.c then List.replicate g.k .junk ++ [.ptr 9 0 4 0 0] else List.replicate g.k .junk) = true
    cases g.c
    · exact hj _
    · show D.ltL 11 (_ ++ _) = true
      rw [happ, hj]; rfl
  | 9, 0 => show (poRi g 10).lt 11 = true; unfold poRi; cases g.c <;> rfl
  | 10, 0 => show (poRw g).lt 11 = true; unfold poRw; cases g.c <;> rfl
  | 0, j + 1 | 1, j + 1 | 4, j + 1 | 5, j + 1 | 6, j + 1 | 7, j + 1 | 8, j + 1 | 9, j + 1 | 10, j + 1 => rfl
  | i + 11, j => rfl
/-- A pool's objects, the global queue's at any places: they go to their new names. -/
theorem Weak.toU {mm : List (Nat × D)} {m : Int} {st : List (Bool × List Int)} {g : Gl} {os : Objs} (w : Option Nat) (q c r : Nat) (h0 : ∀ j, os.at 0 j = (poC st.length g q).at j) (h1 : ∀ j, os.at 1 j = (poP st.length).at j) (h2 : ∀ j, os.at 2 j = cellU m st w j) (h3 : ∀ j, os.at 3 j = rowU st w j)
    (h7 : w ≠ none → os.at 7 0 = rowW st w) (hq : os.at q 0 = poRo g c) (hc : os.at c 0 = poRi g r) (hr : os.at r 0 = poRw g) (hd : (4 ≤ q ∧ 4 ≤ c ∧ 4 ≤ r) ∧ q ≠ c ∧ q ≠ r ∧ c ≠ r) (hd7 : w ≠ none → q ≠ 7 ∧ c ≠ 7 ∧ r ≠ 7) (hl : os.length ≤ 21) (hm : ((mapM (upU q c r) mm).all fun p => p.2.lt 11) = true) :
    Weak 7 { m := mm, objs := os } { m := mapM (upU q c r) mm, objs := poU m st g w } := by
  obtain ⟨⟨hq4, hc4, hr4⟩, hqc, hqr, hcr⟩ := hd
  have uq : ∀ j, upU q c r q j = (8, j) := fun j => by unfold upU; rw [if_pos rfl]
  have uc : ∀ j, upU q c r c j = (9, j) := fun j => by unfold upU; rw [if_neg (fun e => hqc e.symm), if_pos rfl]
  have ur : ∀ j, upU q c r r j = (10, j) := fun j => by unfold upU; rw [if_neg (fun e => hqr e.symm), if_neg (fun e => hcr e.symm), if_pos rfl]
  have us : ∀ i j, i < 4 → upU q c r i j = (i, j) := fun i j hi => by unfold upU; rw [if_neg (by omega), if_neg (by omega), if_neg (by omega), if_pos (by omega)]
  have u7 : w ≠ none → ∀ j, upU q c r 7 j = (7, j) := fun hw j => by have := hd7 hw; unfold upU; rw [if_neg (by omega), if_neg (by omega), if_neg (by omega), if_pos (by omega)]
  refine Weak.trans (t := { m := mapM (upU q c r) mm, objs := poU m st g w ++ List.replicate 30 (one .gone) }) (Weak.rens (psU q c r) (upU q c r) ?_ ?_ ?_ ?_ (Nat.le_of_ble_eq_true rfl) ?_) ?_
  · intro i j hi
    unfold psU
    rw [if_neg (by omega), if_neg (by omega), if_neg (by omega), if_pos (by omega)]
  · intro i j
    unfold upU
    split
    · rename_i e; subst e; rfl
    · split
      · rename_i e; subst e; rfl
      · split
        · rename_i e; subst e; rfl
        · split
          · unfold psU; dsimp only; rw [if_neg (by omega), if_neg (by omega), if_neg (by omega), if_pos (by omega)]
          · unfold psU; dsimp only; rw [if_neg (by omega), if_neg (by omega), if_neg (by omega), if_neg (by omega), if_neg (by omega)]
            congr 1
  · intro i j hne
    match i with
    | 0 => exact us 0 j (by omega)
    | 1 => exact us 1 j (by omega)
    | 2 => exact us 2 j (by omega)
    | 3 => exact us 3 j (by omega)
    | 4 | 5 | 6 => cases j <;> exact absurd rfl hne
    | 7 =>
      have hw : w ≠ none := by
        rintro rfl
        cases j <;> exact hne rfl
      exact u7 hw j
    | 8 => exact uq j
    | 9 => exact uc j
    | 10 => exact ur j
    | i + 11 => exact absurd (at_gones _ 30 _ _ (Nat.le_add_left 11 i)) hne
  · intro i j hi
    have hi' : 41 ≤ i := hi
    unfold psU
    rw [if_neg (by omega), if_neg (by omega), if_neg (by omega), if_neg (by omega), if_neg (by omega)]
    show os.length ≤ i - 20
    omega
  · intro i j hne
    match i, j with
    | 0, 0 =>
      show _ = (os.at 0 0).mapId _
      rw [h0]
      show _ = O.row 114 2 false [.agg [.sl (upU q c r q 0).1 (upU q c r q 0).2 1 g.k (bif g.c then 1 else 0) none, .sl (upU q c r 1 0).1 (upU q c r 1 0).2 1 0 st.length none]]
      rw [uq, us 1 0 (by omega)]; rfl
    | 1, 0 =>
      show _ = (os.at 1 0).mapId _
      rw [h1]
      show O.row 102 1 false (ptrs st.length) = O.row 102 1 false (D.mapIdL (upU q c r) (ptrs st.length))
      rw [ptrs_map (upU q c r) (fun j => us 2 j (by omega))]
    | 2, j =>
      show _ = (os.at 2 j).mapId _
      rw [h2]
      by_cases hw : w = none
      · subst hw
        show cellU m st none j = (cellU m st none j).mapId _
        have e : cellU m st none j = cellF m st j := by unfold cellU; rw [if_neg (by simp)]
        rw [e]
        exact (mapO_cellF _ (fun j => us 3 j (by omega)) m st j).symm
      · exact (mapO_cellU _ (fun j => us 3 j (by omega)) (u7 hw 0) m st w j).symm
    | 3, j =>
      show _ = (os.at 3 j).mapId _
      rw [h3]
      exact (mapO_rowU _ st w j).symm
    | 4, 0 | 5, 0 | 6, 0 => exact absurd rfl hne
    | 7, 0 =>
      have hw : w ≠ none := by rintro rfl; exact hne rfl
      show _ = (os.at 7 0).mapId _
      rw [h7 hw]
      show rowW st w = _
      unfold rowW
      split <;> rfl
    | 8, 0 => show _ = (os.at q 0).mapId _; rw [hq]; exact (mapO_poRo (fun _ => uc 0)).symm
    | 9, 0 => show _ = (os.at c 0).mapId _; rw [hc]; exact (mapO_poRi (fun _ => ur 0)).symm
    | 10, 0 => show _ = (os.at r 0).mapId _; rw [hr]; exact mapO_poRw.symm
    | 0, j + 1 | 1, j + 1 | 4, j + 1 | 5, j + 1 | 6, j + 1 | 7, j + 1 | 8, j + 1 | 9, j + 1 | 10, j + 1 => exact absurd rfl hne
    | i + 11, j => exact absurd (at_gones _ 30 _ _ (Nat.le_add_left 11 i)) hne
  · exact Weak.takeF (os := poU m st g w ++ List.replicate 30 (one .gone)) 11 (by omega) hm (fun i j hi => by rw [at_lt _ _ _ (show i < (poU m st g w).length from hi)]; exact poU_lt m st g w i j) (by simp)
end Go.Proofs.Ytaplihoeephbeaa.V
end
section
namespace Go.Proofs.Ytaplihoeephbeaa.V
open Go Go.Proofs
set_option maxRecDepth 100000
set_option maxHeartbeats 40000000
theorem cellU_none (m : Int) (st : List (Bool × List Int)) : cellU m st none = cellF m st := by
  funext j; unfold cellU; rw [if_neg (by simp)]
theorem rowU_none (st : List (Bool × List Int)) : rowU st none = rwF st := by
  funext j; unfold rowU; rw [if_neg (by simp)]
theorem junk_get (k : Nat) (d : D) : (List.replicate k D.junk ++ [d])[k + 0]? = some d := by
  rw [Nat.add_zero, List.getElem?_append_right (by simp)]; simp
theorem splice_junk (k : Nat) (d : D) : splice (List.replicate k D.junk) (k + 0) [d] = List.replicate k D.junk ++ [d] := by
  unfold splice
  rw [Nat.add_zero, List.take_of_length_le (by simp), List.drop_eq_nil_of_le (by simp)]
  rfl
/-- The pool's own, as a deed leaves it. -/
theorem Weak.toU0 {sl : List (Nat × D)} {m : Int} {st : List (Bool × List Int)} {g : Gl} (hm : ((mapM (upU 4 5 6) sl).all fun p => p.2.lt 11) = true) : Weak 7 { m := sl, objs := poO m st g } { m := mapM (upU 4 5 6) sl, objs := poU m st g none } :=
  Weak.toU none 4 5 6 (fun j => rfl) (fun j => rfl) (fun j => by rw [cellU_none]; rfl) (fun j => by rw [rowU_none]; rfl) (fun h => absurd rfl h) rfl rfl rfl (by omega) (fun h => absurd rfl h) (Nat.le_of_ble_eq_true rfl) hm
theorem is157 {m : Int} {st : List (Bool × List Int)} {g : Gl} (w : Int) : Spec Try.prog 157 [.ptr 0 0 2 0 0, .int .i64 w] (poO m st g) (fun d os' => d = .bool (decide (0 ≤ w ∧ w < st.length)) ∧ os' = poO m st g) := by
  refine Spec.by Try.func157 rfl (by decide) (by decide +kernel) rfl ?_
  (refine goA ?_)
  refine Br.dec (fun h0 => ?_) (fun h0 => ?_)
  · (refine goA ?_)
    refine Ret.mk [.tmp 4] rfl ⟨congrArg D.bool ?_, rfl⟩
    by_cases h1 : w < st.length
    · rw [decide_eq_true h1, decide_eq_true ⟨h0, h1⟩]
    · rw [decide_eq_false h1, decide_eq_false (fun h => h1 h.2)]
  · (refine goA ?_)
    refine Ret.mk [.tmp 4] rfl ⟨congrArg D.bool ?_, rfl⟩
    rw [decide_eq_false (fun h => h0 h.1)]
@[reducible] def poPost (b : Nat) (m : Int) (st : List (Bool × List Int)) (P : D → Prop) (G : List Int) : D → Objs → Prop := fun d os' => ∃ g', (P d ∧ PoOk b m st g' G) ∧ os' = poU m st g' none
theorem put158 {b : Nat} {m : Int} {st : List (Bool × List Int)} {g : Gl} {G : List Int} (h : PoOk b m st g G) (hb : b ≤ 900) (v : Int) : Spec Try.prog 158 [.ptr 0 0 2 0 0, .int .i64 v] (poO m st g) (poPost (b + 1) m st (fun d => d = .tup []) (G ++ [v])) := by
  obtain ⟨k, c, a, n, L⟩ := g
  have hG := h.G
  have hk := h.k
  have hGl : (G ++ [v]).length ≤ b + 1 := by rw [List.length_append, List.length_singleton]; omega
  cases c with
  | true =>
    have hR := h.t rfl
    have e : pushC 1024 G v = (0, G ++ [v]) := by unfold pushC; rw [if_neg (by omega)]
    show Spec Try.prog 158 _ (poT m st k a n L) _
    refine Spec.by Try.func158 rfl (by decide) (by decide +kernel) rfl ?_
    (refine goA ?_)
    refine Opt.of (junk_get k (.ptr 5 0 4 0 0)) ?_
    (refine goA ?_)
    refine Call.mk (Spec.rgW (push47 hR v) 5 6 _ rfl rfl (by decide) rfl (by rintro d a n L ⟨rfl, _⟩; rfl)) ?_
    rintro d os' ⟨a', n', L', g', ⟨rfl, hg⟩, rfl⟩
    rw [e] at hg ⊢
    cases g' with
    | false =>
      (refine goA ?_)
      refine Ret.weak (Weak.trans (Weak.on [] (poO m st ⟨k, true, a', n', L'⟩)) (Weak.toU0 rfl)) ?_
      exact Ret.mk [] rfl ⟨⟨k, true, a', n', L'⟩, ⟨rfl, ⟨h.r, h.n, h.l, fun _ => hg, (fun h => Bool.noConfusion h), Nat.le_succ_of_le hk, hGl⟩⟩, rfl⟩
    | true =>
      (refine goA ?_)
      refine Ret.weak (Weak.trans (Weak.on [] [poC st.length ⟨k, true, a', n', L'⟩ 4, poP st.length, .fam (cellF m st), .fam (rwF st), one (poRo ⟨k, true, a', n', L'⟩ 5), one (poRi ⟨k, true, a', n', L'⟩ 7), one .gone, one (poRw ⟨k, true, a', n', L'⟩)])
        (Weak.toU none 4 5 7 (fun j => rfl) (fun j => rfl) (fun j => by rw [cellU_none]; rfl) (fun j => by rw [rowU_none]; rfl) (fun h => absurd rfl h) rfl rfl rfl (by omega) (fun h => absurd rfl h) (Nat.le_of_ble_eq_true rfl) rfl)) ?_
      exact Ret.mk [] rfl ⟨⟨k, true, a', n', L'⟩, ⟨rfl, ⟨h.r, h.n, h.l, fun _ => hg, (fun h => Bool.noConfusion h), Nat.le_succ_of_le hk, hGl⟩⟩, rfl⟩
  | false =>
    have hG0 : G = [] := h.f rfl
    have hc : newL (roomI 1024) [] [v] = [v] := rfl
    have hro : roomI 1024 = 1024 := rfl
    subst hG0
    cases k with
    | zero =>
      show Spec Try.prog 158 _ (poE m st 0) _
      refine Spec.by Try.func158 rfl (by decide) (by decide +kernel) rfl ?_
      (refine goA ?_)
      refine App.only false rfl rfl ?_
      (refine goA ?_)
      refine Call.mk ((new46 1024 [v] (by simp)).onto _ rfl) ?_
      rintro d os' ⟨d1, os1, ⟨a, n, L, ⟨hg, rfl⟩, rfl⟩, rfl, rfl⟩
      rw [hc, hro] at hg
      rw [hro]
      (refine goA ?_)
      refine App.own ?_
      (refine goA ?_)
      refine Ret.weak (Weak.trans (Weak.on [] [one (.row 114 2 false [.agg [.sl 10 0 1 0 1 none, .sl 1 0 1 0 st.length none]]), poP st.length, .fam (cellF m st), .fam (rwF st), one .gone, one .gone, one .gone, rgC 1024 a n L.length 8, rowI L, one (.row 56 1 false [.ptr 7 0 4 0 0]), one (.row 56 1 false [.ptr 7 0 4 0 0])])
        (Weak.toU (g := ⟨0, true, a, n, L⟩) none 10 7 8 (fun j => rfl) (fun j => rfl) (fun j => by rw [cellU_none]; rfl) (fun j => by rw [rowU_none]; rfl) (fun h => absurd rfl h) rfl rfl rfl (by omega) (fun h => absurd rfl h) (Nat.le_of_ble_eq_true rfl) rfl)) ?_
      exact Ret.mk [] rfl ⟨⟨0, true, a, n, L⟩, ⟨rfl, ⟨h.r, h.n, h.l, fun _ => hg, (fun h => Bool.noConfusion h), Nat.zero_le _, hGl⟩⟩, rfl⟩
    | succ k =>
      show Spec Try.prog 158 _ (poE m st (k + 1)) _
      refine Spec.by Try.func158 rfl (by decide) (by decide +kernel) rfl ?_
      (refine goA ?_)
      refine App.only false rfl rfl ?_
      (refine goA ?_)
      refine Call.mk ((new46 1024 [v] (by simp)).onto _ rfl) ?_
      rintro d os' ⟨d1, os1, ⟨a, n, L, ⟨hg, rfl⟩, rfl⟩, rfl, rfl⟩
      rw [hc, hro] at hg
      rw [hro]
      (refine goA ?_)
      refine App.own ?_
      (refine goA ?_)
      refine And.intro ⟨by simp, fun h => Bool.noConfusion h⟩ (And.intro (fun h => absurd (congrArg List.length h) (Nat.succ_ne_zero _)) (fun _ => And.intro (Nat.le_of_ble_eq_true rfl) (And.intro (Nat.le_of_ble_eq_true rfl) (And.intro ?_ ?_))))
      · (refine goA ?_)
        refine Ret.weak (Weak.trans (Weak.on [] [one (.row 114 2 false [.agg [.sl 4 0 1 (k + 1) 1 none, .sl 1 0 1 0 st.length none]]), poP st.length, .fam (cellF m st), .fam (rwF st), one (.row 56 1 false (splice (List.replicate (k + 1) D.junk) (k + 1 + 0) [.ptr 7 0 4 0 0])), one .gone, one .gone, rgC 1024 a n L.length 8, rowI L, one (.row 56 1 false [.ptr 7 0 4 0 0])])
          (Weak.toU (g := ⟨k + 1, true, a, n, L⟩) none 4 7 8 (fun j => rfl) (fun j => rfl) (fun j => by rw [cellU_none]; rfl) (fun j => by rw [rowU_none]; rfl) (fun h => absurd rfl h) (congrArg (O.row 56 1 false) (splice_junk (k + 1) _)) rfl rfl (by omega) (fun h => absurd rfl h) (Nat.le_of_ble_eq_true rfl) rfl)) ?_
        exact Ret.mk [] rfl ⟨⟨k + 1, true, a, n, L⟩, ⟨rfl, ⟨h.r, h.n, h.l, fun _ => hg, (fun h => Bool.noConfusion h), Nat.le_succ_of_le hk, hGl⟩⟩, rfl⟩
      · refine App.own ?_
        (refine goA ?_)
        refine Ret.weak (Weak.trans (Weak.on [] [one (.row 114 2 false [.agg [.sl 10 0 1 0 1 none, .sl 1 0 1 0 st.length none]]), poP st.length, .fam (cellF m st), .fam (rwF st), one (.row 56 1 false (List.replicate (k + 1) .junk)), one .gone, one .gone, rgC 1024 a n L.length 8, rowI L, one (.row 56 1 false [.ptr 7 0 4 0 0]), one (.row 56 1 false (((List.replicate (k + 1) D.junk).drop (k + 1)).take 0 ++ [.ptr 7 0 4 0 0]))])
          (Weak.toU (g := ⟨0, true, a, n, L⟩) none 10 7 8 (fun j => rfl) (fun j => rfl) (fun j => by rw [cellU_none]; rfl) (fun j => by rw [rowU_none]; rfl) (fun h => absurd rfl h) rfl rfl rfl (by omega) (fun h => absurd rfl h) (Nat.le_of_ble_eq_true rfl) rfl)) ?_
        exact Ret.mk [] rfl ⟨⟨0, true, a, n, L⟩, ⟨rfl, ⟨h.r, h.n, h.l, fun _ => hg, (fun h => Bool.noConfusion h), Nat.zero_le _, hGl⟩⟩, rfl⟩
end Go.Proofs.Ytaplihoeephbeaa.V
end
section
namespace Go.Proofs.Ytaplihoeephbeaa.V
open Go Go.Proofs
set_option maxRecDepth 100000
set_option maxHeartbeats 40000000
theorem pureL_rows (Ls : List (List Int)) : D.pureL (Ls.map ints) = true := pureL_map (fun _ => rfl) _
end Go.Proofs.Ytaplihoeephbeaa.V
end
section
namespace Go.Proofs.Ytaplihoeephbeaa.V
open Go Go.Proofs
set_option maxRecDepth 100000
set_option maxHeartbeats 40000000
def qAt (l : List (List Int)) (m : Nat) : List Int := l.getD m []
theorem qAt_get (l : List (List Int)) (m : Nat) (h : m < l.length) : l[m]? = some (qAt l m) := by
  rw [qAt, List.getD_eq_getElem?_getD, List.getElem?_eq_getElem h]; rfl
theorem qAt_mem {l : List (List Int)} {m : Nat} (h : m < l.length) : qAt l m ∈ l := List.mem_of_getElem? (qAt_get l m h)
theorem rowC_at (l : List (List Int)) (m : Nat) (h : m < l.length) : (l.map ints)[0 + m]? = some (ints (qAt l m)) := by
  rw [Nat.zero_add]; exact get_map (qAt_get l m h)
end Go.Proofs.Ytaplihoeephbeaa.V
end
section
namespace Go.Proofs.Ytaplihoeephbeaa.V
open Go Go.Proofs
set_option maxRecDepth 100000
set_option maxHeartbeats 40000000
theorem mem_set2 {α : Type} {l : List α} {e : Nat} {x y : α} (h : y ∈ l.set e x) : y ∈ l ∨ y = x := List.mem_or_eq_of_mem_set h
end Go.Proofs.Ytaplihoeephbeaa.V
end
section
namespace Go.Proofs.Ytaplihoeephbeaa.V
open Go Go.Proofs
set_option maxRecDepth 100000
set_option maxHeartbeats 40000000
/-- A row, told in other words. -/
theorem Weak.retellQ {n0 : Nat} {m : List (Nat × D)} {os : Objs} (k : Nat) {t : TypeId} {sz : Nat} {es : List D} (hk : os.at k 0 = .row t sz false es) (es' : List D) (hl : es'.length = es.length) (h : ∀ ρ I us, repL ρ I es us → repL ρ I es' us) :
    Weak n0 { m := m, objs := os } { m := m, objs := os.put k 0 (.row t sz false es') } := by
  intro ρ I w tm h1 h2 h3
  obtain ⟨g1, g2⟩ := h1.retell (k := k) (by show os.at k 0 ≠ .gone; rw [hk]; simp) (.row t sz false es') (by
    intro p hp hok
    rw [show ({ m := m, objs := os } : St).objs = os from rfl, hk] at hok
    obtain ⟨a1, a2, a3⟩ := hok
    refine ⟨by rw [hl]; exact a1, a2, fun hpos => ?_⟩
    obtain ⟨arr, us, b1, b2, b3, b4, b5⟩ := a3 hpos
    exact ⟨arr, us, b1, b2, h ρ I us b3, b4, b5⟩)
  exact ⟨ρ, I, g1, h2, Im.le_refl _, by rw [length_put]; exact h3, fun _ _ _ => rfl, fun _ hb => .inl hb, g2⟩
theorem repL_junks {ρ : Pl} {I : Im} : ∀ (n : Nat) (us : List Value), us.length = n → repL ρ I (List.replicate n .junk) us
  | 0, us, h => by rw [List.length_eq_zero_iff.1 h]; exact repL_nil.2 rfl
  | n + 1, [], h => by cases h
  | n + 1, u :: us, h => by
    rw [List.replicate_succ]
    exact repL_cons.2 ⟨u, us, rfl, by rw [rep]; trivial, repL_junks n us (by simpa using h)⟩
theorem first159 {b : Nat} {m : Int} {st : List (Bool × List Int)} {g : Gl} {G : List Int} (h : PoOk b m st g G) (hb : b ≤ 900) : Spec Try.prog 159 [.ptr 0 0 2 0 0] (poO m st g) (fun d os' => ∃ g', (d = .tup [.int .i64 (popC G).1, .int .i64 (popC G).2] ∧ PoOk (b + 1) m st g' G.tail) ∧ os' = poO m st g') := by
  obtain ⟨k, c, a, n, L⟩ := g
  have hG := h.G
  have hk := h.k
  cases c with
  | true =>
    have hR := h.t rfl
    cases G with
    | cons v G =>
      show Spec Try.prog 159 _ (poT m st k a n L) _
      refine Spec.by Try.func159 rfl (by decide) (by decide +kernel) rfl ?_
      (refine goA ?_)
      refine Loop.inv (A := Nat) (List.range 34) (fun i => [(0, .ptr 0 0 2 0 0), (2, .int .i64 0), (3, .int .i64 0)]) (fun _ => poT m st k a n L) (fun _ => True) (fun _ => 0) 0 trivial ?_ ?_
      · exact Weak.start' rfl rfl tld
      rintro _ _
      (refine goA ?_)
      refine Opt.of (junk_get k (.ptr 5 0 4 0 0)) ?_
      (refine goA ?_)
      refine Call.mk (Spec.rgP (pop48x hR) 5 6 _ rfl rfl (by decide) rfl (by rintro d a n L ⟨rfl, _⟩; rfl)) ?_
      rintro d os' ⟨a3, n3, L3, ⟨rfl, hg3⟩, rfl⟩
      (refine goA ?_)
      exact Ret.mk [.tmp 2, .tmp 3] rfl ⟨⟨k, true, a3, n3, L3⟩, ⟨rfl, ⟨h.r, h.n, h.l, fun _ => hg3, (fun h => Bool.noConfusion h), Nat.le_succ_of_le hk, by rw [List.length_cons] at hG; rw [List.tail_cons]; omega⟩⟩, rfl⟩
    | nil =>
      show Spec Try.prog 159 _ (poT m st k a n L) _
      refine Spec.by Try.func159 rfl (by decide) (by decide +kernel) rfl ?_
      (refine goA ?_)
      refine Loop.inv (A := Bool) (List.range 34) (fun i => [(0, .ptr 0 0 2 0 0), (2, .int .i64 0), (3, .int .i64 0)]) (fun b => bif b then poT m st k a n L else [one (.row 114 2 false [.agg [.sl 4 0 1 (k + 1) 0 none, .sl 1 0 1 0 st.length none]]), poP st.length, .fam (cellF m st), .fam (rwF st), one (.row 56 1 false (List.replicate k .junk ++ [.ptr 5 0 4 0 0])), rgC 1024 a n L.length 6, rowI L]) (fun _ => True) (fun b => bif b then 1 else 0) true trivial ?_ ?_
      · exact Weak.start' rfl rfl tld
      rintro b _
      cases b with
      | true =>
        (refine goA ?_)
        refine Opt.of (junk_get k (.ptr 5 0 4 0 0)) ?_
        (refine goA ?_)
        refine Call.mk (Spec.rgR (popE48 hR) 5 6 _ rfl rfl (by decide) rfl (by rintro d rfl; rfl)) ?_
        rintro d os' ⟨rfl, rfl⟩
        (refine goA ?_)
        refine ⟨_, _, _, ?_, ⟨false, ?_, rfl, rfl, rfl⟩, ?_⟩
        · show 0 < 1; omega
        · trivial
        · refine Weak.only _ _ ?_ ?_
          · kernel_rfl
          · exact tld
      | false =>
        (refine goA ?_)
        refine Ret.weak (Weak.trans (Weak.on [(2, .int .i64 0), (3, .int .i64 7)] [one (.row 114 2 false [.agg [.sl 4 0 1 (k + 1) 0 none, .sl 1 0 1 0 st.length none]]), poP st.length, .fam (cellF m st), .fam (rwF st), one (.row 56 1 false (List.replicate k .junk ++ [.ptr 5 0 4 0 0])), rgC 1024 a n L.length 6, rowI L])
          (Weak.trans (Weak.frzK (fun i => Nat.beq i 5 || Nat.beq i 6) [] trivial) (Weak.retellQ 4 (t := 56) (sz := 1) (es := List.replicate k .junk ++ [.ptr 5 0 4 0 0]) rfl (List.replicate (k + 1) .junk) (by simp) (fun ρ I us h => repL_junks _ us (by rw [repL_length h]; simp))))) ?_
        exact Ret.mk [.tmp 2, .tmp 3] rfl ⟨⟨k + 1, false, a, n, L⟩, ⟨rfl, ⟨h.r, h.n, h.l, (fun h => Bool.noConfusion h), fun _ => rfl, Nat.succ_le_succ hk, Nat.zero_le _⟩⟩, rfl⟩
  | false =>
    have hG0 : G = [] := h.f rfl
    subst hG0
    show Spec Try.prog 159 _ (poE m st k) _
    refine Spec.by Try.func159 rfl (by decide) (by decide +kernel) rfl ?_
    (refine goA ?_)
    refine Loop.inv (A := Nat) (List.range 34) (fun i => [(0, .ptr 0 0 2 0 0), (2, .int .i64 0), (3, .int .i64 0)]) (fun _ => poE m st k) (fun _ => True) (fun _ => 0) 0 trivial ?_ ?_
    · exact Weak.start' rfl rfl tld
    rintro _ _
    (refine goA ?_)
    exact Ret.mk [.tmp 2, .tmp 3] rfl ⟨⟨k, false, a, n, L⟩, ⟨rfl, ⟨h.r, h.n, h.l, h.t, h.f, Nat.le_succ_of_le hk, Nat.zero_le _⟩⟩, rfl⟩
/-- Giving: the deques, the global queue, the answer. -/
def giveP (m : Int) (L : List (List Int)) (G : List Int) (w n : Int) : List (List Int) × List Int × Int := if 0 ≤ w ∧ w < L.length then (if ((qAt L w.toNat).length : Int) < m then (L.set w.toNat (qAt L w.toNat ++ [n]), G, 0) else (L, G ++ [n], 0)) else (L, G, 5)
def takeP (L : List (List Int)) (G : List Int) (w : Int) : List (List Int) × List Int × Int × Int := if 0 ≤ w ∧ w < L.length then (match (qAt L w.toNat).getLast? with
  | none => (L, G.tail, popC G)
  | some v => (L.set w.toNat (qAt L w.toNat).dropLast, G, v, 0)) else (L, G, 0, 5)
def stealP (L : List (List Int)) (w f : Int) : List (List Int) × Int × Int := if (0 ≤ w ∧ w < L.length) ∧ (0 ≤ f ∧ f < L.length) then (if w = f then (L, 0, 1) else match (qAt L f.toNat).head? with
  | none => (L, 0, 7)
  | some v => (L.set f.toNat (qAt L f.toNat).tail, v, 0)) else (L, 0, 5)
/-- What a deed leaves. -/
@[reducible] def poX (b : Nat) (m : Int) (P : D → Prop) (L : List (List Int)) (G : List Int) : D → Objs → Prop := fun d os' => ∃ st g w, (P d ∧ PoOk b m st g G ∧ st.map (·.2) = L ∧ ∀ j, w = some j → ∃ l, st[j]? = some (true, l)) ∧ os' = poU m st g w
theorem st_get {st : List (Bool × List Int)} {w : Nat} (h : w < st.length) : ∃ o, st[w]? = some (o, qAt (st.map (·.2)) w) := by
  refine ⟨st[w].1, ?_⟩
  rw [List.getElem?_eq_getElem h, qAt, List.getD_eq_getElem?_getD, List.getElem?_map, List.getElem?_eq_getElem h]
  rfl
theorem PoOk.set {b : Nat} {m : Int} {st : List (Bool × List Int)} {g : Gl} {G : List Int} (h : PoOk b m st g G) (w : Nat) (x : Bool × List Int) (hx : (x.2.length : Int) ≤ m) : PoOk (b + 1) m (st.set w x) g G :=
  ⟨h.r, by rw [List.length_set]; exact h.n, fun s hs => by rcases mem_set2 hs with hs | rfl; exact h.l s hs; exact hx, h.t, h.f, Nat.le_succ_of_le h.k, Nat.le_succ_of_le h.G⟩
theorem PoOk.up {b : Nat} {m : Int} {st : List (Bool × List Int)} {g : Gl} {G : List Int} (h : PoOk b m st g G) : PoOk (b + 1) m st g G := ⟨h.r, h.n, h.l, h.t, h.f, Nat.le_succ_of_le h.k, Nat.le_succ_of_le h.G⟩
theorem give81 {b : Nat} {m : Int} {st : List (Bool × List Int)} {g : Gl} {G : List Int} (h : PoOk b m st g G) (hb : b ≤ 900) (w v : Int) : Spec Try.prog 81 [.ptr 0 0 2 0 0, .int .i64 w, .int .i64 v] (poO m st g) (poX (b + 1) m (fun d => d = .int .i64 (giveP m (st.map (·.2)) G w v).2.2) (giveP m (st.map (·.2)) G w v).1 (giveP m (st.map (·.2)) G w v).2.1) := by
  unfold giveP
  rw [List.length_map]
  by_cases hw : 0 ≤ w ∧ w < st.length
  · rw [if_pos hw]
    obtain ⟨i, rfl⟩ := Int.eq_ofNat_of_zero_le hw.1
    have hi : i < st.length := by omega
    obtain ⟨o, hs⟩ := st_get hi
    have hm := h.r
    obtain ⟨l, hl⟩ : ∃ l, qAt (st.map (·.2)) i = l := ⟨_, rfl⟩
    have hll := h.l _ (List.mem_of_getElem? hs)
    rw [Int.toNat_natCast]
    rw [hl] at hs hll ⊢
    dsimp only at hll
    by_cases hc : (l.length : Int) < m
    · rw [if_pos hc]
      refine Spec.by Try.func81 rfl (by decide) (by decide +kernel) rfl ?_
      (refine goA ?_)
      refine Call.mk (is157 (i : Int)) ?_
      rintro d os' ⟨rfl, rfl⟩
      rw [decide_eq_true hw]
      (refine goA ?_)
      refine Opt.of (ptrs_get0 hi) ?_
      (refine goA ?_)
      refine Call.mk (push_pool hs hm hc v) ?_
      rintro d os' ⟨rfl, rfl⟩
      (refine goA ?_)
      refine Ret.weak (Weak.trans (Weak.on [(6, .int .i64 0)] [poC st.length g 4, poP st.length, .fam (cellU m (st.set i (true, l ++ [v])) (some i)), .fam (rowU (st.set i (true, l ++ [v])) (some i)), one (poRo g 5), one (poRi g 6), one (poRw g), rowI (l ++ [v])]) (Weak.toU (st := st.set i (true, l ++ [v])) (some i) 4 5 6 (fun j => by rw [List.length_set]; rfl) (fun j => by rw [List.length_set]; rfl) (fun j => rfl) (fun j => rfl) (fun _ => by unfold rowW; dsimp only; rw [getD_sets hs]; rfl) rfl rfl rfl (by omega) (fun _ => by omega) (Nat.le_of_ble_eq_true rfl) rfl)) ?_
      exact Ret.mk [.tmp 6] rfl ⟨_, g, some i, ⟨rfl, h.set i _ (by rw [List.length_append, List.length_singleton]; omega), by rw [List.map_set], fun j hj => by cases hj; exact ⟨_, set_eq hs⟩⟩, rfl⟩
    · rw [if_neg hc]
      refine Spec.by Try.func81 rfl (by decide) (by decide +kernel) rfl ?_
      (refine goA ?_)
      refine Call.mk (is157 (i : Int)) ?_
      rintro d os' ⟨rfl, rfl⟩
      rw [decide_eq_true hw]
      (refine goA ?_)
      refine Opt.of (ptrs_get0 hi) ?_
      (refine goA ?_)
      refine Call.mk (pushF_pool hs hm (by omega) v) ?_
      rintro d os' ⟨rfl, rfl⟩
      (refine goA ?_)
      refine Call.mk (put158 h hb v) ?_
      rintro d os' ⟨g', ⟨rfl, hg⟩, rfl⟩
      (refine goA ?_)
      exact Ret.mk [.tmp 6] rfl ⟨st, g', none, ⟨rfl, hg, rfl, fun _ h => by cases h⟩, rfl⟩
  · rw [if_neg hw]
    refine Spec.by Try.func81 rfl (by decide) (by decide +kernel) rfl ?_
    (refine goA ?_)
    refine Call.mk (is157 w) ?_
    rintro d os' ⟨rfl, rfl⟩
    rw [decide_eq_false hw]
    (refine goA ?_)
    refine Ret.weak (Weak.trans (Weak.on [(6, .int .i64 5)] (poO m st g)) (Weak.toU0 rfl)) ?_
    exact Ret.mk [.tmp 6] rfl ⟨st, g, none, ⟨rfl, h.up, rfl, fun _ h => by cases h⟩, rfl⟩
end Go.Proofs.Ytaplihoeephbeaa.V
end
section
namespace Go.Proofs.Ytaplihoeephbeaa.V
open Go Go.Proofs
set_option maxRecDepth 100000
set_option maxHeartbeats 40000000
theorem clone130w (xs : List Int) (hl : xs.length * 8 ≤ 140737488351232) : Spec Try.prog 130 [ints xs] [] (fun d os' => d = .sl 0 0 1 0 xs.length none ∧ os' = [rowI xs]) := by
  by_cases hx : xs = []
  · subst hx
    refine Spec.by Try.func130 rfl (by decide) (by decide +kernel) rfl ?_
    (refine goA ?_)
    refine fun _ => And.intro ?_ ?_
    · (refine goA ?_)
      refine Ret.weak (Weak.nilrow 2 rfl 3 1 true) ?_
      exact Ret.mk [.tmp _] rfl (And.intro rfl rfl)
    · (refine goA ?_)
      refine App.own ?_
      (refine goA ?_)
      refine Ret.weak (Weak.shift 1 0 (by decide) (by simp) (Nat.le_of_ble_eq_true rfl) (Nat.le_of_ble_eq_true rfl) (fun j => by cases j <;> rfl) rfl) ?_
      refine Ret.trim 1 (by simp) rfl (Nat.le_of_ble_eq_true rfl) ?_
      exact Ret.mk [.tmp _] rfl (And.intro rfl rfl)
  · exact clone130p xs hl hx
end Go.Proofs.Ytaplihoeephbeaa.V
end
section
namespace Go.Proofs.Ytaplihoeephbeaa.V
open Go Go.Proofs
set_option maxRecDepth 100000
set_option maxHeartbeats 40000000
theorem rep_nilsL {ρ : Pl} {I : Im} {v : Value} (sz : Nat) (f : Bool) (h : rep ρ I .nils v) : rep ρ I (.lst sz f []) v := by
  have h' : v = .slice none 0 0 := by rw [rep] at h; exact h
  rw [rep]
  exact ⟨none, 0, [], h', Nat.le_refl _, by simp, fun _ => rfl, repL_nil.2 rfl, (fun u hu => by cases hu), .inl rfl⟩
end Go.Proofs.Ytaplihoeephbeaa.V
end
section
namespace Go.Proofs.Ytaplihoeephbeaa.V
open Go Go.Proofs
set_option maxRecDepth 100000
set_option maxHeartbeats 40000000
theorem Spec.args {P : Program} {f : FuncId} {args args' : List D} {os : Objs} {post : D → Objs → Prop} (h : Spec P f args os post) (hv : ∀ ρ I vs, repL ρ I args' vs → repL ρ I args vs) : Spec P f args' os post :=
  ⟨h.1, fun ρ I w vs s r => h.2 ρ I w vs s (hv ρ I vs r)⟩
end Go.Proofs.Ytaplihoeephbeaa.V
end
section
namespace Go.Proofs.Ytaplihoeephbeaa.V
open Go Go.Proofs
set_option maxRecDepth 100000
set_option maxHeartbeats 40000000
/-! ref09: states that are only read. -/
@[reducible] def lists (A : List (List Int)) : D := .lst 1 false (A.map ints)
end Go.Proofs.Ytaplihoeephbeaa.V
end
section
namespace Go.Proofs.Ytaplihoeephbeaa.V
open Go Go.Proofs
set_option maxRecDepth 100000
set_option maxHeartbeats 4000000
mutual
theorem lt_pure (n : Nat) : ∀ (d : D), d.pure = true → d.lt n = true
  | .agg cs, h => ltL_pure n cs h
  | .tup cs, h => ltL_pure n cs h
  | .fn g x y, h => by
    have h' : D.pureL x = true ∧ D.pureL y = true := by simpa [D.pure] using h
    simp [D.lt, ltL_pure n x h'.1, ltL_pure n y h'.2]
  | .ptr .., h | .sl .., h | .mp .., h | .yl .., h => by simp [D.pure] at h
  | .int .., _ | .bool _, _ | .str _, _ | .nilp, _ | .nils, _ | .nilf, _ | .junk, _ | .pel .., _ | .lst .., _ => rfl
theorem ltL_pure (n : Nat) : ∀ (ds : List D), D.pureL ds = true → D.ltL n ds = true
  | [], _ => rfl
  | d :: ds, h => by
    have h' : d.pure = true ∧ D.pureL ds = true := by simpa [D.pureL] using h
    simp [D.ltL, lt_pure n d h'.1, ltL_pure n ds h'.2]
end
end Go.Proofs.Ytaplihoeephbeaa.V
end
section
namespace Go.Proofs.Ytaplihoeephbeaa.V
open Go Go.Proofs
set_option maxRecDepth 100000
set_option maxHeartbeats 40000000
theorem own_rowI (l : List Int) : Objs.own [rowI l] := fun i j => by
  match i, j with
  | 0, 0 => exact ownL_ints l
  | 0, j + 1 => rfl
  | i + 1, j => cases i <;> cases j <;> rfl
end Go.Proofs.Ytaplihoeephbeaa.V
end
section
namespace Go.Proofs.Ytaplihoeephbeaa.V
open Go Go.Proofs
set_option maxRecDepth 100000
set_option maxHeartbeats 40000000
theorem take84 {b : Nat} {m : Int} {st : List (Bool × List Int)} {g : Gl} {G : List Int} (h : PoOk b m st g G) (hb : b ≤ 900) (w : Int) : Spec Try.prog 84 [.ptr 0 0 2 0 0, .int .i64 w] (poO m st g) (poX (b + 1) m (fun d => d = .tup [.int .i64 (takeP (st.map (·.2)) G w).2.2.1, .int .i64 (takeP (st.map (·.2)) G w).2.2.2]) (takeP (st.map (·.2)) G w).1 (takeP (st.map (·.2)) G w).2.1) := by
  unfold takeP
  rw [List.length_map]
  by_cases hw : 0 ≤ w ∧ w < st.length
  · rw [if_pos hw]
    obtain ⟨i, rfl⟩ := Int.eq_ofNat_of_zero_le hw.1
    have hi : i < st.length := by omega
    obtain ⟨o, hs⟩ := st_get hi
    have hm := h.r
    obtain ⟨l, hl⟩ : ∃ l, qAt (st.map (·.2)) i = l := ⟨_, rfl⟩
    have hll := h.l _ (List.mem_of_getElem? hs)
    rw [Int.toNat_natCast]
    rw [hl] at hs hll ⊢
    dsimp only at hll
    refine Spec.by Try.func84 rfl (by decide) (by decide +kernel) rfl ?_
    (refine goA ?_)
    refine Call.mk (is157 (i : Int)) ?_
    rintro d os' ⟨rfl, rfl⟩
    rw [decide_eq_true hw]
    (refine goA ?_)
    refine Opt.of (ptrs_get0 hi) ?_
    (refine goA ?_)
    refine Call.mk (pop_pool hs (by omega)) ?_
    rintro d os' (⟨h1, rfl, rfl⟩ | ⟨v, h1, rfl, rfl⟩)
    · subst h1
      (refine goA ?_)
      refine Call.mk (first159 h hb) ?_
      rintro d os' ⟨g', ⟨rfl, hg⟩, rfl⟩
      (refine goA ?_)
      refine Ret.weak (Weak.trans (Weak.on [(4, .int .i64 (popC G).1), (5, .int .i64 (popC G).2)] (poO m st g')) (Weak.toU0 rfl)) ?_
      exact Ret.mk [.tmp 4, .tmp 5] rfl ⟨st, g', none, ⟨rfl, hg, rfl, fun _ h => by cases h⟩, rfl⟩
    · rw [h1]
      dsimp only
      (refine goA ?_)
      refine Ret.weak (Weak.trans (Weak.on [(4, .int .i64 v), (5, .int .i64 0)] (poO m (st.set i (false, l.dropLast)) g)) (Weak.toU0 rfl)) ?_
      exact Ret.mk [.tmp 4, .tmp 5] rfl ⟨_, g, none, ⟨rfl, h.set i (false, l.dropLast) (by show ((l.dropLast).length : Int) ≤ m; rw [List.length_dropLast]; omega), by rw [List.map_set], fun _ h => by cases h⟩, rfl⟩
  · rw [if_neg hw]
    refine Spec.by Try.func84 rfl (by decide) (by decide +kernel) rfl ?_
    (refine goA ?_)
    refine Call.mk (is157 w) ?_
    rintro d os' ⟨rfl, rfl⟩
    rw [decide_eq_false hw]
    (refine goA ?_)
    refine Ret.weak (Weak.trans (Weak.on [(4, .int .i64 0), (5, .int .i64 5)] (poO m st g)) (Weak.toU0 rfl)) ?_
    exact Ret.mk [.tmp 4, .tmp 5] rfl ⟨st, g, none, ⟨rfl, h.up, rfl, fun _ h => by cases h⟩, rfl⟩
theorem steal87 {b : Nat} {m : Int} {st : List (Bool × List Int)} {g : Gl} {G : List Int} (h : PoOk b m st g G) (hb : b ≤ 900) (w f : Int) : Spec Try.prog 87 [.ptr 0 0 2 0 0, .int .i64 w, .int .i64 f] (poO m st g) (poX (b + 1) m (fun d => d = .tup [.int .i64 (stealP (st.map (·.2)) w f).2.1, .int .i64 (stealP (st.map (·.2)) w f).2.2]) (stealP (st.map (·.2)) w f).1 G) := by
  unfold stealP
  rw [List.length_map]
  by_cases hw : 0 ≤ w ∧ w < st.length
  · by_cases hf : 0 ≤ f ∧ f < st.length
    · rw [if_pos ⟨hw, hf⟩]
      by_cases he : w = f
      · rw [if_pos he]
        refine Spec.by Try.func87 rfl (by decide) (by decide +kernel) rfl ?_
        (refine goA ?_)
        refine Call.mk (is157 w) ?_
        rintro d os' ⟨rfl, rfl⟩
        rw [decide_eq_true hw]
        (refine goA ?_)
        refine Call.mk (is157 f) ?_
        rintro d os' ⟨rfl, rfl⟩
        rw [decide_eq_true hf]
        (refine goA ?_)
        refine Ret.weak (Weak.trans (Weak.on [(6, .int .i64 0), (7, .int .i64 1)] (poO m st g)) (Weak.toU0 rfl)) ?_
        exact Ret.mk [.tmp 6, .tmp 7] rfl ⟨st, g, none, ⟨rfl, h.up, rfl, fun _ h => by cases h⟩, rfl⟩
      · rw [if_neg he]
        obtain ⟨i, rfl⟩ := Int.eq_ofNat_of_zero_le hf.1
        have hi : i < st.length := by omega
        obtain ⟨o, hs⟩ := st_get hi
        have hm := h.r
        obtain ⟨l, hl⟩ : ∃ l, qAt (st.map (·.2)) i = l := ⟨_, rfl⟩
        have hll := h.l _ (List.mem_of_getElem? hs)
        rw [Int.toNat_natCast]
        rw [hl] at hs hll ⊢
        dsimp only at hll
        refine Spec.by Try.func87 rfl (by decide) (by decide +kernel) rfl ?_
        (refine goA ?_)
        refine Call.mk (is157 w) ?_
        rintro d os' ⟨rfl, rfl⟩
        rw [decide_eq_true hw]
        (refine goA ?_)
        refine Call.mk (is157 (i : Int)) ?_
        rintro d os' ⟨rfl, rfl⟩
        rw [decide_eq_true hf]
        (refine goA ?_)
        refine Opt.of (ptrs_get0 hi) ?_
        (refine goA ?_)
        refine Call.mk (steal_pool hs (by omega)) ?_
        rintro d os' (⟨h1, rfl, rfl⟩ | ⟨v, h1, rfl, rfl⟩)
        · subst h1
          (refine goA ?_)
          refine Ret.weak (Weak.trans (Weak.on [(6, .int .i64 0), (7, .int .i64 7)] (poO m st g)) (Weak.toU0 rfl)) ?_
          exact Ret.mk [.tmp 6, .tmp 7] rfl ⟨st, g, none, ⟨rfl, h.up, rfl, fun _ h => by cases h⟩, rfl⟩
        · rw [h1]
          dsimp only
          (refine goA ?_)
          refine Ret.weak (Weak.trans (Weak.on [(6, .int .i64 v), (7, .int .i64 0)] (poO m (st.set i (false, l.tail)) g)) (Weak.toU0 rfl)) ?_
          exact Ret.mk [.tmp 6, .tmp 7] rfl ⟨_, g, none, ⟨rfl, h.set i (false, l.tail) (by show ((l.tail).length : Int) ≤ m; rw [List.length_tail]; omega), by rw [List.map_set], fun _ h => by cases h⟩, rfl⟩
    · rw [if_neg (fun h => hf h.2)]
      refine Spec.by Try.func87 rfl (by decide) (by decide +kernel) rfl ?_
      (refine goA ?_)
      refine Call.mk (is157 w) ?_
      rintro d os' ⟨rfl, rfl⟩
      rw [decide_eq_true hw]
      (refine goA ?_)
      refine Call.mk (is157 f) ?_
      rintro d os' ⟨rfl, rfl⟩
      rw [decide_eq_false hf]
      (refine goA ?_)
      refine Ret.weak (Weak.trans (Weak.on [(6, .int .i64 0), (7, .int .i64 5)] (poO m st g)) (Weak.toU0 rfl)) ?_
      exact Ret.mk [.tmp 6, .tmp 7] rfl ⟨st, g, none, ⟨rfl, h.up, rfl, fun _ h => by cases h⟩, rfl⟩
  · rw [if_neg (fun h => hw h.1)]
    refine Spec.by Try.func87 rfl (by decide) (by decide +kernel) rfl ?_
    (refine goA ?_)
    refine Call.mk (is157 w) ?_
    rintro d os' ⟨rfl, rfl⟩
    rw [decide_eq_false hw]
    (refine goA ?_)
    refine Ret.weak (Weak.trans (Weak.on [(6, .int .i64 0), (7, .int .i64 5)] (poO m st g)) (Weak.toU0 rfl)) ?_
    exact Ret.mk [.tmp 6, .tmp 7] rfl ⟨st, g, none, ⟨rfl, h.up, rfl, fun _ h => by cases h⟩, rfl⟩
theorem workers176 {m : Int} {st : List (Bool × List Int)} {g : Gl} : Spec Try.prog 176 [.ptr 0 0 2 0 0] (poO m st g) (fun d os' => d = .int .i64 st.length ∧ os' = poO m st g) := by
  refine Spec.by Try.func176 rfl (by decide) (by decide +kernel) rfl ?_
  (refine goA ?_)
  exact Ret.mk [.tmp 2] rfl ⟨rfl, rfl⟩
theorem list88e (room : Int) : Spec Try.prog 88 [.ptr 0 0 2 0 0] [dqA room 0 1, rowI []] (fun d os' => d = ints [] ∧ os' = [dqA room 0 1, rowI []]) := by
  refine Spec.weak (post := fun d os' => d = .sl 2 0 1 0 0 none ∧ os' = [dqA room 0 1, rowI [], rowI []]) ?_ (by
    rintro d os' ⟨rfl, rfl⟩
    exact ⟨_, _, Weak.trans (Weak.frzK (fun i => Nat.beq i 2) [(0, ints [])] ⟨View.slAll rfl rfl rfl (by simp) (ViewL.same _) rfl, trivial⟩) (Weak.trim 2 (Nat.le_refl _) rfl (Nat.le_of_ble_eq_true rfl)), rfl, rfl⟩)
  refine Spec.by Try.func88 rfl (by decide) (by decide +kernel) rfl ?_
  (refine goA ?_)
  refine Call.mk ((clone130w [] (by simp)).fresh (.cons (View.slAll (t := 3) (pr := true) (es := []) rfl rfl rfl (by simp) (ViewL.same _) rfl) .nil) rfl (by rintro d os' ⟨rfl, rfl⟩; exact ⟨rfl, own_rowI []⟩)) ?_
  rintro d os' ⟨d1, os1, ⟨rfl, rfl⟩, rfl, rfl⟩
  (refine goA ?_)
  exact Ret.mk [.tmp 2] rfl ⟨rfl, rfl⟩
theorem list88' (own : Bool) (room : Int) (l : List Int) (hl : l.length ≤ 1000000) : Spec Try.prog 88 [.ptr 0 0 2 0 0] (dqO own room l 1) (fun d os' => d = ints l ∧ os' = dqO own room l 1) := by
  by_cases hn : l = []
  · cases own with
    | true => subst hn; exact list88e room
    | false => exact list88 false room l hl (fun h => Bool.noConfusion h)
  · exact list88 own room l hl (fun _ => hn)
theorem own82 {b : Nat} {m : Int} {st : List (Bool × List Int)} {g : Gl} {G : List Int} (h : PoOk b m st g G) (w : Int) : Spec Try.prog 82 [.ptr 0 0 2 0 0, .int .i64 w] (poO m st g) (fun d os' => d = ints (if 0 ≤ w ∧ w < st.length then qAt (st.map (·.2)) w.toNat else []) ∧ os' = poO m st g) := by
  by_cases hw : 0 ≤ w ∧ w < st.length
  · rw [if_pos hw]
    obtain ⟨i, rfl⟩ := Int.eq_ofNat_of_zero_le hw.1
    have hi : i < st.length := by omega
    obtain ⟨o, hs⟩ := st_get hi
    have hm := h.r
    have hll := h.l _ (List.mem_of_getElem? hs)
    rw [Int.toNat_natCast]
    dsimp only at hll
    refine Spec.by Try.func82 rfl (by decide) (by decide +kernel) rfl ?_
    (refine goA ?_)
    refine Call.mk (is157 (i : Int)) ?_
    rintro d os' ⟨rfl, rfl⟩
    rw [decide_eq_true hw]
    (refine goA ?_)
    refine Opt.of (ptrs_get0 hi) ?_
    (refine goA ?_)
    refine Call.mk (dq_poolL hs (list88' o m _ (by omega)) rfl (by rintro d rfl; rfl)) ?_
    rintro d os' ⟨rfl, rfl⟩
    (refine goA ?_)
    exact Ret.mk [.tmp 4] rfl ⟨rfl, rfl⟩
  · rw [if_neg hw]
    refine Spec.by Try.func82 rfl (by decide) (by decide +kernel) rfl ?_
    (refine goA ?_)
    refine Call.mk (is157 w) ?_
    rintro d os' ⟨rfl, rfl⟩
    rw [decide_eq_false hw]
    (refine goA ?_)
    refine Ret.weak (Weak.val 4 (ints []) (fun ρ I v h => rep_nilsL 1 false h)) ?_
    exact Ret.mk [.tmp 4] rfl ⟨rfl, rfl⟩
end Go.Proofs.Ytaplihoeephbeaa.V
end
section
namespace Go.Proofs.Ytaplihoeephbeaa.V
open Go Go.Proofs
set_option maxRecDepth 100000
set_option maxHeartbeats 40000000
theorem ltL_app (n : Nat) : ∀ (a b : List D), D.ltL n (a ++ b) = (D.ltL n a && D.ltL n b)
  | [], b => rfl
  | x :: a, b => by rw [List.cons_append, D.ltL, D.ltL, ltL_app n a b, Bool.and_assoc]
mutual
theorem ltD_mono {a b : Nat} (h : a ≤ b) : ∀ (d : D), d.lt a = true → d.lt b = true
  | .int _ _, _ | .bool _, _ | .str _, _ | .nilp, _ | .nils, _ | .nilf, _ | .junk, _ | .pel .., _ | .lst .., _ => rfl
  | .ptr i j sz e off, hl | .sl i j sz lo len cap, hl | .mp i j, hl | .yl i j, hl => by
    have hi : i < a := Nat.le_of_ble_eq_true hl
    exact Nat.ble_eq_true_of_le (show i + 1 ≤ b by omega)
  | .agg cs, hl | .tup cs, hl => ltL_mono h cs hl
  | .fn f x y, hl => by
    have hl' : D.ltL a x = true ∧ D.ltL a y = true := by simpa [D.lt] using hl
    simp [D.lt, ltL_mono h x hl'.1, ltL_mono h y hl'.2]
theorem ltL_mono {a b : Nat} (h : a ≤ b) : ∀ (ds : List D), D.ltL a ds = true → D.ltL b ds = true
  | [], _ => rfl
  | d :: ds, hl => by
    have hl' : d.lt a = true ∧ D.ltL a ds = true := by simpa [D.ltL] using hl
    simp [D.ltL, ltD_mono h d hl'.1, ltL_mono h ds hl'.2]
end
theorem lt_mono {a b : Nat} (h : a ≤ b) (o : O) (hl : o.lt a = true) : o.lt b = true := by
  cases o with
  | gone => rfl
  | row t sz p es => cases p with
    | true => rfl
    | false => exact ltL_mono h es hl
  | map es => exact ltL_mono h _ hl
  | loop r st pe sl => exact ltL_mono h _ hl
theorem poO_lt (m : Int) (st : List (Bool × List Int)) (g : Gl) (i j : Nat) : ((poO m st g).at i j).lt 7 = true := by
  match i, j with
  | 0, 0 => rfl
  | 1, 0 => exact ptrs_lt 7 rfl _
  | 2, j => show (cellF m st j).lt 7 = true; unfold cellF; split <;> rfl
  | 3, j => show (rwF st j).lt 7 = true; unfold rwF; split <;> rfl
  | 4, 0 =>
    show D.ltL 7 (bif g.c then List.replicate g.k .junk ++ [.ptr 5 0 4 0 0] else List.replicate g.k .junk) = true
    cases g.c
    · exact junk_lt 7 _
    · show D.ltL 7 (_ ++ _) = true
      rw [ltL_app, junk_lt]; rfl
  | 5, 0 => show (poRi g 6).lt 7 = true; unfold poRi; cases g.c <;> rfl
  | 6, 0 => show (poRw g).lt 7 = true; unfold poRw; cases g.c <;> rfl
  | 0, j + 1 | 1, j + 1 | 4, j + 1 | 5, j + 1 | 6, j + 1 => rfl
  | i + 7, j => rfl
theorem Weak.poTrim {n0 : Nat} {sl : List (Nat × D)} {m : Int} {st : List (Bool × List Int)} {g : Gl} {r : Objs} (hn : n0 ≤ 7) (hm : (sl.all fun p => p.2.lt 7) = true) : Weak n0 { m := sl, objs := poO m st g ++ r } { m := sl, objs := poO m st g } :=
  Weak.takeF (os := poO m st g ++ r) 7 hn hm (fun i j hi => by rw [at_lt _ _ _ (show i < (poO m st g).length from hi)]; exact poO_lt m st g i j) (by rw [List.length_append]; exact Nat.le_add_right 7 _)
/-- The objects from number k on are left. -/
theorem Weak.poTrimR {n0 : Nat} {sl : List (Nat × D)} {m : Int} {st : List (Bool × List Int)} {g : Gl} {r : Objs} (k : Nat) (hn : n0 ≤ 7 ∧ 7 ≤ k) (hm : (sl.all fun p => p.2.lt k) = true) (hr : ((r.take (k - 7)).all fun F => F.lt k) = true) (hl : k ≤ 7 + r.length) : Weak n0 { m := sl, objs := poO m st g ++ r } { m := sl, objs := poO m st g ++ r.take (k - 7) } := by
  have e : (poO m st g ++ r).take k = poO m st g ++ r.take (k - 7) := by
    rw [List.take_append, List.take_of_length_le (show (poO m st g).length ≤ k from hn.2)]; rfl
  rw [← e]
  refine Weak.takeF (os := poO m st g ++ r) k (by omega) hm (fun i j hi => ?_) (by rw [List.length_append]; exact hl)
  rcases Nat.lt_or_ge i 7 with h | h
  · rw [at_lt _ _ _ (show i < (poO m st g).length from h)]
    exact lt_mono hn.2 _ (poO_lt m st g i j)
  · have e2 := at_r (poO m st g) r j (show (poO m st g).length ≤ i from h)
    rw [e2]
    show (r.at (i - 7) j).lt k = true
    have e3 : r.at (i - 7) j = Objs.at (r.take (k - 7)) (i - 7) j := by rw [at_take, if_pos (by omega)]
    rw [e3]
    unfold Objs.at
    rw [List.getD_eq_getElem?_getD]
    cases hx : (r.take (k - 7))[i - 7]? with
    | none => rfl
    | some F =>
      have := List.all_eq_true.1 hr F (List.mem_of_getElem? hx)
      cases F with
      | one o => cases j with
        | zero => exact this
        | succ j => rfl
      | fam f => simp [Fam.lt] at this
      | rows t sz C => rfl
theorem global83 {b : Nat} {m : Int} {st : List (Bool × List Int)} {g : Gl} {G : List Int} (h : PoOk b m st g G) (hb : b ≤ 900) : Spec Try.prog 83 [.ptr 0 0 2 0 0] (poO m st g) (fun d os' => d = ints G ∧ os' = poO m st g) := by
  obtain ⟨k, c, a, n, L⟩ := g
  have hG := h.G
  cases c with
  | false =>
    have hG0 : G = [] := h.f rfl
    subst hG0
    show Spec Try.prog 83 _ (poE m st k) _
    refine Spec.by Try.func83 rfl (by decide) (by decide +kernel) rfl ?_
    (refine goA ?_)
    refine Loop.inv (A := Nat) (List.range 27) (fun i => [(3, .ptr 7 0 1 0 0), (12, .int .i64 0), (13, .int .i64 0)]) (fun _ => poE m st k ++ [one (.row 23 1 false [.nils])]) (fun _ => True) (fun _ => 0) 0 trivial ?_ ?_
    · exact Weak.start' rfl rfl tld
    rintro _ _
    (refine goA ?_)
    refine Ret.weak (Weak.trans (Weak.on [(2, .nils)] (poO m st ⟨k, false, a, n, L⟩ ++ [one (.row 23 1 false [.nils])])) (Weak.trans (Weak.val 2 (ints []) (fun ρ I v h => rep_nilsL 1 false h)) (Weak.poTrim (Nat.le_refl _) rfl))) ?_
    exact Ret.mk [.tmp 2] rfl ⟨rfl, rfl⟩
  | true =>
    have hR := h.t rfl
    have hnl := hR.nl
    show Spec Try.prog 83 _ (poT m st k a n L) _
    dsimp only at hnl hR
    refine Spec.by Try.func83 rfl (by decide) (by decide +kernel) rfl ?_
    (refine goA ?_)
    refine Loop.inv (A := Nat × List Int) (List.range 27) (fun x => [(3, .ptr 7 0 1 0 0), (11, .sl 4 0 1 k 1 none), (12, .int .i64 1), (13, .int .i64 (x.1 : Int))]) (fun x => poT m st k a n L ++ [one (.row 23 1 false [.sl 8 0 1 0 x.2.length none]), rowI x.2]) (fun x => (x.1 = 0 ∧ x.2 = []) ∨ (x.1 = 1 ∧ x.2 = G)) (fun x => 1 - x.1) (0, []) (.inl ⟨rfl, rfl⟩) ?_ ?_
    · refine Weak.trans (Weak.nilO 7 8 rfl (es := [.nils]) rfl [.sl 8 0 1 0 0 none] rfl (.cons (.nils _ _) (.same _ _)) 3 1 true) ?_
      exact Weak.start' rfl rfl tld
    rintro ⟨i, X⟩ (⟨h1, h2⟩ | ⟨h1, h2⟩)
    · dsimp only at h1 h2
      subst h1 h2
      (refine goA ?_)
      refine Opt.of (junk_get k (.ptr 5 0 4 0 0)) ?_
      (refine goA ?_)
      refine Call.mk (all126 5 _) ?_
      rintro d os' ⟨rfl, rfl⟩
      (refine goA ?_)
      refine Rng.mk (f := 189) (fn := Try.f189) [(3, .ptr 7 0 1 0 0), (11, .sl 4 0 1 k 1 none), (12, .int .i64 1), (13, .int .i64 0), (18, .fn (.func 189) [] [.ptr 9 0 1 0 0])] (poT m st k a n L ++ [one (.row 23 1 false [.sl 8 0 1 0 0 none]), rowI [], one (.row 56 1 false [.ptr 5 0 4 0 0])]) (Weak.only _ _ (by kernel_rfl) tld) tld rfl Try.func189 rfl rfl (by decide +kernel) rfl rfl (by decide) ?_
      intro gf tm df
      generalize hr : (⟨.ready, none, gf, tm, #[19, 20], _, _, df⟩ : Go.Loop) = r
      (refine goA ?_)
      refine Loop.inv (A := Nat) (List.range 25) (fun i => [(0, .yl 10 0), (1, .ptr 9 0 1 0 0), (9, .int .i64 n), (10, .int .i64 (i : Int))]) (fun i => poT m st k a n L ++ [one (.row 23 1 false [.sl 8 0 1 0 i none]), rowI (G.take i), one (.row 56 1 false [.ptr 5 0 4 0 0]), one (.loop r .ready none [(3, .ptr 7 0 1 0 0), (11, .sl 4 0 1 k 1 none), (12, .int .i64 1), (13, .int .i64 0), (18, .fn (.func 189) [] [.ptr 9 0 1 0 0])])]) (fun i => i ≤ G.length) (fun i => G.length - i) 0 (Nat.zero_le _) ?_ ?_
      · exact Weak.start' rfl rfl tld
      rintro i hi
      (refine goA ?_)
      refine Br.dec (fun h0 => ?_) (fun h0 => ?_)
      · have hil : i < G.length := by omega
        have e1 : atV G i = G[i] := by
          unfold atV
          rw [if_pos (by omega), List.getD_eq_getElem?_getD, Int.toNat_natCast, List.getElem?_eq_getElem hil]
          rfl
        have e2 : decide (0 ≤ (i : Int) ∧ (i : Int) < (G.length : Int)) = true := decide_eq_true (by omega)
        (refine goA ?_)
        refine Call.mk (Spec.rgR (at146 hR i) 5 6 _ rfl rfl (by decide) rfl (by rintro d rfl; rfl)) ?_
        rintro d os' ⟨rfl, rfl⟩
        rw [e1, e2]
        (refine goA ?_)
        rw [← hr]
        refine Yld.mk [(3, .ptr 7 0 1 0 0), (11, .sl 4 0 1 k 1 none), (12, .int .i64 1), (13, .int .i64 0), (18, .fn (.func 189) [] [.ptr 9 0 1 0 0])] rfl rfl ?_
        have hlt : ((G.take i).map (D.int .i64)).length = i := by rw [List.length_map, List.length_take]; omega
        (refine goA ?_)
        refine ⟨_, rfl, ?_⟩
        (refine goA ?_)
        refine App.only false rfl rfl ?_
        (refine goA ?_)
        refine ⟨_, rfl, ?_⟩
        (refine goA ?_)
        refine ⟨_, _, _, ?_, ⟨i + 1, ?_, rfl, rfl, rfl⟩, ?_⟩
        · show G.length - (i + 1) < G.length - i; omega
        · exact hil
        · rw [hr]
          have hA := poO_lt m st ⟨k, true, a, n, L⟩
          refine Weak.trans (Weak.only [(0, .yl 10 0), (1, .ptr 9 0 1 0 0), (9, .int .i64 n), (10, .int .i64 ((i : Int) + 1))] (poT m st k a n L ++ [one (.row 23 1 false [.sl 11 0 1 0 (i + 1) none]), one .gone, one (.row 56 1 false [.ptr 5 0 4 0 0]), one (.loop r .ready none [(3, .ptr 7 0 1 0 0), (11, .sl 4 0 1 k 1 none), (12, .int .i64 1), (13, .int .i64 0), (18, .fn (.func 189) [] [.ptr 9 0 1 0 0])]), one (.row 3 1 true ((G.take i).map (D.int .i64) ++ [.int .i64 G[i]]))]) (by kernel_rfl) tld) ?_
          rw [map_snoc, show G.take i ++ [G[i]] = G.take (i + 1) by rw [List.take_add_one, List.getElem?_eq_getElem hil]; rfl]
          refine Weak.trans (Weak.swapR (A := poT m st k a n L) (r' := [one (.row 23 1 false [.sl 8 0 1 0 (i + 1) none]), rowI (G.take (i + 1)), one (.row 56 1 false [.ptr 5 0 4 0 0]), one (.loop r .ready none [(3, .ptr 7 0 1 0 0), (11, .sl 4 0 1 k 1 none), (12, .int .i64 1), (13, .int .i64 0), (18, .fn (.func 189) [] [.ptr 9 0 1 0 0])]), one .gone]) 11 8 hA (Nat.le_refl 7) ⟨Nat.le_of_ble_eq_true rfl, Nat.le_of_ble_eq_true rfl⟩ ⟨Nat.le_of_ble_eq_true rfl, Nat.le_of_ble_eq_true rfl⟩ rfl (fun i j hi => by
            match i, j, hi with
            | 0, 0, _ | 1, 0, _ | 2, 0, _ | 3, 0, _ | 4, 0, _ => rfl
            | 0, j + 1, _ | 1, j + 1, _ | 2, j + 1, _ | 3, j + 1, _ | 4, j + 1, _ => rfl)) ?_
          exact Weak.poTrimR (g := ⟨k, true, a, n, L⟩) (r := [one (.row 23 1 false [.sl 8 0 1 0 (i + 1) none]), rowI (G.take (i + 1)), one (.row 56 1 false [.ptr 5 0 4 0 0]), one (.loop r .ready none [(3, .ptr 7 0 1 0 0), (11, .sl 4 0 1 k 1 none), (12, .int .i64 1), (13, .int .i64 0), (18, .fn (.func 189) [] [.ptr 9 0 1 0 0])]), one .gone]) 11 ⟨Nat.le_refl 7, Nat.le_of_ble_eq_true rfl⟩ rfl rfl (Nat.le_of_ble_eq_true rfl)
      · have hil : i = G.length := by omega
        subst hil
        (refine goA ?_)
        refine After.mk 10 .ready none _ rfl (by decide) ?_
        (refine goA ?_)
        refine ⟨_, _, _, ?_, ⟨(1, G), ?_, rfl, rfl, rfl⟩, ?_⟩
        · show 1 - 1 < 1 - 0; omega
        · exact .inr ⟨rfl, rfl⟩
        · rw [List.take_length]
          refine Weak.trans (Weak.only [(3, .ptr 7 0 1 0 0), (11, .sl 4 0 1 k 1 none), (12, .int .i64 1), (13, .int .i64 (0 + 1))] (poT m st k a n L ++ [one (.row 23 1 false [.sl 8 0 1 0 G.length none]), rowI G, one (.row 56 1 false [.ptr 5 0 4 0 0]), one .gone]) (by kernel_rfl) tld) ?_
          exact Weak.poTrimR (g := ⟨k, true, a, n, L⟩) (r := [one (.row 23 1 false [.sl 8 0 1 0 G.length none]), rowI G, one (.row 56 1 false [.ptr 5 0 4 0 0]), one .gone]) 9 ⟨Nat.le_refl 7, Nat.le_of_ble_eq_true rfl⟩ rfl rfl (Nat.le_of_ble_eq_true rfl)
    · dsimp only at h1 h2
      subst h1 h2
      have hXm : (X.map (D.int .i64)).length = X.length := List.length_map ..
      (refine goA ?_)
      refine Ret.frz (fun i => Nat.beq i 8) [(2, ints X)] ⟨View.slAll rfl rfl hXm (by simp) (ViewL.same _) (pureL_map (fun _ => rfl) _), trivial⟩ ?_
      refine Ret.weak (Weak.trans (Weak.on [(2, ints X)] (poO m st ⟨k, true, a, n, L⟩ ++ [one (.row 23 1 false [.sl 8 0 1 0 X.length none]), one .gone])) (Weak.poTrim (Nat.le_refl _) rfl)) ?_
      exact Ret.mk [.tmp 2] rfl ⟨rfl, rfl⟩
end Go.Proofs.Ytaplihoeephbeaa.V
end
section
namespace Go.Proofs.Ytaplihoeephbeaa.V
open Go Go.Proofs
set_option maxRecDepth 100000
set_option maxHeartbeats 40000000
def catL (L : List (List Int)) : List Int := L.flatMap id
theorem catL_len : ∀ (st : List (Bool × List Int)), (∀ s ∈ st, s.2.length ≤ 8) → (catL (st.map (·.2))).length ≤ 8 * st.length
  | [], _ => Nat.le_refl _
  | s :: st, h => by
    have h1 := h s (by simp)
    have h2 := catL_len st (fun x hx => h x (by simp [hx]))
    have e : catL ((s :: st).map (·.2)) = s.2 ++ catL (st.map (·.2)) := rfl
    rw [e, List.length_append, List.length_cons]
    omega
theorem all160 {b : Nat} {m : Int} {st : List (Bool × List Int)} {g : Gl} {G : List Int} (h : PoOk b m st g G) (hb : b ≤ 900) : Spec Try.prog 160 [.ptr 0 0 2 0 0] (poO m st g) (fun d os' => d = ints (catL (st.map (·.2)) ++ G) ∧ os' = poO m st g) := by
  have hn := h.n
  have hpl := ptrs_len st.length
  refine Spec.by Try.func160 rfl (by decide) (by decide +kernel) rfl ?_
  (refine goR ?_)
  ((with_reducible refine Pt.go ?_); conv => whnf)
  (refine goR ?_)
  ((with_reducible refine Pt.go ?_); conv => whnf)
  (refine goR ?_)
  refine Pt.weak (Weak.trans (Weak.on [(0, .ptr 0 0 2 0 0), (3, .nils)] (poO m st g)) (Weak.nilrow 3 rfl 3 1 true)) ?_
  (refine goA ?_)
  refine Loop.inv (A := Nat) (List.range 28) (fun i => [(0, .ptr 0 0 2 0 0), (3, .sl 7 0 1 0 (catL ((st.take i).map (·.2))).length none), (9, .sl 1 0 1 0 st.length none), (10, .int .i64 (st.length : Int)), (11, .int .i64 (i : Int))]) (fun i => poO m st g ++ [rowI (catL ((st.take i).map (·.2)))]) (fun i => i ≤ st.length) (fun i => st.length - i) 0 (Nat.zero_le _) ?_ ?_
  · exact Weak.start' rfl rfl tld
  intro i hi
  (refine goA ?_)
  refine Br.dec (fun h0 => ?_) (fun h0 => ?_)
  · have hil : i < st.length := by omega
    obtain ⟨o, hs⟩ := st_get hil
    obtain ⟨l, hl⟩ : ∃ l, qAt (st.map (·.2)) i = l := ⟨_, rfl⟩
    rw [hl] at hs
    (refine goA ?_)
    refine Opt.of (ptrs_get0 hil) ?_
    (refine goA ?_)
    have hat : Objs.at (poO m st g ++ [rowI (catL ((st.take i).map (·.2)))]) 2 (i : Int).toNat = _ := cellF_some (m := m) hs
    have hat3 : Objs.at (poO m st g ++ [rowI (catL ((st.take i).map (·.2)))]) 3 (i : Int).toNat = _ := rwF_some hs
    have hsn : catL ((st.take i).map (·.2)) ++ l = catL ((st.take (i + 1)).map (·.2)) := by
      rw [List.take_add_one, hs, List.map_append]
      unfold catL
      rw [List.flatMap_append]
      simp
    have hlm : (l.map (D.int .i64)).length = l.length := List.length_map ..
    have hll := h.l _ (List.mem_of_getElem? hs)
    have hm := h.r
    dsimp only at hll
    have hcl := catL_len (st.take i) (fun s hs => by have := h.l s (List.mem_of_mem_take hs); omega)
    rw [List.length_take] at hcl
    have hcm : ((catL ((st.take i).map (·.2))).map (D.int .i64)).length = (catL ((st.take i).map (·.2))).length := List.length_map ..
    rw [hat]
    cases o with
    | true =>
      dsimp only [cond_true] at hat3
      have htk : List.take l.length (List.drop 0 (l.map (D.int .i64))) = l.map (D.int .i64) := by rw [List.drop_zero, List.take_of_length_le (by rw [hlm]; exact Nat.le_refl _)]
      (refine goA ?_)
      rw [hat3]
      (refine goA ?_)
      rw [htk]
      refine And.intro (fun _ => pureL_map (fun _ => rfl) _) ?_
      refine And.intro (by show (_ + _) * 8 ≤ _; rw [hlm]; omega) (And.intro (by rw [hlm]; omega) ?_)
      (refine goA ?_)
      refine ⟨_, _, _, ?_, ⟨i + 1, ?_, rfl, rfl, rfl⟩, ?_⟩
      · show st.length - (i + 1) < st.length - i; omega
      · exact hil
      · refine Weak.trans (Weak.only [(0, .ptr 0 0 2 0 0), (3, .sl 8 0 1 0 ((catL ((st.take i).map (·.2))).length + (l.map (D.int .i64)).length) none), (9, .sl 1 0 1 0 st.length none), (10, .int .i64 (st.length : Int)), (11, .int .i64 ((i : Int) + 1))] (poO m st g ++ [one .gone, one (.row 3 1 true ((catL ((st.take i).map (·.2))).map (D.int .i64) ++ l.map (D.int .i64)))]) (by kernel_rfl) tld) ?_
        rw [hlm, ← List.length_append, ← List.map_append, hsn]
        refine Weak.trans (Weak.swapR (A := poO m st g) (r' := [rowI (catL ((st.take (i + 1)).map (·.2))), one .gone]) 8 7 (poO_lt m st g) (Nat.le_refl 7) ⟨Nat.le_of_ble_eq_true rfl, Nat.le_of_ble_eq_true rfl⟩ ⟨Nat.le_of_ble_eq_true rfl, Nat.le_of_ble_eq_true rfl⟩ rfl (fun i j hi => by
            match i, j, hi with
            | 0, 0, _ | 1, 0, _ => rfl
            | 0, j + 1, _ | 1, j + 1, _ => rfl)) ?_
        refine Weak.poTrimR (r := [rowI (catL ((st.take (i + 1)).map (·.2))), one .gone]) 8 ⟨Nat.le_refl 7, Nat.le_of_ble_eq_true rfl⟩ ?_ rfl (Nat.le_of_ble_eq_true rfl)
        rfl
    | false =>
      (refine goA ?_)
      refine And.intro (by show (_ + _) * 8 ≤ _; rw [hlm]; omega) (And.intro (by rw [hlm]; omega) ?_)
      (refine goA ?_)
      refine ⟨_, _, _, ?_, ⟨i + 1, ?_, rfl, rfl, rfl⟩, ?_⟩
      · show st.length - (i + 1) < st.length - i; omega
      · exact hil
      · refine Weak.trans (Weak.only [(0, .ptr 0 0 2 0 0), (3, .sl 8 0 1 0 ((catL ((st.take i).map (·.2))).length + (l.map (D.int .i64)).length) none), (9, .sl 1 0 1 0 st.length none), (10, .int .i64 (st.length : Int)), (11, .int .i64 ((i : Int) + 1))] (poO m st g ++ [one .gone, one (.row 3 1 true ((catL ((st.take i).map (·.2))).map (D.int .i64) ++ l.map (D.int .i64)))]) (by kernel_rfl) tld) ?_
        rw [hlm, ← List.length_append, ← List.map_append, hsn]
        refine Weak.trans (Weak.swapR (A := poO m st g) (r' := [rowI (catL ((st.take (i + 1)).map (·.2))), one .gone]) 8 7 (poO_lt m st g) (Nat.le_refl 7) ⟨Nat.le_of_ble_eq_true rfl, Nat.le_of_ble_eq_true rfl⟩ ⟨Nat.le_of_ble_eq_true rfl, Nat.le_of_ble_eq_true rfl⟩ rfl (fun i j hi => by
            match i, j, hi with
            | 0, 0, _ | 1, 0, _ => rfl
            | 0, j + 1, _ | 1, j + 1, _ => rfl)) ?_
        refine Weak.poTrimR (r := [rowI (catL ((st.take (i + 1)).map (·.2))), one .gone]) 8 ⟨Nat.le_refl 7, Nat.le_of_ble_eq_true rfl⟩ ?_ rfl (Nat.le_of_ble_eq_true rfl)
        rfl
  · have hil : i = st.length := by omega
    subst hil
    have hcl := catL_len st (fun s hs => by have := h.l s hs; have := h.r; omega)
    have hGm : (G.map (D.int .i64)).length = G.length := List.length_map ..
    have hGl := h.G
    have hcm : ((catL ((st.take st.length).map (·.2))).map (D.int .i64)).length = (catL ((st.take st.length).map (·.2))).length := List.length_map ..
    have hgb := (global83 h hb).behind [rowI (catL ((st.take st.length).map (·.2)))] rfl (poO_lt m st g) (by rintro d os' ⟨rfl, rfl⟩; rfl)
    (refine goA ?_)
    refine Call.mk hgb ?_
    rintro d os' ⟨os1, ⟨rfl, rfl⟩, rfl⟩
    rw [List.take_length] at hcm ⊢
    (refine goA ?_)
    refine Ret.frz (fun i => Nat.beq i 8) [(2, ints (catL (st.map (·.2)) ++ G))] ⟨View.slAll (es' := (catL (st.map (·.2)) ++ G).map (D.int .i64)) rfl rfl (by rw [List.length_append, hcm]) (by simp) (by rw [List.map_append]; exact ViewL.same _) (pureL_map (fun _ => rfl) _), trivial⟩ ?_
    refine Ret.weak (Weak.trans (Weak.on [(2, ints (catL (st.map (·.2)) ++ G))] (poO m st g ++ [one .gone, one .gone])) (Weak.poTrim (Nat.le_refl _) rfl)) ?_
    exact Ret.mk [.tmp 2] rfl ⟨rfl, rfl⟩
theorem len85 {b : Nat} {m : Int} {st : List (Bool × List Int)} {g : Gl} {G : List Int} (h : PoOk b m st g G) (hb : b ≤ 900) : Spec Try.prog 85 [.ptr 0 0 2 0 0] (poO m st g) (fun d os' => d = .int .i64 ((catL (st.map (·.2)) ++ G).length : Nat) ∧ os' = poO m st g) := by
  refine Spec.by Try.func85 rfl (by decide) (by decide +kernel) rfl ?_
  (refine goA ?_)
  refine Call.mk (all160 h hb) ?_
  rintro d os' ⟨rfl, rfl⟩
  (refine goA ?_)
  exact Ret.mk [.tmp 2] rfl ⟨congrArg (fun n : Nat => D.int .i64 (n : Int)) (List.length_map ..), rfl⟩
end Go.Proofs.Ytaplihoeephbeaa.V
end
section
namespace Go.Proofs.Ytaplihoeephbeaa.V
open Go Go.Proofs
set_option maxRecDepth 100000
set_option maxHeartbeats 40000000
/-- The same objects, told in other words; and names of none. -/
theorem Weak.ats {n0 : Nat} {m : List (Nat × D)} {os os' : Objs} (h : ∀ i j, os'.at i j = os.at i j) (hl : os.length ≤ os'.length) : Weak n0 { m := m, objs := os } { m := m, objs := os' } := by
  intro ρ I w tm h1 h2 h3
  have h3' : n0 ≤ os.length := h3
  have hfoot : ∀ c, foot ρ os' c → foot ρ os c := by
    rintro c ⟨i, j, p, hne, hp, hpos, rfl⟩
    exact ⟨i, j, p, by rw [← h]; exact hne, hp, hpos, rfl⟩
  refine ⟨ρ, I, ⟨h1.im, fun i j hne => ?_, fun i j i' j' p p' hne hne' hp hp' hpos hpos' he => ?_, fun c hc => h1.apart c (hfoot c hc), fun i j hi => h1.dom i j (Nat.le_trans hl hi)⟩, h2, Im.le_refl _, Nat.le_trans h3' hl, fun _ _ _ => rfl, fun _ h => .inl h, hfoot⟩
  · obtain ⟨p, hp, hok⟩ := h1.ok i j (by show os.at i j ≠ .gone; rw [← h]; exact hne)
    refine ⟨p, hp, ?_⟩
    show objOk ρ I w p (os'.at i j)
    rw [h]; exact hok
  · exact h1.inj i j i' j' p p' (by show os.at i j ≠ .gone; rw [← h]; exact hne) (by show os.at i' j' ≠ .gone; rw [← h]; exact hne') hp hp' hpos hpos' he
def wkI (n : Int) : Int := if 64 < (if n < 1 then 1 else n) then 64 else (if n < 1 then 1 else n)
theorem wkI_r (n : Int) : 1 ≤ wkI n ∧ wkI n ≤ 64 := by
  unfold wkI
  split <;> split <;> omega
/-- Deques that have nothing. -/
def noth (n : Nat) : List (Bool × List Int) := List.replicate n (false, [])
theorem noth_get {n j : Nat} (h : j < n) : (noth n)[j]? = some (false, []) := by
  unfold noth; rw [List.getElem?_replicate, if_pos h]
theorem noth_none {n j : Nat} (h : n ≤ j) : (noth n)[j]? = none := by
  unfold noth; rw [List.getElem?_replicate, if_neg (by omega)]
@[reducible] def npO (m : Int) (i : Nat) : Objs := [one (.row 114 2 false [.agg [.nils, .sl 1 0 1 0 i none]]), poP i, .fam (cellF m (noth i))]
def npφ (i : Nat) (a b : Nat) : Nat × Nat := if a = 1 then (5, b) else if a = 5 then (1, b) else if a = 2 ∧ b = i then (3, 0) else if a = 3 ∧ b = 0 then (2, i) else (a, b)
theorem npφ_npφ (i a b : Nat) : npφ i (npφ i a b).1 (npφ i a b).2 = (a, b) := by
  unfold npφ
  by_cases h1 : a = 1
  · simp [h1]
  by_cases h2 : a = 5
  · simp [h2]
  by_cases h3 : a = 2
  · by_cases h5 : b = i <;> simp [h3, h5]
  by_cases h4 : a = 3
  · by_cases h6 : b = 0 <;> simp [h4, h6]
  simp [h1, h2, h3, h4]
theorem noth_len (n : Nat) : (noth n).length = n := List.length_replicate ..
theorem np_cell (m : Int) (i j : Nat) (φ : Nat → Nat → Nat × Nat) : (if j = i then O.row 201 2 false [.agg [.int .i64 m, .lst 1 true []]] else (cellF m (noth i) j).mapId φ) = cellF m (noth (i + 1)) j := by
  by_cases h : j = i
  · subst h
    rw [if_pos rfl, cellF_some (noth_get (Nat.lt_succ_self j))]; rfl
  · rw [if_neg h]
    unfold cellF
    rcases Nat.lt_or_ge j i with hl | hl
    · rw [noth_get hl, noth_get (Nat.lt_succ_of_lt hl)]; rfl
    · rw [noth_none hl, noth_none (by omega)]; rfl
theorem ptrs_snoc (i : Nat) : ptrs (i + 1) = ptrs i ++ [.ptr 2 i 2 0 0] := by
  unfold ptrs; rw [List.range_succ, List.map_append]; rfl
theorem ptrs_np (i : Nat) : D.mapIdL (npφ i) (ptrs i) = ptrs i := by
  unfold ptrs
  have : ∀ l : List Nat, (∀ x ∈ l, x < i) → D.mapIdL (npφ i) (l.map fun j => D.ptr 2 j 2 0 0) = l.map fun j => D.ptr 2 j 2 0 0 := by
    intro l
    induction l with
    | nil => intro _; rfl
    | cons x l ih =>
      intro h
      have hx := h x (by simp)
      have e : npφ i 2 x = (2, x) := by unfold npφ; simp; omega
      simp only [List.map_cons, D.mapIdL, D.mapId, e, ih (fun y hy => h y (by simp [hy]))]
  exact this _ (fun x hx => List.mem_range.1 hx)
theorem new80 (n room : Int) : Spec Try.prog 80 [.int .i64 n, .int .i64 room] [] (fun d os' => d = .ptr 0 0 2 0 0 ∧ os' = poO (dqI room) (noth (wkI n).toNat) ⟨0, false, 0, 0, []⟩) := by
  obtain ⟨m, hm⟩ : ∃ m, dqI room = m := ⟨_, rfl⟩
  obtain ⟨k, hk⟩ : ∃ k : Nat, wkI n = k := ⟨(wkI n).toNat, by have := wkI_r n; omega⟩
  have hk' : (if 64 < (if n < 1 then 1 else n) then 64 else (if n < 1 then 1 else n)) = (k : Int) := hk
  have hkr := wkI_r n
  rw [hm, hk, Int.toNat_natCast]
  rw [hk] at hkr
  refine Spec.by Try.func80 rfl (by decide) (by decide +kernel) rfl ?_
  (refine goR ?_)
  ((with_reducible refine Pt.go ?_); conv => whnf)
  (refine goR ?_)
  ((with_reducible refine Pt.go ?_); conv => whnf)
  (refine goR ?_)
  refine Pt.weak (Weak.trans (Weak.only [(1, .int .i64 room), (5, .ptr 0 0 2 0 0), (0, .int .i64 n)] [one (.row 114 2 false [.agg [.nils, .nils]])] (by kernel_rfl) tld) (Weak.trans (Weak.nilO 0 1 rfl (es := [.agg [.nils, .nils]]) rfl [.agg [.nils, .sl 1 0 1 0 0 none]] rfl (.cons (.agg (.cons (.same _ _) (.cons (.nils _ _) (.same _ _)))) (.same _ _)) 102 1 false)
    (Weak.ats (os' := npO m 0) (fun i j => by
      match i, j with
      | 0, 0 | 1, 0 => rfl
      | 0, j + 1 | 1, j + 1 => rfl
      | 2, j => rfl
      | i + 3, j => rfl) (Nat.le_of_ble_eq_true rfl)))) ?_
  (refine goA ?_)
  rw [hk']
  refine Loop.inv (A := Nat) (List.range 26) (fun i => [(1, .int .i64 room), (5, .ptr 0 0 2 0 0), (10, .int .i64 (k : Int)), (11, .int .i64 (i : Int))]) (fun i => npO m i) (fun i => i ≤ k) (fun i => k - i) 0 (Nat.zero_le _) ?_ ?_
  · exact Weak.start' rfl rfl tld
  intro i hi
  have hpl := ptrs_len i
  (refine goA ?_)
  refine Br.dec (fun h0 => ?_) (fun h0 => ?_)
  · have hik : i < k := by omega
    (refine goA ?_)
    refine Call.mk ((new73 room).onto _ rfl) ?_
    rintro d os' ⟨d1, os1, ⟨rfl, rfl⟩, rfl, rfl⟩
    rw [hm]
    (refine goA ?_)
    refine App.own ?_
    (refine goA ?_)
    refine ⟨_, _, _, ?_, ⟨i + 1, ?_, rfl, rfl, rfl⟩, ?_⟩
    · show k - (i + 1) < k - i; omega
    · exact hik
    · refine Weak.trans (Weak.only [(1, .int .i64 room), (5, .ptr 0 0 2 0 0), (10, .int .i64 (k : Int)), (11, .int .i64 ((i : Int) + 1))] [one (.row 114 2 false [.agg [.nils, .sl 5 0 1 0 (i + 1) none]]), one .gone, .fam (cellF m (noth i)), one (.row 201 2 false [.agg [.int .i64 m, .nils]]), one (.row 102 1 false [.ptr 3 0 2 0 0]), one (.row 102 1 false (ptrs i ++ [.ptr 3 0 2 0 0]))] (by kernel_rfl) tld) ?_
      refine Weak.trans (Weak.frzO (fun i => Nat.beq i 4) [] 3 (ty := 201) (sz := 2) (es := [.agg [.int .i64 m, .nils]]) rfl rfl [.agg [.int .i64 m, .lst 1 true []]] rfl (.cons (View.agg (.cons (.same _) (.cons (View.nils 1 true) .nil))) .nil) trivial) ?_
      refine Weak.trans (Weak.rens (os' := npO m (i + 1) ++ [one .gone, one .gone, one .gone]) (npφ i) (npφ i) (fun i j h => by cases h) (npφ_npφ i) (fun a b _ => npφ_npφ i a b) (fun a b h => ?_) (Nat.zero_le _) (fun a b hne => ?_)) ?_
      · have h' : 6 ≤ a := h
        unfold npφ
        rw [if_neg (by omega), if_neg (by omega), if_neg (by omega), if_neg (by omega)]
        exact h'
      · match a, b with
        | 0, 0 => rfl
        | 0, b + 1 => rfl
        | 1, 0 =>
          show O.row 102 1 false (ptrs (i + 1)) = O.row 102 1 false (D.mapIdL (npφ i) (ptrs i ++ [.ptr 3 0 2 0 0]))
          rw [mapIdL_app', ptrs_np, ptrs_snoc]
          rfl
        | 1, b + 1 => rfl
        | 2, b =>
          show cellF m (noth (i + 1)) b = _
          rw [← np_cell m i b (npφ i)]
          by_cases hb : b = i
          · subst hb
            have e : npφ b 2 b = (3, 0) := by unfold npφ; simp
            rw [if_pos rfl, e]; rfl
          · have e : npφ i 2 b = (2, b) := by unfold npφ; simp [hb]
            rw [if_neg hb, e]; rfl
        | 3, 0 | 3, b + 1 | 4, 0 | 4, b + 1 | 5, 0 | 5, b + 1 => exact absurd rfl hne
        | a + 6, b => exact absurd rfl hne
      · refine Weak.takeF (os := npO m (i + 1) ++ [one .gone, one .gone, one .gone]) 3 (Nat.zero_le _) rfl (fun a b ha => ?_) (Nat.le_of_ble_eq_true rfl)
        match a, b, ha with
        | 0, 0, _ | 0, b + 1, _ | 1, b + 1, _ => rfl
        | 1, 0, _ => exact ptrs_lt 3 rfl _
        | 2, b, _ =>
          show (cellF m (noth (i + 1)) b).lt 3 = true
          rcases Nat.lt_or_ge b (i + 1) with hb | hb
          · rw [cellF_some (noth_get hb)]; rfl
          · unfold cellF; rw [noth_none hb]; rfl
  · have hik : i = k := by omega
    subst hik
    (refine goA ?_)
    refine Ret.weak (Weak.trans (Weak.on [(4, .ptr 0 0 2 0 0)] (npO m i)) (Weak.trans (Weak.ats (os' := npO m i ++ [.fam (rwF (noth i))]) (fun a b => ?_) (Nat.le_of_ble_eq_true rfl)) (Weak.trans (Weak.nilO 0 4 rfl (es := [.agg [.nils, .sl 1 0 1 0 i none]]) rfl [.agg [.sl 4 0 1 0 0 none, .sl 1 0 1 0 i none]] rfl (.cons (.agg (.cons (.nils _ _) (.same _ _))) (.same _ _)) 56 1 false) (Weak.trans Weak.gone Weak.gone)))) ?_
    · match a, b with
      | 0, _ | 1, _ | 2, _ => rfl
      | 3, b =>
        show rwF (noth i) b = .gone
        rcases Nat.lt_or_ge b i with hb | hb
        · rw [rwF_some (noth_get hb)]; rfl
        · unfold rwF; rw [noth_none hb]
      | a + 4, b => rfl
    refine Ret.mk [.tmp 4] rfl ⟨rfl, ?_⟩
    unfold poO
    rw [noth_len]
    rfl
theorem newOk (n room : Int) : PoOk 0 (dqI room) (noth (wkI n).toNat) ⟨0, false, 0, 0, []⟩ [] := by
  have := wkI_r n
  refine ⟨dqI_r room, by rw [noth_len]; omega, fun s hs => ?_, (fun h => Bool.noConfusion h), fun _ => rfl, Nat.le_refl _, Nat.le_refl _⟩
  rw [(List.mem_replicate.1 hs).2]
  have := dqI_r room
  show ((0 : Nat) : Int) ≤ _
  omega
end Go.Proofs.Ytaplihoeephbeaa.V
end
section
namespace Go.Proofs.Ytaplihoeephbeaa.V
open Go Go.Proofs
set_option maxRecDepth 100000
set_option maxHeartbeats 40000000
theorem lstC_at (l : List (List Int)) (m : Nat) (h : m < l.length) : (l.map ints)[m]? = some (ints (qAt l m)) := by
  have := rowC_at l m h
  rwa [Nat.zero_add] at this
end Go.Proofs.Ytaplihoeephbeaa.V
end
section
namespace Go.Proofs.Ytaplihoeephbeaa.V
open Go Go.Proofs
set_option maxRecDepth 100000
set_option maxHeartbeats 40000000
theorem nilsV {os : Objs} (n : Nat) : ViewL allF os (List.replicate n .nils) ((List.replicate n ([] : List Int)).map ints) := by
  rw [List.map_replicate]
  induction n with
  | zero => exact .nil
  | succ n ih => exact .cons (View.nils 1 false) ih
end Go.Proofs.Ytaplihoeephbeaa.V
end
