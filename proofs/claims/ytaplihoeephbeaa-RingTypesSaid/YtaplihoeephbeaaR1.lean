/- R1: a text of a symbolic executor that is proved sound, and contracts that are proved with it. -/
import Derived.Test.YtaplihoeephbeaaVRing
set_option linter.unusedVariables false
set_option linter.unusedSimpArgs false
namespace Go.Proofs.Ytaplihoeephbeaa.V
open Go Go.Proofs
set_option maxRecDepth 100000
set_option maxHeartbeats 40000000
theorem len49 (room a n : Int) (L : List Int) : Spec Try.prog 49 [.ptr 0 0 4 0 0] [rgC room a n L.length 1, rowI L] (fun d os' => d = .int .i64 n ∧ os' = [rgC room a n L.length 1, rowI L]) := by
  refine Spec.by Try.func49 rfl (by decide) (by decide +kernel) rfl ?_
  (refine goA ?_)
  refine Ret.mk [.tmp _] rfl ?_; refine And.intro ?_ rfl
  rfl
theorem room51 (room a n : Int) (hr : 0 ≤ room ∧ room ≤ 1024) (hn : 0 ≤ n ∧ n ≤ 1024) (L : List Int) : Spec Try.prog 51 [.ptr 0 0 4 0 0] [rgC room a n L.length 1, rowI L] (fun d os' => d = .int .i64 (room - n) ∧ os' = [rgC room a n L.length 1, rowI L]) := by
  refine Spec.by Try.func51 rfl (by decide) (by decide +kernel) rfl ?_
  (refine goA ?_)
  refine Ret.mk [.tmp _] rfl ?_; refine And.intro ?_ rfl
  rfl
theorem place124 (room a n i : Int) (L : List Int) (ha : 0 ≤ a ∧ a ≤ 1024) (hi : 0 ≤ i ∧ i ≤ 1024) (hl : 0 < L.length ∧ L.length ≤ 1024) : Spec Try.prog 124 [.ptr 0 0 4 0 0, .int .i64 i] [rgC room a n L.length 1, rowI L] (fun d os' => d = .int .i64 ((a + i) % (L.length : Int)) ∧ os' = [rgC room a n L.length 1, rowI L]) := by
  refine Spec.by Try.func124 rfl (by decide) (by decide +kernel) rfl ?_
  (refine goA ?_)
  refine Ret.mk [.tmp _] rfl ?_; refine And.intro ?_ rfl
  rw [Int.tmod_eq_emod_of_nonneg (by omega)]
/-- A ring that is as one must be: what it holds, in its row. -/
structure Rg (room a n : Int) (L c : List Int) : Prop where
  rm : 0 ≤ room ∧ room ≤ 1024
  nl : n = c.length
  cl : c.length ≤ L.length
  ll : (L.length : Int) ≤ room
  at0 : 0 ≤ a
  atl : L = [] ∧ a = 0 ∨ a < L.length
  el : ∀ i, i < c.length → L[(a.toNat + i) % L.length]? = c[i]?
theorem Rg.mod {room a n : Int} {L c : List Int} (h : Rg room a n L c) (i : Nat) : ((a + i) % (L.length : Int)).toNat = (a.toNat + i) % L.length := by
  have := h.at0
  have e : a + (i : Int) = ((a.toNat + i : Nat) : Int) := by omega
  rw [e, ← Int.natCast_emod, Int.toNat_natCast]
def atV (c : List Int) (i : Int) : Int := if 0 ≤ i then c.getD i.toNat 0 else 0
theorem at146 {room a n : Int} {L c : List Int} (h : Rg room a n L c) (i : Int) : Spec Try.prog 146 [.ptr 0 0 4 0 0, .int .i64 i] [rgC room a n L.length 1, rowI L] (fun d os' => d = .tup [.int .i64 (atV c i), .bool (decide (0 ≤ i ∧ i < (c.length : Int)))] ∧ os' = [rgC room a n L.length 1, rowI L]) := by
  obtain ⟨h1, h2, h3, h4, h5, h6, h7⟩ := id h
  refine Spec.by Try.func146 rfl (by decide) (by decide +kernel) rfl ?_
  (refine goA ?_)
  refine Br.dec (fun h0 => ?_) (fun h0 => ?_)
  · (refine goA ?_)
    refine Ret.mk [.tmp 4, .tmp 5] rfl ?_; (refine goA ?_)
    have e1 : atV c i = 0 := by unfold atV; rw [if_neg (by omega)]
    have e2 : decide (0 ≤ i ∧ i < (c.length : Int)) = false := decide_eq_false (by omega)
    rw [e1, e2]; exact ⟨rfl, rfl⟩
  · (refine goA ?_)
    refine Br.dec (fun h8 => ?_) (fun h8 => ?_)
    · (refine goA ?_)
      refine Ret.mk [.tmp 4, .tmp 5] rfl ?_; (refine goA ?_)
      have e1 : atV c i = 0 := by
        unfold atV
        rw [if_pos (by omega), List.getD_eq_getElem?_getD, List.getElem?_eq_none (by omega)]
        rfl
      have e2 : decide (0 ≤ i ∧ i < (c.length : Int)) = false := decide_eq_false (by omega)
      rw [e1, e2]; exact ⟨rfl, rfl⟩
    · obtain ⟨k, rfl⟩ : ∃ k : Nat, i = k := ⟨i.toNat, by omega⟩
      have hk : k < c.length := by omega
      have hget : L[0 + ((a + (k : Int)) % (L.length : Int)).toNat]? = some c[k] := by rw [Nat.zero_add, h.mod, h7 k hk]; exact List.getElem?_eq_getElem hk
      have e1 : atV c k = c[k] := by
        unfold atV
        rw [if_pos (by omega), List.getD_eq_getElem?_getD, Int.toNat_natCast, List.getElem?_eq_getElem hk]
        rfl
      have e2 : decide (0 ≤ (k : Int) ∧ (k : Int) < (c.length : Int)) = true := decide_eq_true (by omega)
      have hm0 : 0 ≤ (a + (k : Int)) % (L.length : Int) := Int.emod_nonneg _ (by omega)
      have hm1 : (a + (k : Int)) % (L.length : Int) < (L.length : Int) := Int.emod_lt_of_pos _ (by omega)
      rw [e1, e2]
      (refine goA ?_)
      refine Call.mk (place124 room a n k L (by omega) (by omega) (by omega)) ?_
      rintro d os' ⟨rfl, rfl⟩
      (refine goA ?_)
      refine Opt.of (get_map hget) ?_
      (refine goA ?_)
      refine Ret.mk [.tmp 4, .tmp 5] rfl ?_; (conv => whnf); repeat (first | ((with_reducible refine Pt.go ?_); conv => whnf) | ((with_reducible refine dA ?_); conv => whnf) | ((with_reducible refine dL ?_); conv => whnf) | ((with_reducible refine dM ?_); conv => whnf) | (refine Br.t ?_; conv => whnf) | (refine Br.f ?_; conv => whnf) | (refine bT ?_; conv => whnf) | (refine bF ?_; conv => whnf) | (refine Opt.mk ?_; conv => whnf) | ((with_reducible refine aR ?_); conv => whnf) | (refine ⟨fun h => absurd (congrArg List.length h) (Nat.succ_ne_zero _), fun _ => ?_⟩; conv => whnf) | (refine aC ?_; conv => whnf) | (refine apG ?_; conv => whnf) | fail)
theorem peek125 {room a n : Int} {L c : List Int} (h : Rg room a n L c) : Spec Try.prog 125 [.ptr 0 0 4 0 0] [rgC room a n L.length 1, rowI L] (fun d os' => d = .tup [.int .i64 (atV c 0), .int .i64 (if c = [] then 7 else 0)] ∧ os' = [rgC room a n L.length 1, rowI L]) := by
  refine Spec.by Try.func125 rfl (by decide) (by decide +kernel) rfl ?_
  (refine goA ?_)
  refine Call.mk (at146 h 0) ?_
  rintro d os' ⟨rfl, rfl⟩
  cases c with
  | nil =>
    (refine goA ?_)
    refine Ret.mk [.tmp 2, .tmp 3] rfl ?_; (conv => whnf); repeat (first | ((with_reducible refine Pt.go ?_); conv => whnf) | ((with_reducible refine dA ?_); conv => whnf) | ((with_reducible refine dL ?_); conv => whnf) | ((with_reducible refine dM ?_); conv => whnf) | (refine Br.t ?_; conv => whnf) | (refine Br.f ?_; conv => whnf) | (refine bT ?_; conv => whnf) | (refine bF ?_; conv => whnf) | (refine Opt.mk ?_; conv => whnf) | ((with_reducible refine aR ?_); conv => whnf) | (refine ⟨fun h => absurd (congrArg List.length h) (Nat.succ_ne_zero _), fun _ => ?_⟩; conv => whnf) | (refine aC ?_; conv => whnf) | (refine apG ?_; conv => whnf) | fail)
  | cons v c =>
    have e : decide ((0 : Int) ≤ 0 ∧ (0 : Int) < ((v :: c).length : Int)) = true := decide_eq_true ⟨Int.le_refl _, by rw [List.length_cons]; omega⟩
    rw [e]
    (refine goA ?_)
    refine Ret.mk [.tmp 2, .tmp 3] rfl ?_; (conv => whnf); repeat (first | ((with_reducible refine Pt.go ?_); conv => whnf) | ((with_reducible refine dA ?_); conv => whnf) | ((with_reducible refine dL ?_); conv => whnf) | ((with_reducible refine dM ?_); conv => whnf) | (refine Br.t ?_; conv => whnf) | (refine Br.f ?_; conv => whnf) | (refine bT ?_; conv => whnf) | (refine bF ?_; conv => whnf) | (refine Opt.mk ?_; conv => whnf) | ((with_reducible refine aR ?_); conv => whnf) | (refine ⟨fun h => absurd (congrArg List.length h) (Nat.succ_ne_zero _), fun _ => ?_⟩; conv => whnf) | (refine aC ?_; conv => whnf) | (refine apG ?_; conv => whnf) | fail)
theorem Rg.pop {room a n : Int} {L : List Int} {v : Int} {c : List Int} (h : Rg room a n L (v :: c)) : Rg room ((a + 1) % (L.length : Int)) (n - 1) (L.set a.toNat 0) c := by
  obtain ⟨h1, h2, h3, h4, h5, h6, h7⟩ := id h
  simp only [List.length_cons] at h2 h3 h7
  have hal : a < L.length := by
    rcases h6 with ⟨rfl, _⟩ | h6
    · simp at h3
    · exact h6
  have hm0 : 0 ≤ (a + 1) % (L.length : Int) := Int.emod_nonneg _ (by omega)
  have hm1 : (a + 1) % (L.length : Int) < (L.length : Int) := Int.emod_lt_of_pos _ (by omega)
  refine ⟨h1, by omega, by rw [List.length_set]; omega, by rw [List.length_set]; omega, hm0, .inr (by rw [List.length_set]; exact hm1), fun i hi => ?_⟩
  have em : ((a + 1) % (L.length : Int)).toNat = (a.toNat + 1) % L.length := h.mod 1
  rw [List.length_set, em, Nat.mod_add_mod]
  have hne : ¬ a.toNat = (a.toNat + 1 + i) % L.length := by
    intro hc
    rcases Nat.lt_or_ge (a.toNat + 1 + i) L.length with hlt | hge
    · rw [Nat.mod_eq_of_lt hlt] at hc; omega
    · rw [Nat.mod_eq_sub_mod hge, Nat.mod_eq_of_lt (by omega)] at hc; omega
  rw [List.getElem?_set_ne hne, show a.toNat + 1 + i = a.toNat + (i + 1) by omega, h7 (i + 1) (by omega)]
  rfl
theorem pop48 {room a n : Int} {L : List Int} {v : Int} {c : List Int} (h : Rg room a n L (v :: c)) : Spec Try.prog 48 [.ptr 0 0 4 0 0] [rgC room a n L.length 1, rowI L] (fun d os' => d = .tup [.int .i64 v, .int .i64 0] ∧ os' = [rgC room ((a + 1) % (L.length : Int)) (n - 1) L.length 1, rowI (L.set a.toNat 0)]) := by
  obtain ⟨h1, h2, h3, h4, h5, h6, h7⟩ := id h
  simp only [List.length_cons] at h2 h3 h7
  have hal : a < L.length := by
    rcases h6 with ⟨rfl, _⟩ | h6
    · simp at h3
    · exact h6
  have hlm : (L.map (D.int .i64)).length = L.length := List.length_map ..
  refine Spec.by Try.func48 rfl (by decide) (by decide +kernel) rfl ?_
  (refine goA ?_)
  refine Call.mk (peek125 h) ?_
  rintro d os' ⟨rfl, rfl⟩
  have e : (if v :: c = [] then (7 : Int) else 0) = 0 := rfl
  rw [e]
  have hget : L[0 + a.toNat]? = some L[a.toNat] := by rw [Nat.zero_add]; exact List.getElem?_eq_getElem (by omega)
  (refine goA ?_)
  refine Opt.of (get_map hget) ?_
  (refine goR ?_)
  refine Pt.weak (Weak.objs (os' := [rgC room a n (L.set a.toNat 0).length 1, rowI (L.set a.toNat 0)]) ?_) ?_
  · rw [List.length_set]
    exact congrArg (fun r => ([rgC room a n L.length 1, one (.row 3 1 true r)] : Objs)) (by rw [Nat.zero_add, List.map_set])
  (refine goA ?_)
  refine Call.mk (place124 room a n 1 (L.set a.toNat 0) (by omega) (by omega) (by rw [List.length_set]; omega)) ?_
  rintro d os' ⟨rfl, rfl⟩
  (refine goA ?_)
  refine Ret.mk [.tmp 2, .tmp 3] rfl ?_; (refine goA ?_)
  rw [List.length_set]
  exact rfl
theorem popE48 {room a n : Int} {L : List Int} (h : Rg room a n L []) : Spec Try.prog 48 [.ptr 0 0 4 0 0] [rgC room a n L.length 1, rowI L] (fun d os' => d = .tup [.int .i64 0, .int .i64 7] ∧ os' = [rgC room a n L.length 1, rowI L]) := by
  refine Spec.by Try.func48 rfl (by decide) (by decide +kernel) rfl ?_
  (refine goA ?_)
  refine Call.mk (peek125 h) ?_
  rintro d os' ⟨rfl, rfl⟩
  (refine goA ?_)
  refine Ret.mk [.tmp 2, .tmp 3] rfl ?_; (conv => whnf); repeat (first | ((with_reducible refine Pt.go ?_); conv => whnf) | ((with_reducible refine dA ?_); conv => whnf) | ((with_reducible refine dL ?_); conv => whnf) | ((with_reducible refine dM ?_); conv => whnf) | (refine Br.t ?_; conv => whnf) | (refine Br.f ?_; conv => whnf) | (refine bT ?_; conv => whnf) | (refine bF ?_; conv => whnf) | (refine Opt.mk ?_; conv => whnf) | ((with_reducible refine aR ?_); conv => whnf) | (refine ⟨fun h => absurd (congrArg List.length h) (Nat.succ_ne_zero _), fun _ => ?_⟩; conv => whnf) | (refine aC ?_; conv => whnf) | (refine apG ?_; conv => whnf) | fail)
theorem all126 (i : Nat) (os : Objs) : Spec Try.prog 126 [.ptr i 0 4 0 0] os (fun d os' => d = .fn (.func 189) [] [.ptr os.length 0 1 0 0] ∧ os' = os ++ [one (.row 56 1 false [.ptr i 0 4 0 0])]) := by
  refine Spec.by Try.func126 rfl (by decide) (by decide +kernel) rfl ?_
  (refine goA ?_)
  refine Ret.mk [.tmp _] rfl ?_; refine And.intro ?_ rfl
  rfl
theorem list123 {room a n : Int} {L c : List Int} (h : Rg room a n L c) : Spec Try.prog 123 [.ptr 0 0 4 0 0] [rgC room a n L.length 1, rowI L] (fun d os' => d = .sl 4 0 1 0 c.length none ∧ os' = [rgC room a n L.length 1, rowI L, one (.row 23 1 false [.sl 4 0 1 0 c.length none]), one (.row 56 1 false [.ptr 0 0 4 0 0]), rowI c, one .gone]) := by
  refine Spec.by Try.func123 rfl (by decide) (by decide +kernel) rfl ?_
  (refine goA ?_)
  refine Call.mk (all126 0 _) ?_
  rintro d os' ⟨rfl, rfl⟩
  (refine goA ?_)
  refine Rng.mk (f := 189) (fn := Try.f189) [(2, .nils), (3, .ptr 2 0 1 0 0), (7, .fn (.func 189) [] [.ptr 3 0 1 0 0])] [rgC room a n L.length 1, rowI L, one (.row 23 1 false [.sl 4 0 1 0 0 none]), one (.row 56 1 false [.ptr 0 0 4 0 0]), rowI []] ?_ tld rfl Try.func189 rfl rfl (by decide +kernel) rfl rfl (by decide) ?_
  · refine Weak.trans (Weak.only [(2, .nils), (3, .ptr 2 0 1 0 0), (7, .fn (.func 189) [] [.ptr 3 0 1 0 0])] [rgC room a n L.length 1, rowI L, one (.row 23 1 false [.nils]), one (.row 56 1 false [.ptr 0 0 4 0 0])] (by kernel_rfl) tld) ?_
    exact Weak.nilO 2 4 rfl (es := [.nils]) rfl [.sl 4 0 1 0 0 none] rfl (.cons (.nils _ _) (.same _ _)) 3 1 true
  intro gf tm df
  generalize hr : (⟨.ready, none, gf, tm, #[8, 9], _, _, df⟩ : Go.Loop) = r
  (refine goA ?_)
  refine Loop.inv (A := Nat) (List.range 25) (fun i => [(0, .yl 5 0), (1, .ptr 3 0 1 0 0), (9, .int .i64 n), (10, .int .i64 (i : Int))]) (fun i => [rgC room a n L.length 1, rowI L, one (.row 23 1 false [.sl 4 0 1 0 i none]), one (.row 56 1 false [.ptr 0 0 4 0 0]), rowI (c.take i), one (.loop r .ready none [(2, .nils), (3, .ptr 2 0 1 0 0), (7, .fn (.func 189) [] [.ptr 3 0 1 0 0])])]) (fun i => i ≤ c.length) (fun i => c.length - i) 0 (Nat.zero_le _) ?_ ?_
  · exact Weak.start' rfl rfl tld
  rintro i hi
  (refine goA ?_)
  refine Br.dec (fun h0 => ?_) (fun h0 => ?_)
  · have hil : i < c.length := by have := h.nl; omega
    have e1 : atV c i = c[i] := by
      unfold atV
      rw [if_pos (by omega), List.getD_eq_getElem?_getD, Int.toNat_natCast, List.getElem?_eq_getElem hil]
      rfl
    have e2 : decide (0 ≤ (i : Int) ∧ (i : Int) < (c.length : Int)) = true := decide_eq_true (by omega)
    (refine goA ?_)
    refine Call.mk (Spec.rgR (at146 h i) 0 1 _ rfl rfl (by decide) rfl (by rintro d rfl; rfl)) ?_
    rintro d os' ⟨rfl, rfl⟩
    rw [e1, e2]
    (refine goA ?_)
    subst hr
    refine Yld.mk [(2, .nils), (3, .ptr 2 0 1 0 0), (7, .fn (.func 189) [] [.ptr 3 0 1 0 0])] rfl rfl ?_
    have hlt : ((c.take i).map (D.int .i64)).length = i := by rw [List.length_map, List.length_take]; omega
    have hcl : c.length ≤ 1024 := by have := h.cl; have := h.ll; have := h.rm; omega
    (refine goA ?_)
    refine ⟨_, rfl, ?_⟩
    (refine goA ?_)
    refine App.only false rfl rfl ?_
    (refine goA ?_)
    refine ⟨_, rfl, ?_⟩
    (refine goA ?_)
    refine ⟨_, _, _, ?_, ⟨i + 1, ?_, rfl, rfl, rfl⟩, ?_⟩
    · show c.length - (i + 1) < c.length - i; omega
    · exact hil
    · refine Weak.trans (Weak.shift 6 4 (by decide) (by simp) (Nat.le_of_ble_eq_true rfl) (Nat.le_of_ble_eq_true rfl) (fun j => by cases j <;> rfl) rfl) ?_
      refine Weak.backT 6 (by simp) ?_ (by kernel_rfl) (Nat.le_of_ble_eq_true rfl) tld (by kernel_rfl) (by kernel_rfl)
      exact congrArg (fun r => ([rgC room a n L.length 1, rowI L, one (.row 23 1 false [.sl 4 0 1 0 (i + 1) none]), one (.row 56 1 false [.ptr 0 0 4 0 0]), one (.row 3 1 true r), _] : Objs)) (by rw [List.take_add_one, List.getElem?_eq_getElem hil]; exact map_snoc _ _)
  · have hil : i = c.length := by have := h.nl; omega
    subst hil
    (refine goA ?_)
    refine After.mk 5 .ready none _ rfl (by decide) ?_
    (refine goA ?_)
    refine Ret.mk [.tmp 2] rfl ⟨rfl, ?_⟩
    rw [List.take_length]
    rfl
def pushC (room : Int) (c : List Int) (v : Int) : Int × List Int := if (c.length : Int) = room then (6, c) else (0, c ++ [v])
theorem Rg.grow {room a n : Int} {L c : List Int} (h : Rg room a n L c) (hn : (c.length : Int) < room) (v : Int) : Rg room 0 (n + 1) (c ++ [v]) (c ++ [v]) := by
  have h1 := h.nl
  refine ⟨h.rm, by simp; omega, Nat.le_refl _, by simp; omega, Int.le_refl _, .inr (by simp), fun i hi => ?_⟩
  rw [show (0 : Int).toNat = 0 from rfl, Nat.zero_add, Nat.mod_eq_of_lt hi]
theorem Rg.put {room a n : Int} {L c : List Int} (h : Rg room a n L c) (hn : c.length < L.length) (v : Int) : Rg room a (n + 1) (L.set ((a.toNat + c.length) % L.length) v) (c ++ [v]) := by
  obtain ⟨h1, h2, h3, h4, h5, h6, h7⟩ := id h
  have hal : a < L.length := by
    rcases h6 with ⟨rfl, _⟩ | h6
    · simp at hn
    · exact h6
  refine ⟨h1, by simp; omega, by simp; omega, by simp; omega, h5, .inr (by simp; omega), fun i hi => ?_⟩
  rw [List.length_set]
  have hmod : ∀ x, x < L.length → (a.toNat + x) % L.length = if a.toNat + x < L.length then a.toNat + x else a.toNat + x - L.length := fun x hx => by
    split
    · rename_i hh; exact Nat.mod_eq_of_lt hh
    · rename_i hh; rw [Nat.mod_eq_sub_mod (by omega), Nat.mod_eq_of_lt (by omega)]
  rw [List.length_append, List.length_singleton] at hi
  by_cases hic : i = c.length
  · subst hic
    rw [List.getElem?_set_self (Nat.mod_lt _ (by omega))]
    simp
  · have hne : ¬ (a.toNat + c.length) % L.length = (a.toNat + i) % L.length := by
      rw [hmod c.length hn, hmod i (by omega)]
      split <;> split <;> omega
    rw [List.getElem?_set_ne hne, h7 i (by omega), List.getElem?_append_left (by omega)]
theorem push47 {room a n : Int} {L c : List Int} (h : Rg room a n L c) (v : Int) : Spec Try.prog 47 [.ptr 0 0 4 0 0, .int .i64 v] [rgC room a n L.length 1, rowI L] (fun d os' => ∃ a' n' L' g, (d = .int .i64 (pushC room c v).1 ∧ Rg room a' n' L' (pushC room c v).2) ∧ os' = bif g then [rgC room a' n' L'.length 2, one .gone, rowI L'] else [rgC room a' n' L'.length 1, rowI L']) := by
  obtain ⟨h1, h2, h3, h4, h5, h6, h7⟩ := id h
  have hlm : (c.map (D.int .i64)).length = c.length := List.length_map ..
  have hlL : (L.map (D.int .i64)).length = L.length := List.length_map ..
  refine Spec.by Try.func47 rfl (by decide) (by decide +kernel) rfl ?_
  (refine goA ?_)
  refine Call.mk (room51 room a n h1 (by omega) L) ?_
  rintro d os' ⟨rfl, rfl⟩
  (refine goA ?_)
  refine Br.dec (fun h0 => ?_) (fun h0 => ?_)
  · have e : pushC room c v = (6, c) := by unfold pushC; rw [if_pos (by omega)]
    rw [e]
    (refine goA ?_)
    refine Ret.mk [.tmp 4] rfl ⟨_, _, _, false, ⟨rfl, h⟩, rfl⟩
  · have e : pushC room c v = (0, c ++ [v]) := by unfold pushC; rw [if_neg (by omega)]
    rw [e]
    (refine goA ?_)
    refine Br.dec (fun h8 => ?_) (fun h8 => ?_)
    · (refine goA ?_)
      refine Call.mk (list123 h) ?_
      rintro d os' ⟨rfl, rfl⟩
      (refine goA ?_)
      refine App.only false rfl rfl ?_
      (refine goR ?_)
      refine Pt.weak (Weak.only [(0, .ptr 0 0 4 0 0), (4, .int .i64 0)] [one (.row 176 4 false [.agg [.int .i64 room, .int .i64 a, .sl 6 0 1 0 (c.length + 1) none, .int .i64 n]]), rowI L, one (.row 23 1 false [.sl 4 0 1 0 c.length none]), one (.row 56 1 false [.ptr 0 0 4 0 0]), one .gone, one .gone, one (.row 3 1 true (c.map (D.int .i64) ++ [D.int .i64 v]))] (by kernel_rfl) tld) ?_
      rw [map_snoc c v]
      refine Pt.frz (fun k => Nat.beq k 1 || (Nat.beq k 2 || Nat.beq k 3)) [] trivial ?_
      refine Pt.weak (Weak.shift 6 2 (by decide) (by simp) (Nat.le_of_ble_eq_true rfl) (Nat.le_of_ble_eq_true rfl) (fun j => by cases j <;> rfl) rfl) ?_
      refine Pt.weak (Weak.trim 3 (by show 2 ≤ 3; decide) rfl (Nat.le_of_ble_eq_true rfl)) ?_
      (refine goA ?_)
      refine Ret.mk [.tmp 4] rfl ⟨_, _, _, true, ⟨rfl, h.grow (by omega) v⟩, ?_⟩
      rw [List.length_append]
      rfl
    · have hcl : c.length < L.length := by omega
      have hcl' : (0 : Int) < L.length := by omega
      have hm0 : 0 ≤ (a + n) % (L.length : Int) := Int.emod_nonneg _ (by omega)
      have hm1 : (a + n) % (L.length : Int) < (L.length : Int) := Int.emod_lt_of_pos _ (by omega)
      have hget : L[0 + ((a + n) % (L.length : Int)).toNat]? = some L[((a + n) % (L.length : Int)).toNat] := by rw [Nat.zero_add]; exact List.getElem?_eq_getElem (by omega)
      (refine goA ?_)
      refine Call.mk (place124 room a n n L (by omega) (by omega) (by omega)) ?_
      rintro d os' ⟨rfl, rfl⟩
      (refine goA ?_)
      refine Opt.of (get_map hget) ?_
      (refine goA ?_)
      have hmm := h.mod c.length
      rw [← h2] at hmm
      refine Ret.mk [.tmp 4] rfl ⟨_, _, _, false, ⟨rfl, h.put hcl v⟩, ?_⟩
      rw [← hmm, List.length_set]
      exact congrArg (fun r => ([rgC room a (n + 1) L.length 1, one (.row 3 1 true r)] : Objs)) (by rw [Nat.zero_add, List.map_set])
end Go.Proofs.Ytaplihoeephbeaa.V
