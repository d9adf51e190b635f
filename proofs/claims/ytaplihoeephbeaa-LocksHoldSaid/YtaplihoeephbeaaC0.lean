/- C0: a text of a symbolic executor that is proved sound, and contracts that are proved with it. -/
import Derived.Test.YtaplihoeephbeaaVA
import Derived.Test.YtaplihoeephbeaaVB
import Derived.Test.YtaplihoeephbeaaVT
import Derived.Test.YtaplihoeephbeaaVC
import Derived.Laws.Bits64
set_option linter.unusedVariables false
set_option linter.unusedSimpArgs false
section
namespace Go.Proofs.Ytaplihoeephbeaa.V
open Go Go.Proofs
set_option maxRecDepth 100000
@[reducible] def ints (xs : List Int) : D := .lst 1 false (xs.map (D.int .i64))
@[reducible] def idxD (o : Option Nat) : D := .int .i64 (match o with | some i => (i : Int) | none => -1)
theorem find_at {α : Type} {xs : List α} {q : α → Bool} {i : Nat} (hi : i < xs.length) (hb : q xs[i] = true) (hf : ∀ x ∈ xs.take i, q x = false) : xs.findIdx? q = some i := by
  rw [List.findIdx?_eq_some_iff_getElem]
  refine ⟨hi, hb, fun j hj => ?_⟩
  have : xs[j] ∈ xs.take i := by rw [List.mem_take_iff_getElem]; exact ⟨j, by omega, rfl⟩
  simp [hf _ this]
theorem find_none {α : Type} {xs : List α} {q : α → Bool} {i : Nat} (hi : xs.length ≤ i) (hf : ∀ x ∈ xs.take i, q x = false) : xs.findIdx? q = none := by
  rw [List.findIdx?_eq_none_iff]
  intro x hx
  exact hf x (by rw [List.take_of_length_le hi]; exact hx)
theorem take_more {α : Type} {xs : List α} {q : α → Bool} {i : Nat} (hi : i < xs.length) (hb : q xs[i] = false) (hf : ∀ x ∈ xs.take i, q x = false) : ∀ x ∈ xs.take (i + 1), q x = false := by
  intro x hx
  rw [List.take_add_one, List.getElem?_eq_getElem hi] at hx
  rcases List.mem_append.1 hx with h | h
  · exact hf x h
  · simp at h; rw [h]; exact hb
theorem idx192 (xs : List Int) (g : Nat) (a b : List D) (q : Int → Bool) (hl : xs.length ≤ 9223372036854775806) (hq : ∀ x ∈ xs, Spec Try.prog g (a ++ ([.int .i64 x] ++ b)) [] (fun d os' => d = .bool (q x) ∧ os' = [])) :
    Spec Try.prog 192 [ints xs, .fn (.func g) a b] [] (fun d os' => d = idxD (xs.findIdx? q) ∧ os' = []) := by
  refine Spec.by Try.func192 rfl (by decide) (by decide +kernel) rfl ?_
  (refine goA ?_)
  refine Loop.inv (A := Nat) [] (fun i => [(8, .int .i64 (i : Int))]) (fun _ => []) (fun i => i ≤ xs.length ∧ ∀ x ∈ xs.take i, q x = false) (fun i => xs.length - i) 0 ⟨Nat.zero_le _, by simp⟩ (Weak.start tld) ?_
  intro i ⟨hi, hf⟩
  (refine goA ?_)
  refine Br.dec (fun h => ?_) (fun h => ?_)
  · simp only [List.length_map] at h
    (refine goA ?_)
    refine Opt.of (get_map (List.getElem?_eq_getElem (l := xs) (i := i) (by omega))) ?_
    (refine goA ?_)
    rw [forceL_eq]
    refine Call.mk (hq _ (List.getElem_mem (by omega))) ?_
    rintro d os' ⟨rfl, rfl⟩
    (refine goA ?_)
    refine Br.cs (fun hb => ?_) (fun hb => ?_)
    · (refine goA ?_)
      refine Ret.mk [.tmp _] rfl ?_; refine And.intro ?_ rfl
      rw [find_at (by omega) hb hf]
    · (refine goA ?_)
      refine Loop.next (i + 1) ?_ ?_ (Weak.back rfl tld rfl rfl)
      · exact ⟨by omega, take_more (by omega) hb hf⟩
      · omega
  · (refine goA ?_)
    refine Ret.mk [.tmp _] rfl ?_; refine And.intro ?_ rfl
    rw [find_none (by simpa using h) hf]
theorem con152 (xs : List Int) (g : Nat) (b : List D) (q : Int → Bool) (hl : xs.length ≤ 9223372036854775806) (hq : ∀ x ∈ xs, Spec Try.prog g ([] ++ ([.int .i64 x] ++ b)) [] (fun d os' => d = .bool (q x) ∧ os' = [])) :
    Spec Try.prog 152 [ints xs, .fn (.func g) [] b] [] (fun d os' => d = .bool (xs.any q) ∧ os' = []) := by
  refine Spec.by Try.func152 rfl (by decide) (by decide +kernel) rfl ?_
  (refine goA ?_)
  refine Call.mk (idx192 xs g [] b q hl hq) ?_
  rintro d os' ⟨rfl, rfl⟩
  (refine goA ?_)
  refine Ret.mk [.tmp _] rfl ?_; refine And.intro ?_ rfl
  cases h : xs.findIdx? q with
  | none =>
    rw [List.findIdx?_eq_none_iff] at h
    have : xs.any q = false := by simpa using h
    rw [this]; rfl
  | some i =>
    rw [List.findIdx?_eq_some_iff_getElem] at h
    obtain ⟨hi, hb, _⟩ := h
    have : xs.any q = true := List.any_eq_true.2 ⟨_, List.getElem_mem hi, hb⟩
    rw [this]; simp
def keep (n : Int) : Int := if n < -1073741824 then -1073741824 else if 1073741824 < n then 1073741824 else n
def kept (xs : List Int) : Bool := !(xs.any fun n => decide (n ≠ keep n))
theorem same50 (xs ys : List Int) (hl : xs.length ≤ 9223372036854775806) : Spec Try.prog 50 [ints xs, ints ys] [] (fun d os' => d = .bool (decide (xs = ys)) ∧ os' = []) := by
  refine Spec.by Try.func50 rfl (by decide) (by decide +kernel) rfl ?_
  (refine goA ?_)
  refine Br.cs (fun hb => ?_) (fun hb => ?_)
  · (refine goA ?_)
    refine Ret.mk [.tmp _] rfl ?_; refine And.intro ?_ rfl
    have : ¬ xs = ys := fun e => by subst e; simp at hb
    simp [this]
  · simp only [List.length_map, Bool.not_eq_false', decide_eq_true_eq] at hb
    have hlen : xs.length = ys.length := by omega
    (refine goA ?_)
    refine Loop.inv (A := Nat) [] (fun i => [(5, .int .i64 (i : Int))]) (fun _ => []) (fun i => i ≤ xs.length ∧ xs.take i = ys.take i) (fun i => xs.length - i) 0 ⟨Nat.zero_le _, by simp⟩ (Weak.start tld) ?_
    intro i ⟨hi, hf⟩
    (refine goA ?_)
    refine Br.dec (fun h => ?_) (fun h => ?_)
    · simp only [List.length_map] at h
      (refine goA ?_)
      refine Opt.of (get_map (List.getElem?_eq_getElem (l := xs) (i := i) (by omega))) ?_
      (refine goA ?_)
      refine Opt.of (get_map (List.getElem?_eq_getElem (l := ys) (i := i) (by omega))) ?_
      (refine goA ?_)
      refine Br.cs (fun hb => ?_) (fun hb => ?_)
      · simp at hb
        (refine goA ?_)
        refine Ret.mk [.tmp _] rfl ?_; refine And.intro ?_ rfl
        have : ¬ xs = ys := fun e => by subst e; exact hb rfl
        simp [this]
      · simp at hb
        (refine goA ?_)
        refine Loop.next (i + 1) ?_ ?_ (Weak.back rfl tld rfl rfl)
        · exact ⟨by omega, by rw [List.take_add_one, List.take_add_one, hf, List.getElem?_eq_getElem (by omega), List.getElem?_eq_getElem (by omega), hb]⟩
        · omega
    · simp only [List.length_map] at h
      (refine goA ?_)
      refine Ret.mk [.tmp _] rfl ?_; refine And.intro ?_ rfl
      have : xs = ys := by
        rw [List.take_of_length_le (by omega), List.take_of_length_le (by omega)] at hf
        exact hf
      simp [this]
end Go.Proofs.Ytaplihoeephbeaa.V
end
section
namespace Go.Proofs.Ytaplihoeephbeaa.V
open Go Go.Proofs
set_option maxRecDepth 100000
structure Fm where
  fn : Int
  pc : Int
  ls : List Int
deriving DecidableEq
structure Th where
  st : Int
  on : Int
  fr : List Fm
  sk : List Int
  code : Int
deriving DecidableEq
def Fm.ok (f : Fm) : Prop := f.ls.length ≤ 9223372036854775806
end Go.Proofs.Ytaplihoeephbeaa.V
end
section
namespace Go.Proofs.Ytaplihoeephbeaa.V
open Go Go.Proofs
set_option maxRecDepth 100000
structure Th.ok (t : Th) : Prop where
  fl : t.fr.length ≤ 9223372036854775806
  sl : t.sk.length ≤ 9223372036854775806
  fo : ∀ f ∈ t.fr, f.ok
end Go.Proofs.Ytaplihoeephbeaa.V
end
section
namespace Go.Proofs.Ytaplihoeephbeaa.V
open Go Go.Proofs
set_option maxRecDepth 100000
set_option maxHeartbeats 4000000
@[reducible] def rowI (l : List Int) : Fam := one (.row 3 1 true (l.map (D.int .i64)))
end Go.Proofs.Ytaplihoeephbeaa.V
end
section
namespace Go.Proofs.Ytaplihoeephbeaa.V
open Go Go.Proofs
set_option maxRecDepth 100000
set_option maxHeartbeats 4000000
def around (n m : Int) : Int := if n < 0 then (-(n + 1)).tmod m else n.tmod m
theorem around33 (n m : Int) (hn : -9223372036854775808 ≤ n ∧ n ≤ 9223372036854775807) (hm : 1 ≤ m) : Spec Try.prog 33 [.int .i64 n, .int .i64 m] [] (fun d os' => d = .int .i64 (around n m) ∧ os' = []) := by
  refine Spec.by Try.func33 rfl (by decide) (by decide +kernel) rfl ?_
  (refine goA ?_)
  refine Br.dec (fun h => ?_) (fun h => ?_)
  · (refine goA ?_)
    refine Ret.mk [.tmp _] rfl ?_; refine And.intro ?_ rfl
    simp [around, h]
  · (refine goA ?_)
    refine Ret.mk [.tmp _] rfl ?_; refine And.intro ?_ rfl
    simp [around, h]
theorem around_lt (n m : Int) (hm : 1 ≤ m) : 0 ≤ around n m ∧ around n m < m := by
  unfold around
  split
  · rw [Int.tmod_eq_emod_of_nonneg (by omega)]
    exact ⟨Int.emod_nonneg _ (by omega), Int.emod_lt_of_pos _ (by omega)⟩
  · rw [Int.tmod_eq_emod_of_nonneg (by omega)]
    exact ⟨Int.emod_nonneg _ (by omega), Int.emod_lt_of_pos _ (by omega)⟩
end Go.Proofs.Ytaplihoeephbeaa.V
end
section
namespace Go.Proofs.Ytaplihoeephbeaa.V
open Go Go.Proofs
set_option maxRecDepth 100000
set_option maxHeartbeats 4000000
def I64 (n : Int) : Prop := -9223372036854775808 ≤ n ∧ n ≤ 9223372036854775807
theorem map_snoc (l : List Int) (v : Int) : l.map (D.int .i64) ++ [D.int .i64 v] = (l ++ [v]).map (D.int .i64) := by simp
end Go.Proofs.Ytaplihoeephbeaa.V
end
section
namespace Go.Proofs.Ytaplihoeephbeaa.V
open Go Go.Proofs
set_option maxRecDepth 100000
set_option maxHeartbeats 4000000
/-- Which threads may be. -/
def mayP (st code : Int) (fl sl : Nat) : Prop := 0 ≤ st ∧ st ≤ 9 ∧ 0 ≤ code ∧ code ≤ 6 ∧ (st = 9 ↔ fl = 0) ∧ (st = 9 → sl = 0) ∧ (st ≠ 9 → code = 0) ∧ fl ≤ 8 ∧ sl ≤ 16
instance (st code : Int) (fl sl : Nat) : Decidable (mayP st code fl sl) := by unfold mayP; infer_instance
end Go.Proofs.Ytaplihoeephbeaa.V
end
section
namespace Go.Proofs.Ytaplihoeephbeaa.V
open Go Go.Proofs
set_option maxRecDepth 100000
set_option maxHeartbeats 4000000
def lok (l : List Int) : Prop := l.length * 8 ≤ 140737488351232 ∧ ∀ v ∈ l, I64 v
@[reducible] def rowC (l : List (List Int)) : Fam := one (.row 23 1 true (l.map ints))
end Go.Proofs.Ytaplihoeephbeaa.V
end
section
namespace Go.Proofs.Ytaplihoeephbeaa.V
open Go Go.Proofs
set_option maxRecDepth 100000
set_option maxHeartbeats 4000000
/-- Of all slots but these nothing is known any more. -/
theorem Weak.only {n0 : Nat} {m : List (Nat × D)} {os : Objs} (sl : List (Nat × D)) (os' : Objs) (ho : os = os') (h : told m sl) : Weak n0 { m := m, objs := os } { m := sl, objs := os' } := by
  subst ho
  refine Weak.slots rfl (fun i => ?_)
  cases hc : (sl.map (·.1)).contains i with
  | true => exact .inr (told_look h hc)
  | false => exact .inl (look_not_mem hc)
end Go.Proofs.Ytaplihoeephbeaa.V
end
section
namespace Go.Proofs.Ytaplihoeephbeaa.V
open Go Go.Proofs
set_option maxRecDepth 100000
set_option maxHeartbeats 40000000
/-- A ring that is as one must be: what it holds, in its row. -/
structure Rg (room a n : Int) (L c : List Int) : Prop where
  rm : 0 ≤ room ∧ room ≤ 1024
  nl : n = c.length
  cl : c.length ≤ L.length
  ll : (L.length : Int) ≤ room
  at0 : 0 ≤ a
  atl : L = [] ∧ a = 0 ∨ a < L.length
  el : ∀ i, i < c.length → L[(a.toNat + i) % L.length]? = c[i]?
theorem Rg.grow {room a n : Int} {L c : List Int} (h : Rg room a n L c) (hn : (c.length : Int) < room) (v : Int) : Rg room 0 (n + 1) (c ++ [v]) (c ++ [v]) := by
  have h1 := h.nl
  refine ⟨h.rm, by simp; omega, Nat.le_refl _, by simp; omega, Int.le_refl _, .inr (by simp), fun i hi => ?_⟩
  rw [show (0 : Int).toNat = 0 from rfl, Nat.zero_add, Nat.mod_eq_of_lt hi]
theorem Rg.put {room a n : Int} {L c : List Int} (h : Rg room a n L c) (hn : c.length < L.length) (v : Int) : Rg room a (n + 1) (L.set ((a.toNat + c.length) % L.length) v) (c ++ [v]) := by
  obtain ⟨h1, h2, h3, h4, h5, h6, h7⟩ := id h
  have hal : a < L.length := by
    rcases h6 with ⟨rfl, _⟩ | h6
    · simp at hn
    · exact h6
  refine ⟨h1, by simp; omega, by simp; omega, by simp; omega, h5, .inr (by simp; omega), fun i hi => ?_⟩
  rw [List.length_set]
  have hmod : ∀ x, x < L.length → (a.toNat + x) % L.length = if a.toNat + x < L.length then a.toNat + x else a.toNat + x - L.length := fun x hx => by
    split
    · rename_i hh; exact Nat.mod_eq_of_lt hh
    · rename_i hh; rw [Nat.mod_eq_sub_mod (by omega), Nat.mod_eq_of_lt (by omega)]
  rw [List.length_append, List.length_singleton] at hi
  by_cases hic : i = c.length
  · subst hic
    rw [List.getElem?_set_self (Nat.mod_lt _ (by omega))]
    simp
  · have hne : ¬ (a.toNat + c.length) % L.length = (a.toNat + i) % L.length := by
      rw [hmod c.length hn, hmod i (by omega)]
      split <;> split <;> omega
    rw [List.getElem?_set_ne hne, h7 i (by omega), List.getElem?_append_left (by omega)]
end Go.Proofs.Ytaplihoeephbeaa.V
end
section
namespace Go.Proofs.Ytaplihoeephbeaa.V
open Go Go.Proofs
set_option maxRecDepth 100000
set_option maxHeartbeats 40000000
/-- Behind a call all roads lead to one place. -/
theorem Call.cut {f : FuncId} {args : List D} {os : Objs} {K : D → Objs → Prop} {post : D → Objs → Prop} {A : Type} {n0 : Nat} {K2 : St → Prop} (S : A → List (Nat × D)) (O : A → Objs) (Q : A → Prop)
    (h : Spec Try.prog f args os post) (hk : ∀ d os', post d os' → (∀ a, Q a → Pt n0 { m := S a, objs := O a } K2) → K d os') (key : ∀ a, Q a → Pt n0 { m := S a, objs := O a } K2) : Call Try.prog f args os K :=
  .mk h fun d os' hp => hk d os' hp key
end Go.Proofs.Ytaplihoeephbeaa.V
end
section
namespace Go.Proofs.Ytaplihoeephbeaa.V
open Go Go.Proofs
set_option maxRecDepth 100000
set_option maxHeartbeats 40000000
/-- All roads lead to one place. -/
theorem cutG {A : Type} {n0 : Nat} {K2 : St → Prop} {G : Prop} (S : A → List (Nat × D)) (O : A → Objs) (Q : A → Prop) (hk : (∀ a, Q a → Pt n0 { m := S a, objs := O a } K2) → G) (key : ∀ a, Q a → Pt n0 { m := S a, objs := O a } K2) : G := hk key
end Go.Proofs.Ytaplihoeephbeaa.V
end
section
namespace Go.Proofs.Ytaplihoeephbeaa.V
open Go Go.Proofs
set_option maxRecDepth 100000
set_option maxHeartbeats 40000000
theorem wrapu {n : Int} (h0 : 0 ≤ n) (h1 : n < 18446744073709551616) : n = IntKind.u64.wrap n := by rw [IntKind.wrap_u64]; omega
theorem and32 (a : Int) (h0 : 0 ≤ a) (h1 : a < 4294967296) : a = IntKind.u64.wrap (BitVec.ofInt IntKind.u64.bits a &&& BitVec.ofInt IntKind.u64.bits 4294967295).toNat := by
  obtain ⟨n, rfl⟩ := Int.eq_ofNat_of_zero_le h0
  have hn : n < 4294967296 := by omega
  have e : (BitVec.ofInt IntKind.u64.bits (n : Int) &&& BitVec.ofInt IntKind.u64.bits 4294967295).toNat = n := by
    rw [BitVec.toNat_and]
    have e1 : (BitVec.ofInt IntKind.u64.bits (n : Int)).toNat = n := by
      rw [BitVec.toNat_ofInt]
      show ((n : Int) % ((2 ^ 64 : Nat) : Int)).toNat = n
      omega
    have e2 : (BitVec.ofInt IntKind.u64.bits 4294967295).toNat = 2 ^ 32 - 1 := by decide
    rw [e1, e2, Nat.and_two_pow_sub_one_eq_mod]
    exact Nat.mod_eq_of_lt hn
  rw [e]
  exact wrapu h0 (by omega)
theorem shr32 (a : Int) (h0 : 0 ≤ a) (h1 : a < 4294967296) : 0 = a / 2 ^ min (32 : Int).toNat IntKind.u64.bits := by
  have : min (32 : Int).toNat IntKind.u64.bits = 32 := by decide
  rw [this]
  omega
theorem mul226 (a b : Int) (ha : 0 ≤ a ∧ a ≤ 1000) (hb : 0 ≤ b ∧ b ≤ 1000) (hab : a * b ≤ 1000000 ∧ 0 ≤ a * b) : Spec Try.prog 226 [.int .u64 a, .int .u64 b] [] (fun d os' => d = .tup [.int .u64 0, .int .u64 (a * b)] ∧ os' = []) := by
  refine Spec.by Try.func226 rfl (by decide) (by decide +kernel) rfl ?_
  (refine goA ?_)
  refine Nm.mk a (and32 a (by omega) (by omega)) ?_
  (refine goA ?_)
  refine Nm.mk 0 (shr32 a (by omega) (by omega)) ?_
  (refine goA ?_)
  refine Nm.mk b (and32 b (by omega) (by omega)) ?_
  (refine goA ?_)
  refine Nm.mk 0 (shr32 b (by omega) (by omega)) ?_
  (refine goA ?_)
  refine Ar.mk (a * b) (wrapu (by omega) (by omega)) ?_
  (refine goA ?_)
  refine Ar.mk 0 (by rw [Int.zero_mul]; exact wrapu (by omega) (by omega)) ?_
  (refine goA ?_)
  refine Nm.mk 0 (shr32 (a * b) (by omega) (by omega)) ?_
  (refine goA ?_)
  refine Ar.mk 0 (wrapu (by omega) (by omega)) ?_
  (refine goA ?_)
  refine Nm.mk 0 (and32 0 (by omega) (by omega)) ?_
  (refine goA ?_)
  refine Nm.mk 0 (shr32 0 (by omega) (by omega)) ?_
  (refine goA ?_)
  refine Ar.mk 0 (by rw [Int.mul_zero]; exact wrapu (by omega) (by omega)) ?_
  (refine goA ?_)
  refine Ar.mk 0 (wrapu (by omega) (by omega)) ?_
  (refine goA ?_)
  refine Ar.mk 0 (wrapu (by omega) (by omega)) ?_
  (refine goA ?_)
  refine Ar.mk 0 (wrapu (by omega) (by omega)) ?_
  (refine goA ?_)
  refine Nm.mk 0 (shr32 0 (by omega) (by omega)) ?_
  (refine goA ?_)
  refine Ar.mk 0 (wrapu (by omega) (by omega)) ?_
  (refine goA ?_)
  refine Ar.mk (a * b) (wrapu (by omega) (by omega)) ?_
  (refine goA ?_)
  exact Ret.mk [.tmp 4, .tmp 5] rfl ⟨rfl, rfl⟩
theorem mul193 (a b : Int) (ha : 0 ≤ a ∧ a ≤ 1000) (hb : 0 ≤ b ∧ b ≤ 1000) (hab : a * b ≤ 1000000 ∧ 0 ≤ a * b) : Spec Try.prog 193 [.int .u64 a, .int .u64 b] [] (fun d os' => d = .tup [.int .u64 0, .int .u64 (a * b)] ∧ os' = []) := by
  refine Spec.by Try.func193 rfl (by decide) (by decide +kernel) rfl ?_
  (refine goA ?_)
  refine Call.mk ((mul226 a b ha hb hab).only _ rfl (by rintro d rfl; rfl)) ?_; rintro d os' ⟨rfl, rfl⟩
  (refine goA ?_)
  exact Ret.mk [.tmp 4, .tmp 5] rfl ⟨rfl, rfl⟩
/-- The first k are told. -/
def repL148 (v : Int) (n k : Nat) : List Int := List.replicate k v ++ List.replicate (n - k) 0
theorem rep148_len (v : Int) (n k : Nat) (h : k ≤ n) : (repL148 v n k).length = n := by simp [repL148]; omega
theorem rep148_splice (v : Int) (n k j : Nat) (h : k + j ≤ n) : splice ((repL148 v n k).map (D.int .i64)) k (List.replicate j (D.int .i64 v)) = (repL148 v n (k + j)).map (D.int .i64) := by
  have e1 : ((repL148 v n k).map (D.int .i64)).take k = List.replicate k (D.int .i64 v) := by
    simp only [repL148, List.map_append, List.map_replicate]
    exact List.take_left' (by simp)
  have e2 : ((repL148 v n k).map (D.int .i64)).drop (k + (List.replicate j (D.int .i64 v)).length) = List.replicate (n - (k + j)) (D.int .i64 0) := by
    simp only [repL148, List.map_append, List.map_replicate, List.length_replicate]
    rw [List.drop_append, List.drop_eq_nil_of_le (by simp)]
    simp
    omega
  rw [splice, e1, e2]
  simp only [repL148, List.map_append, List.map_replicate]
  rw [← List.append_assoc, List.replicate_append_replicate]
theorem repeat148 (v : Int) (n : Nat) (hn : n ≤ 1000) : Spec Try.prog 148 [ints [v], .int .i64 n] [] (fun d os' => d = .sl 0 0 1 0 n none ∧ os' = [rowI (List.replicate n v)]) := by
  refine Spec.by Try.func148 rfl (by decide) (by decide +kernel) rfl ?_
  (refine goA ?_)
  refine Ar.mk 1 (wrapu (by omega) (by omega)) ?_
  (refine goA ?_)
  refine Ar.mk (n : Int) (wrapu (by omega) (by omega)) ?_
  (refine goA ?_)
  refine Call.mk ((mul193 1 (n : Int) (by omega) (by omega) (by omega)).only _ rfl (by rintro d rfl; rfl)) ?_; rintro d os' ⟨rfl, rfl⟩
  rw [Int.one_mul]
  (refine goA ?_)
  rw [Int.toNat_natCast]
  refine App.own ?_
  (refine goA ?_)
  cases n with
  | zero =>
    refine Nm.mk 0 (Nat.min_zero _).symm ?_
    refine ⟨fun _ => ?_, fun h => absurd h (by decide)⟩
    (refine goA ?_)
    refine Loop.inv (A := Unit) (List.range 48) (fun _ => [(7, .sl 0 0 1 0 0 none), (8, .int .i64 0)]) (fun _ => [rowI []]) (fun _ => True) (fun _ => 0) () trivial ?_ ?_
    · exact Weak.start' rfl rfl tld
    intro _ _
    (refine goA ?_)
    exact Ret.mk [.tmp 4] rfl ⟨rfl, rfl⟩
  | succ n =>
    refine Nm.mk 1 (by show 1 = min 1 (n + 1); omega) ?_
    refine ⟨fun h => absurd h (by decide), fun _ => ?_⟩
    (refine goA ?_)
    refine Loop.inv (A := Nat) (List.range 48) (fun k => [(7, .sl 0 0 1 0 (n + 1) none), (8, .int .i64 (k : Int))]) (fun k => [rowI (repL148 v (n + 1) k)]) (fun k => 1 ≤ k ∧ k ≤ n + 1) (fun k => n + 1 - k) 1 ⟨Nat.le_refl _, by omega⟩ ?_ ?_
    · have h1 := rep148_splice v (n + 1) 0 1 (by omega)
      have e : (repL148 v (n + 1) 0).map (D.int .i64) = List.replicate (n + 1) (D.int .i64 0) := by simp [repL148]
      rw [e] at h1
      exact Weak.trans (Weak.objs (os' := [rowI (repL148 v (n + 1) 1)]) (congrArg (fun r => ([one (.row 3 1 true r)] : Objs)) h1)) (Weak.start' rfl rfl tld)
    intro k hk
    have hkl := rep148_len v (n + 1) k hk.2
    have hkm : ((repL148 v (n + 1) k).map (D.int .i64)).length = n + 1 := by rw [List.length_map]; exact hkl
    (refine goA ?_)
    refine Br.dec (fun h1 => ?_) (fun h1 => ?_)
    · (refine goA ?_)
      obtain ⟨j, hj⟩ : ∃ j, min k (n + 1 - k) = j := ⟨_, rfl⟩
      have hnews : List.take j (List.take ((k : Int).toNat - Int.toNat 0) (List.drop (0 + Int.toNat 0) ((repL148 v (n + 1) k).map (D.int .i64)))) = List.replicate j (D.int .i64 v) := by
        rw [show (k : Int).toNat - Int.toNat 0 = k by omega, show 0 + Int.toNat 0 = 0 by rfl, List.drop_zero, List.take_take, show min j k = j by omega]
        simp only [repL148, List.map_append, List.map_replicate]
        rw [List.take_append_of_le_length (by simp; omega), List.take_replicate]
        congr 1; omega
      have hmin : j = min (List.take ((k : Int).toNat - Int.toNat 0) (List.drop (0 + Int.toNat 0) ((repL148 v (n + 1) k).map (D.int .i64)))).length (((n + 1 : Nat) : Int).toNat - (k : Int).toNat) := by
        rw [List.length_take, List.length_drop, hkm]; omega
      refine Nm.mk j hmin ?_
      dsimp only
      rw [hnews]
      refine ⟨fun h => absurd h (by omega), fun _ => ?_⟩
      refine ⟨fun _ => by rw [← List.map_replicate]; exact pureL_map (fun _ => rfl) _, ?_⟩
      (refine goA ?_)
      refine ⟨_, _, _, ?_, ⟨k + j, ?_, rfl, rfl, rfl⟩, ?_⟩
      · show n + 1 - (k + j) < n + 1 - k; omega
      · exact ⟨by omega, by omega⟩
      · have h2 := rep148_splice v (n + 1) k j (by omega)
        have e0 : 0 + (k : Int).toNat = k := by omega
        refine Weak.backT 1 (by simp) ?_ (by kernel_rfl) (Nat.le_of_ble_eq_true rfl) tld (by kernel_rfl) (by kernel_rfl)
        rw [e0]
        exact congrArg (fun r => ([one (.row 3 1 true r)] : Objs)) h2
    · obtain rfl : k = n + 1 := by omega
      (refine goA ?_)
      refine Ret.mk [.tmp 4] rfl ⟨rfl, ?_⟩
      have e : repL148 v (n + 1) (n + 1) = List.replicate (n + 1) v := by simp [repL148]
      rw [e]
end Go.Proofs.Ytaplihoeephbeaa.V
end
section
namespace Go.Proofs.Ytaplihoeephbeaa.V
open Go Go.Proofs
set_option maxRecDepth 100000
set_option maxHeartbeats 40000000
theorem clone130p (xs : List Int) (hl : xs.length * 8 ≤ 140737488351232) (hx : xs ≠ []) : Spec Try.prog 130 [ints xs] [] (fun d os' => d = .sl 0 0 1 0 xs.length none ∧ os' = [rowI xs]) := by
  have hm : (xs.map (D.int .i64)) ≠ [] := fun e => hx (List.map_eq_nil_iff.1 e)
  refine Spec.by Try.func130 rfl (by decide) (by decide +kernel) rfl ?_
  (refine goA ?_)
  refine And.intro (fun hn => ?_) (fun hn => absurd hn hm)
  (refine goA ?_)
  refine App.own ?_
  (refine goA ?_)
  refine Ret.weak (Weak.shift 1 0 (by decide) (by simp) (Nat.le_of_ble_eq_true rfl) (Nat.le_of_ble_eq_true rfl) (fun j => by cases j <;> rfl) rfl) ?_
  refine Ret.trim 1 (by simp) rfl (Nat.le_of_ble_eq_true rfl) ?_
  refine Ret.mk [.tmp _] rfl (And.intro ?_ rfl)
  show D.sl 0 0 1 0 (0 + (xs.map (D.int .i64)).length) none = _
  simp
theorem ownL_ints : ∀ (l : List Int), D.ownL (l.map (D.int .i64)) = true
  | [] => rfl
  | v :: l => by
    show ((D.int .i64 v).own && D.ownL (l.map (D.int .i64))) = true
    rw [ownL_ints l]; rfl
end Go.Proofs.Ytaplihoeephbeaa.V
end
section
namespace Go.Proofs.Ytaplihoeephbeaa.V
open Go Go.Proofs
set_option maxRecDepth 100000
/-! The steps between states, with what they ask found where they are used. -/
theorem Weak.on {n0 : Nat} {m : List (Nat × D)} {os : Objs} (sl : List (Nat × D)) (os' : Objs) (ho : os = os' := by kernel_rfl) (h : told m sl := by repeat (first | exact trivial | refine And.intro (by first | rfl | exact congrArg (fun n => D.sl _ _ _ _ n none) List.length_append | exact congrArg _ (by omega)) ?_)) : Weak n0 { m := m, objs := os } { m := sl, objs := os' } := Weak.only sl os' ho h
theorem Pt.on {n0 : Nat} {m : List (Nat × D)} {os : Objs} {K : St → Prop} (sl : List (Nat × D)) (os' : Objs) (hk : Pt n0 { m := sl, objs := os' } K) (ho : os = os' := by kernel_rfl) (h : told m sl := by repeat (first | exact trivial | refine And.intro (by first | rfl | exact congrArg (fun n => D.sl _ _ _ _ n none) List.length_append | exact congrArg _ (by omega)) ?_)) : Pt n0 { m := m, objs := os } K := Pt.weak (Weak.only sl os' ho h) hk
theorem Weak.fin {n0 : Nat} {m0 sl : List (Nat × D)} {os0 os : Objs} (n : Nat) (ho' : os0.take n = os := by kernel_rfl) (hn : n0 ≤ n := by simp) (ho : (os0.take n).all (fun F => F.lt n) = true := by kernel_rfl) (hl : n ≤ os0.length := by exact Nat.le_of_ble_eq_true rfl)
    (hsl : told (trimM n m0) sl := by repeat (first | exact trivial | refine And.intro (by first | rfl | exact congrArg (fun n => D.sl _ _ _ _ n none) List.length_append | exact congrArg _ (by omega)) ?_)) : Weak n0 { m := m0, objs := os0 } { m := sl, objs := os } :=
  Weak.trans (Weak.trim n hn ho hl) (Weak.only sl os ho' hsl)
theorem Weak.shf {n0 : Nat} {m : List (Nat × D)} {os : Objs} {u : St} (a b : Nat) (hk : Weak n0 { m := renM a b (forgetM b m), objs := ((os.map (Fam.ren a b)).set b ((os.getD a (.one .gone)).ren a b)).set a (.one .gone) } u)
    (hab : a ≠ b := by decide) (hb0 : n0 ≤ b := by simp) (ha : a < os.length := by exact Nat.le_of_ble_eq_true rfl) (hb : b < os.length := by exact Nat.le_of_ble_eq_true rfl) (hgone : ∀ j, os.at b j = .gone := by intro j; cases j <;> rfl) (ho : os.all (fun F => !F.names b) = true := by rfl) : Weak n0 { m := m, objs := os } u :=
  Weak.trans (Weak.shift a b hab hb0 ha hb hgone ho) hk
/-- What one that may come early asks. -/
theorem erC {τ : Tau} {l : List Oper} {s : St} {j : Nat} {b : Prop} (hb : b) (ha : earlyC τ l s j := by ((conv => whnf); refine ⟨⟨by first | omega | (simp; omega), by first | omega | (simp; omega)⟩, by first | omega | (simp; omega), by first | omega | (simp; omega)⟩)) : earlyC τ l s j ∧ b := ⟨ha, hb⟩
end Go.Proofs.Ytaplihoeephbeaa.V
end
section
namespace Go.Proofs.Ytaplihoeephbeaa.V
open Go Go.Proofs
set_option maxRecDepth 100000
set_option maxHeartbeats 40000000
/-- A callee that is given an element of a row to write, at any place. -/
theorem Spec.rowAt {P : Program} {f : FuncId} {args : List D} {t : TypeId} {sz e off : Nat} {pr : Bool} {es : List D} {post : D → List D → Prop} (h : Spec P f (.ptr 0 0 sz e off :: args) [one (.row t sz pr es)] (fun d os' => ∃ es', post d es' ∧ os' = [one (.row t sz pr es')]))
    (i : Nat) (os : Objs) (hat : os.at i 0 = .row t sz pr es) (hargs : D.pureL args = true) (hx : D.pureL es = true) (hp : ∀ d y, post d y → d.pure = true ∧ D.pureL y = true) :
    Spec P f (.ptr i 0 sz e off :: args) os (fun d os' => ∃ es', post d es' ∧ os' = os.put i 0 (.row t sz pr es')) := by
  have hil := lt_of_at (os := os) (i := i) (j := 0) (by rw [hat]; simp)
  have := h.frame os [(i, 0)] rfl (by simp) (fun k p hk => by
    cases k with
    | zero =>
      simp at hk; subst hk
      refine ⟨hil, ?_, ?_, fun j hj => one_pos _ hj⟩
      · rw [hat]
        show _ = O.mapId _ (.row t sz pr es)
        cases pr <;> simp only [O.mapId, mapIdL_pure _ _ hx]
      · show O.sgl _ (.row t sz pr es) = true
        cases pr <;> simp [O.sgl, sglL_pure _ _ hx]
    | succ k => simp at hk) (by simp [D.sglL, D.sgl, sglL_pure _ _ hargs])
  have e1 : D.mapIdL (lead [(i, 0)] os.length) (.ptr 0 0 sz e off :: args) = .ptr i 0 sz e off :: args := by
    simp only [D.mapIdL, D.mapId, lead, mapIdL_pure _ _ hargs]
    rfl
  rw [e1] at this
  refine this.mono ?_
  rintro d os' ⟨d1, os1, ⟨y, hy, rfl⟩, rfl, rfl⟩
  obtain ⟨h1, h2⟩ := hp _ _ hy
  refine ⟨y, by rw [mapId_pure _ _ h1]; exact hy, ?_⟩
  simp only [merge, putAll, List.drop_one, List.length_cons, List.length_nil, List.drop_succ_cons, List.drop_zero, List.map_nil, List.append_nil, List.tail_cons]
  show os.put i 0 (O.mapId _ (.row t sz pr y)) = _
  cases pr <;> simp [O.mapId, mapIdL_pure _ _ h2]
/-- A row of what is only read, told in other words. -/
theorem Weak.retellP {n0 : Nat} {m : List (Nat × D)} {os : Objs} (k : Nat) {t : TypeId} {sz : Nat} {es : List D} (hk : os.at k 0 = .row t sz true es) (es' : List D) (hl : es'.length = es.length) (h : ∀ I us, repL bot I es us → repL bot I es' us) :
    Weak n0 { m := m, objs := os } { m := m, objs := os.put k 0 (.row t sz true es') } := by
  intro ρ I w tm h1 h2 h3
  obtain ⟨g1, g2⟩ := h1.retell (k := k) (by show os.at k 0 ≠ .gone; rw [hk]; simp) (.row t sz true es') (by
    intro p hp hok
    rw [show ({ m := m, objs := os } : St).objs = os from rfl, hk] at hok
    obtain ⟨a1, a2, a3⟩ := hok
    refine ⟨by rw [hl]; exact a1, a2, fun hpos => ?_⟩
    obtain ⟨arr, us, b1, b2, b3, b4, b5⟩ := a3 hpos
    exact ⟨arr, us, b1, b2, h I us b3, b4, b5⟩)
  exact ⟨ρ, I, g1, h2, Im.le_refl _, by rw [length_put]; exact h3, fun _ _ _ => rfl, fun _ hb => .inl hb, g2⟩
theorem rep_full {ρ : Pl} {I : Im} {v : Value} {sz : Nat} {es : List D} (h : rep ρ I (.lst sz true es) v) : rep ρ I (.lst sz false es) v := by
  rw [rep] at h ⊢
  obtain ⟨A, c, us, e, h1, hm, h2, h3⟩ := h
  exact ⟨A, c, us, e, h1, hm, (fun h => Bool.noConfusion h), h3⟩
theorem repL_set2 {ρ : Pl} {I : Im} {d d' : D} (h : ∀ v, rep ρ I d v → rep ρ I d' v) : ∀ (l : List D) (e : Nat) (vs : List Value), repL ρ I (l.set e d) vs → repL ρ I (l.set e d') vs
  | [], _, _, hr => hr
  | x :: l, 0, vs, hr => by
    obtain ⟨u, us, rfl, hu, hr⟩ := repL_cons.1 hr
    exact repL_cons.2 ⟨u, us, rfl, h u hu, hr⟩
  | x :: l, e + 1, vs, hr => by
    obtain ⟨u, us, rfl, hu, hr⟩ := repL_cons.1 hr
    exact repL_cons.2 ⟨u, us, rfl, hu, repL_set2 h l e us hr⟩
theorem pureL_rows (Ls : List (List Int)) : D.pureL (Ls.map ints) = true := pureL_map (fun _ => rfl) _
theorem set_ints (Ls : List (List Int)) (e : Nat) (L : List Int) : (Ls.map ints).set e (ints L) = (Ls.set e L).map ints := by rw [List.map_set]
theorem push149 (Ls : List (List Int)) (e : Nat) (L : List Int) (hL : Ls[e]? = some L) (t : Int) (hl : L.length ≤ 1000000) : Spec Try.prog 149 [.ptr 0 0 1 e 0, .int .i64 t] [rowC Ls] (fun d os' => ∃ es', (d = .tup [] ∧ es' = (Ls.set e (L ++ [t])).map ints) ∧ os' = [one (.row 23 1 true es')]) := by
  have hlm : (L.map (D.int .i64)).length = L.length := List.length_map ..
  refine Spec.by Try.func149 rfl (by decide) (by decide +kernel) rfl ?_
  (refine goA ?_)
  refine Opt.of (get_map hL) ?_
  (refine goA ?_)
  refine Nm.mk (L.map (D.int .i64)) (by simp [List.take_of_length_le]) ?_
  (refine goA ?_)
  refine App.only false rfl rfl ?_
  (refine goA ?_)
  refine App.only false rfl rfl ?_
  (refine goA ?_)
  refine Opt.of (get_map hL) ?_
  (refine goA ?_)
  refine Ret.mk [] rfl ⟨_, ⟨rfl, ?_⟩, rfl⟩
  rw [← set_ints]
  exact congrArg (fun r => (Ls.map ints).set e (.lst 1 false r)) (map_snoc _ _)
/-- The first one of a row, none: there is none. -/
def headQ (L : List Int) : Int := L.headD (-1)
theorem pop156 (Ls : List (List Int)) (e : Nat) (L : List Int) (hL : Ls[e]? = some L) (hl : L.length ≤ 1000000) : Spec Try.prog 156 [.ptr 0 0 1 e 0] [rowC Ls] (fun d os' => ∃ es', (d = .int .i64 (headQ L) ∧ es' = (Ls.set e L.tail).map ints) ∧ os' = [one (.row 23 1 true es')]) := by
  cases L with
  | nil =>
    refine Spec.by Try.func156 rfl (by decide) (by decide +kernel) rfl ?_
    (refine goA ?_)
    refine Opt.of (get_map hL) ?_
    (refine goA ?_)
    refine Ret.mk [.tmp 2] rfl ⟨_, ⟨rfl, ?_⟩, rfl⟩
    rw [← set_ints]
    exact (set_same hL).symm
  | cons v L =>
    have hlm : (L.map (D.int .i64)).length = L.length := List.length_map ..
    refine Spec.by Try.func156 rfl (by decide) (by decide +kernel) rfl ?_
    (refine goA ?_)
    refine Opt.of (get_map hL) ?_
    (refine goA ?_)
    refine Nm.mk (L.map (D.int .i64)) (by simp [List.take_of_length_le]) ?_
    (refine goR ?_)
    refine Opt.of (get_map hL) ?_
    (refine goA ?_)
    refine Ret.weak (Weak.on [(2, .int .i64 v)] [one (.row 23 1 true ((Ls.map ints).set e (.lst 1 true (L.map (D.int .i64)))))]) ?_
    refine Ret.weak (Weak.retellP 0 rfl ((Ls.map ints).set e (ints L)) (by rw [List.length_set, List.length_set]) (fun I us => repL_set2 (fun v => rep_full) _ _ _)) ?_
    refine Ret.mk [.tmp 2] rfl ⟨_, ⟨rfl, ?_⟩, rfl⟩
    rw [← set_ints]
    rfl
end Go.Proofs.Ytaplihoeephbeaa.V
end
section
namespace Go.Proofs.Ytaplihoeephbeaa.V
open Go Go.Proofs
set_option maxRecDepth 100000
set_option maxHeartbeats 40000000
/-- What locks have: whose each mutex is, each semaphore's count, who waits. -/
structure Lk where
  ow : List Int
  co : List Int
  lk : List (List Int)
  wq : List (List Int)
  dq : List (List Int)
/-- How much stands in rows. -/
def sumL (l : List (List Int)) : Nat := (l.map List.length).sum
structure LkL (nm nw ns : Nat) (S : Lk) : Prop where
  ow : S.ow.length = nm
  co : S.co.length = ns
  lk : S.lk.length = nm
  wq : S.wq.length = nw
  dq : S.dq.length = ns
  tot : sumL S.lk + sumL S.wq + sumL S.dq ≤ 1000
theorem sumL_mem : ∀ {l : List (List Int)} {L : List Int}, L ∈ l → L.length ≤ sumL l
  | x :: l, L, h => by
    unfold sumL
    rcases List.mem_cons.1 h with rfl | h
    · simp
    · have := sumL_mem h; unfold sumL at this; simp; omega
theorem LkL.l1 {nm nw ns : Nat} {S : Lk} (h : LkL nm nw ns S) : ∀ L ∈ S.lk, L.length ≤ 1000 := fun L hL => by have := sumL_mem hL; have := h.tot; omega
theorem LkL.l2 {nm nw ns : Nat} {S : Lk} (h : LkL nm nw ns S) : ∀ L ∈ S.wq, L.length ≤ 1000 := fun L hL => by have := sumL_mem hL; have := h.tot; omega
theorem LkL.l3 {nm nw ns : Nat} {S : Lk} (h : LkL nm nw ns S) : ∀ L ∈ S.dq, L.length ≤ 1000 := fun L hL => by have := sumL_mem hL; have := h.tot; omega
@[reducible] def lkD (nm nw ns : Nat) : D := .agg [.int .i64 0, .nils, .sl 0 0 1 0 nm none, .sl 1 0 1 0 ns none, .nils, .sl 2 0 1 0 nm none, .sl 3 0 1 0 nw none, .sl 4 0 1 0 ns none, .nils, .nils]
@[reducible] def lkC (nm nw ns : Nat) : Fam := one (.row 93 10 false [lkD nm nw ns])
@[reducible] def lkO (nm nw ns : Nat) (S : Lk) (r : Objs) : Objs := rowI S.ow :: rowI S.co :: rowC S.lk :: rowC S.wq :: rowC S.dq :: lkC nm nw ns :: r
@[reducible] def lkP : D := .ptr 5 0 10 0 0
theorem rowI_at (l : List Int) (m : Nat) (h : m < l.length) : (l.map (D.int .i64))[0 + m]? = some (.int .i64 (l.getD m 0)) := by
  rw [Nat.zero_add, List.getElem?_map, List.getD_eq_getElem?_getD, List.getElem?_eq_getElem h]; rfl
def qAt (l : List (List Int)) (m : Nat) : List Int := l.getD m []
theorem qAt_get (l : List (List Int)) (m : Nat) (h : m < l.length) : l[m]? = some (qAt l m) := by
  rw [qAt, List.getD_eq_getElem?_getD, List.getElem?_eq_getElem h]; rfl
theorem qAt_mem {l : List (List Int)} {m : Nat} (h : m < l.length) : qAt l m ∈ l := List.mem_of_getElem? (qAt_get l m h)
theorem rowC_at (l : List (List Int)) (m : Nat) (h : m < l.length) : (l.map ints)[0 + m]? = some (ints (qAt l m)) := by
  rw [Nat.zero_add]; exact get_map (qAt_get l m h)
/-- A mutex is handed on. -/
def handS (S : Lk) (m : Nat) : Lk := { S with ow := S.ow.set m (headQ (qAt S.lk m)), lk := S.lk.set m (qAt S.lk m).tail }
def lockS (S : Lk) (m : Nat) (t : Int) : Lk × Bool := if S.ow.getD m 0 ≠ -1 then ({ S with lk := S.lk.set m (qAt S.lk m ++ [t]) }, false) else ({ S with ow := S.ow.set m t }, true)
def unlockS (S : Lk) (m : Nat) (t : Int) : Lk × Int × Int := if S.ow.getD m 0 ≠ t then (S, -1, 10) else (handS S m, headQ (qAt S.lk m), 0)
/-- A number is pushed behind a queue of the kind k (3, 4, 5). -/
theorem pushK (os : Objs) (k : Nat) (Ls : List (List Int)) (e : Nat) (he : e < Ls.length) (hl : ∀ L ∈ Ls, L.length ≤ 1000) (t : Int) (hat : os.at k 0 = .row 23 1 true (Ls.map ints)) {e' : Nat} (hee : e = e') :
    Spec Try.prog 149 [.ptr k 0 1 e' 0, .int .i64 t] os (fun d os' => d = .tup [] ∧ os' = os.put k 0 (.row 23 1 true ((Ls.set e (qAt Ls e ++ [t])).map ints)))  := by
  subst hee
  refine ((push149 Ls e _ (qAt_get Ls e he) t (by have := hl _ (qAt_mem he); omega)).rowAt k os hat rfl (pureL_rows _) (by rintro d y ⟨rfl, rfl⟩; exact ⟨rfl, pureL_rows _⟩)).mono ?_
  rintro d os' ⟨es, ⟨rfl, rfl⟩, rfl⟩
  exact ⟨rfl, rfl⟩
theorem popK (os : Objs) (k : Nat) (Ls : List (List Int)) (e : Nat) (he : e < Ls.length) (hl : ∀ L ∈ Ls, L.length ≤ 1000) (hat : os.at k 0 = .row 23 1 true (Ls.map ints)) {e' : Nat} (hee : e = e') :
    Spec Try.prog 156 [.ptr k 0 1 e' 0] os (fun d os' => d = .int .i64 (headQ (qAt Ls e)) ∧ os' = os.put k 0 (.row 23 1 true ((Ls.set e (qAt Ls e).tail).map ints)))  := by
  subst hee
  refine ((pop156 Ls e _ (qAt_get Ls e he) (by have := hl _ (qAt_mem he); omega)).rowAt k os hat rfl (pureL_rows _) (by rintro d y ⟨rfl, rfl⟩; exact ⟨rfl, pureL_rows _⟩)).mono ?_
  rintro d os' ⟨es, ⟨rfl, rfl⟩, rfl⟩
  exact ⟨rfl, rfl⟩
theorem hand150 {nm nw ns : Nat} {S : Lk} (h : LkL nm nw ns S) (m : Nat) (hm : m < nm) (r : Objs) : Spec Try.prog 150 [lkP, .int .i64 m] (lkO nm nw ns S r) (fun d os' => d = .int .i64 (headQ (qAt S.lk m)) ∧ os' = lkO nm nw ns (handS S m) r) := by
  have h1 := h.ow
  have h2 := h.lk
  have h1m : (S.ow.map (D.int .i64)).length = nm := by rw [List.length_map]; exact h1
  have h2m : (S.lk.map ints).length = nm := by rw [List.length_map]; exact h2
  have hg := rowI_at S.ow m (by omega)
  have hg2 := rowI_at (S.ow.set m (headQ (qAt S.lk m))) m (by rw [List.length_set]; omega)
  have he : (S.ow.map (D.int .i64)).set (0 + (m : Int).toNat) (D.int .i64 (headQ (qAt S.lk m))) = (S.ow.set m (headQ (qAt S.lk m))).map (D.int .i64) := by rw [show 0 + (m : Int).toNat = m by omega, List.map_set]
  have hv : (S.ow.set m (headQ (qAt S.lk m))).getD m 0 = headQ (qAt S.lk m) := by rw [List.getD_eq_getElem?_getD, List.getElem?_set_self (by omega)]; rfl
  rw [hv] at hg2
  refine Spec.by Try.func150 rfl (by decide) (by decide +kernel) rfl ?_
  (refine goA ?_)
  refine Call.mk (popK _ 2 S.lk m (by omega) h.l1 rfl (by omega)) ?_
  rintro d os' ⟨rfl, rfl⟩
  (refine goA ?_)
  refine Opt.of hg ?_
  (refine goA ?_)
  rw [he]
  refine Opt.of hg2 ?_
  (refine goA ?_)
  exact Ret.mk [.tmp 4] rfl ⟨rfl, rfl⟩
theorem lock67 {nm nw ns : Nat} {S : Lk} (h : LkL nm nw ns S) (m : Nat) (hm : m < nm) (t : Int) (r : Objs) : Spec Try.prog 67 [lkP, .int .i64 m, .int .i64 t] (lkO nm nw ns S r) (fun d os' => d = .bool (lockS S m t).2 ∧ os' = lkO nm nw ns (lockS S m t).1 r) := by
  have h1 := h.ow
  have h2 := h.lk
  have h1m : (S.ow.map (D.int .i64)).length = nm := by rw [List.length_map]; exact h1
  have h2m : (S.lk.map ints).length = nm := by rw [List.length_map]; exact h2
  have hg := rowI_at S.ow m (by omega)
  have he : (S.ow.map (D.int .i64)).set (0 + (m : Int).toNat) (D.int .i64 t) = (S.ow.set m t).map (D.int .i64) := by rw [show 0 + (m : Int).toNat = m by omega, List.map_set]
  unfold lockS
  by_cases hc : S.ow.getD m 0 = -1
  · rw [if_neg (by omega)]
    refine Spec.by Try.func67 rfl (by decide) (by decide +kernel) rfl ?_
    (refine goA ?_)
    refine Opt.of hg ?_
    (refine goA ?_)
    refine Opt.of hg ?_
    (refine goA ?_)
    refine Ret.mk [.tmp 6] rfl ⟨rfl, ?_⟩
    exact congrArg (fun x => one (.row 3 1 true x) :: rowI S.co :: rowC S.lk :: rowC S.wq :: rowC S.dq :: lkC nm nw ns :: r) he
  · rw [if_pos hc]
    refine Spec.by Try.func67 rfl (by decide) (by decide +kernel) rfl ?_
    (refine goA ?_)
    refine Opt.of hg ?_
    (refine goA ?_)
    refine Call.mk (pushK _ 2 S.lk m (by omega) h.l1 t rfl (by omega)) ?_
    rintro d os' ⟨rfl, rfl⟩
    (refine goA ?_)
    exact Ret.mk [.tmp 6] rfl ⟨rfl, rfl⟩
theorem unlock68 {nm nw ns : Nat} {S : Lk} (h : LkL nm nw ns S) (m : Nat) (hm : m < nm) (t : Int) (r : Objs) : Spec Try.prog 68 [lkP, .int .i64 m, .int .i64 t] (lkO nm nw ns S r) (fun d os' => d = .tup [.int .i64 (unlockS S m t).2.1, .int .i64 (unlockS S m t).2.2] ∧ os' = lkO nm nw ns (unlockS S m t).1 r) := by
  have h1 := h.ow
  have h1m : (S.ow.map (D.int .i64)).length = nm := by rw [List.length_map]; exact h1
  have hg := rowI_at S.ow m (by omega)
  unfold unlockS
  by_cases hc : S.ow.getD m 0 = t
  · rw [if_neg (by omega)]
    refine Spec.by Try.func68 rfl (by decide) (by decide +kernel) rfl ?_
    (refine goA ?_)
    refine Opt.of hg ?_
    (refine goA ?_)
    refine Call.mk (hand150 h m hm r) ?_
    rintro d os' ⟨rfl, rfl⟩
    (refine goA ?_)
    exact Ret.mk [.tmp _, .tmp _] rfl ⟨rfl, rfl⟩
  · rw [if_pos hc]
    refine Spec.by Try.func68 rfl (by decide) (by decide +kernel) rfl ?_
    (refine goA ?_)
    refine Opt.of hg ?_
    (refine goA ?_)
    exact Ret.mk [.tmp _, .tmp _] rfl ⟨rfl, rfl⟩
end Go.Proofs.Ytaplihoeephbeaa.V
end
section
namespace Go.Proofs.Ytaplihoeephbeaa.V
open Go Go.Proofs
set_option maxRecDepth 100000
set_option maxHeartbeats 40000000
theorem sumL_set : ∀ (l : List (List Int)) (e : Nat) (x : List Int), e < l.length → sumL (l.set e x) + (qAt l e).length = sumL l + x.length
  | [], e, x, h => by simp at h
  | y :: l, 0, x, _ => by simp [sumL, qAt]; omega
  | y :: l, e + 1, x, h => by
    have := sumL_set l e x (by simpa using h)
    simp [sumL, qAt] at this ⊢
    omega
theorem qAt_set (l : List (List Int)) (e : Nat) (x : List Int) (h : e < l.length) : qAt (l.set e x) e = x := by
  rw [qAt, List.getD_eq_getElem?_getD, List.getElem?_set_self h]; rfl
theorem set_qAt (l : List (List Int)) (e : Nat) (h : e < l.length) : l.set e (qAt l e) = l := by
  apply List.ext_getElem?
  intro j
  rw [List.getElem?_set]
  by_cases hj : e = j
  · subst hj; rw [if_pos rfl, if_pos h, qAt_get l e h]
  · rw [if_neg hj]
/-- The numbers are those of threads. -/
structure LkN (S : Lk) : Prop where
  ow : ∀ v ∈ S.ow, -1 ≤ v
  co : ∀ v ∈ S.co, 0 ≤ v ∧ v ≤ 1073741824
  lk : ∀ L ∈ S.lk, ∀ v ∈ L, 0 ≤ v
  wq : ∀ L ∈ S.wq, ∀ v ∈ L, 0 ≤ v
  dq : ∀ L ∈ S.dq, ∀ v ∈ L, 0 ≤ v
theorem mem_set2 {α : Type} {l : List α} {e : Nat} {x y : α} (h : y ∈ l.set e x) : y ∈ l ∨ y = x := List.mem_or_eq_of_mem_set h
theorem qAt_all {p : Int → Prop} {l : List (List Int)} (h : ∀ L ∈ l, ∀ v ∈ L, p v) (e : Nat) : ∀ v ∈ qAt l e, p v := by
  intro v hv
  unfold qAt at hv
  rw [List.getD_eq_getElem?_getD] at hv
  cases hg : l[e]? with
  | none => rw [hg] at hv; simp at hv
  | some L => rw [hg] at hv; exact h L (List.mem_of_getElem? hg) v hv
theorem set_all {p : Int → Prop} {l : List (List Int)} (h : ∀ L ∈ l, ∀ v ∈ L, p v) {e : Nat} {x : List Int} (hx : ∀ v ∈ x, p v) : ∀ L ∈ l.set e x, ∀ v ∈ L, p v := by
  intro L hL
  rcases mem_set2 hL with hL | rfl
  · exact h L hL
  · exact hx
theorem headQ_ge {L : List Int} (h : ∀ v ∈ L, 0 ≤ v) : -1 ≤ headQ L := by
  cases L with
  | nil => exact Int.le_refl _
  | cons a L => have := h a (by simp); show -1 ≤ a; omega
theorem hand_ok {nm nw ns : Nat} {S : Lk} (h : LkL nm nw ns S) (hn : LkN S) {m : Nat} (hm : m < nm) : LkL nm nw ns (handS S m) ∧ LkN (handS S m) := by
  have h2 := h.lk
  have := sumL_set S.lk m (qAt S.lk m).tail (by omega)
  have ht : (qAt S.lk m).tail.length ≤ (qAt S.lk m).length := by rw [List.length_tail]; omega
  refine ⟨⟨by simp [handS, h.ow], h.co, by simp [handS, h.lk], h.wq, h.dq, ?_⟩, ⟨fun v hv => ?_, hn.co, ?_, hn.wq, hn.dq⟩⟩
  · show sumL (S.lk.set m _) + sumL S.wq + sumL S.dq ≤ 1000
    have := h.tot; omega
  · rcases mem_set2 hv with hv | rfl
    · exact hn.ow v hv
    · exact headQ_ge (qAt_all hn.lk m)
  · exact set_all hn.lk (fun v hv => qAt_all hn.lk m v (List.mem_of_mem_tail hv))
theorem lock_tot {nm nw ns : Nat} {S : Lk} (h : LkL nm nw ns S) (m : Nat) (hm : m < nm) (t : Int) : sumL (lockS S m t).1.lk ≤ sumL S.lk + 1 ∧ (lockS S m t).1.wq = S.wq ∧ (lockS S m t).1.dq = S.dq ∧ (lockS S m t).1.co = S.co := by
  unfold lockS
  split
  · have := sumL_set S.lk m (qAt S.lk m ++ [t]) (by have := h.lk; omega)
    rw [List.length_append, List.length_singleton] at this
    exact ⟨by show sumL (S.lk.set m _) ≤ _; omega, rfl, rfl, rfl⟩
  · exact ⟨by show sumL S.lk ≤ _; omega, rfl, rfl, rfl⟩
theorem lock_len {nm nw ns : Nat} {S : Lk} (h : LkL nm nw ns S) (m : Nat) (t : Int) : (lockS S m t).1.ow.length = nm ∧ (lockS S m t).1.lk.length = nm := by
  unfold lockS
  split <;> simp [h.ow, h.lk]
theorem lock_ok {nm nw ns : Nat} {S : Lk} (h : LkL nm nw ns S) (hn : LkN S) {m : Nat} (hm : m < nm) {t : Int} (ht : 0 ≤ t) (h1 : sumL S.lk + sumL S.wq + sumL S.dq ≤ 999) : LkL nm nw ns (lockS S m t).1 ∧ LkN (lockS S m t).1 := by
  obtain ⟨g1, g2, g3, g4⟩ := lock_tot h m hm t
  obtain ⟨k1, k2⟩ := lock_len h m t
  refine ⟨⟨k1, by rw [g4]; exact h.co, k2, by rw [g2]; exact h.wq, by rw [g3]; exact h.dq, by rw [g2, g3]; omega⟩, ⟨?_, by rw [g4]; exact hn.co, ?_, by rw [g2]; exact hn.wq, by rw [g3]; exact hn.dq⟩⟩
  · unfold lockS
    split
    · exact hn.ow
    · intro v hv
      rcases mem_set2 hv with hv | rfl
      · exact hn.ow v hv
      · omega
  · unfold lockS
    split
    · exact set_all hn.lk (fun v hv => by
        rcases List.mem_append.1 hv with hv | hv
        · exact qAt_all hn.lk m v hv
        · simp at hv; omega)
    · exact hn.lk
def signalS (S : Lk) (c m : Nat) : Lk × Int × Bool := match qAt S.wq c with
  | [] => (S, -1, false)
  | t :: q => ((lockS { S with wq := S.wq.set c q } m t).1, t, (lockS { S with wq := S.wq.set c q } m t).2)
theorem sigq_ok {nm nw ns : Nat} {S : Lk} (h : LkL nm nw ns S) (hn : LkN S) {c : Nat} (hc : c < nw) {t : Int} {q : List Int} (hq : qAt S.wq c = t :: q) : LkL nm nw ns { S with wq := S.wq.set c q } ∧ LkN { S with wq := S.wq.set c q } ∧ 0 ≤ t ∧ sumL S.lk + sumL (S.wq.set c q) + sumL S.dq + 1 ≤ 1000 := by
  have := sumL_set S.wq c q (by have := h.wq; omega)
  rw [hq, List.length_cons] at this
  have hall := qAt_all hn.wq c
  rw [hq] at hall
  have ht := h.tot
  exact ⟨⟨h.ow, h.co, h.lk, by simp [h.wq], h.dq, by show sumL S.lk + sumL (S.wq.set c q) + sumL S.dq ≤ 1000; omega⟩, ⟨hn.ow, hn.co, hn.lk, set_all hn.wq (fun v hv => hall v (by simp [hv])), hn.dq⟩, hall t (by simp), by omega⟩
theorem signal_ok {nm nw ns : Nat} {S : Lk} (h : LkL nm nw ns S) (hn : LkN S) {c m : Nat} (hc : c < nw) (hm : m < nm) : LkL nm nw ns (signalS S c m).1 ∧ LkN (signalS S c m).1 := by
  unfold signalS
  split
  · exact ⟨h, hn⟩
  · rename_i t q hq
    obtain ⟨g1, g2, g3, g4⟩ := sigq_ok h hn hc hq
    exact lock_ok g1 g2 hm g3 (by show sumL S.lk + sumL (S.wq.set c q) + sumL S.dq ≤ 999; omega)
theorem signal90 {nm nw ns : Nat} {S : Lk} (h : LkL nm nw ns S) (hn : LkN S) (c m : Nat) (hc : c < nw) (hm : m < nm) (r : Objs) : Spec Try.prog 90 [lkP, .int .i64 c, .int .i64 m] (lkO nm nw ns S r) (fun d os' => d = .tup [.int .i64 (signalS S c m).2.1, .bool (signalS S c m).2.2] ∧ os' = lkO nm nw ns (signalS S c m).1 r) := by
  have h1 := h.wq
  have h1m : (S.wq.map ints).length = nw := by rw [List.length_map]; exact h1
  have hg := rowC_at S.wq c (by omega)
  cases hq : qAt S.wq c with
  | nil =>
    have e : signalS S c m = (S, -1, false) := by unfold signalS; rw [hq]
    rw [e]
    refine Spec.by Try.func90 rfl (by decide) (by decide +kernel) rfl ?_
    (refine goA ?_)
    refine Call.mk (popK _ 3 S.wq c (by omega) h.l2 rfl (by omega)) ?_
    rintro d os' ⟨rfl, rfl⟩
    rw [hq]
    (refine goA ?_)
    refine Ret.mk [.tmp _, .tmp _] rfl ⟨rfl, ?_⟩
    have e2 : S.wq.set c ([] : List Int).tail = S.wq := by have := set_qAt S.wq c (by omega); rw [hq] at this; exact this
    exact congrArg (fun x => rowI S.ow :: rowI S.co :: rowC S.lk :: rowC x :: rowC S.dq :: lkC nm nw ns :: r) e2
  | cons t q =>
    obtain ⟨g1, g2, g3, g4⟩ := sigq_ok h hn hc hq
    have e : signalS S c m = ((lockS { S with wq := S.wq.set c q } m t).1, t, (lockS { S with wq := S.wq.set c q } m t).2) := by unfold signalS; rw [hq]
    rw [e]
    refine Spec.by Try.func90 rfl (by decide) (by decide +kernel) rfl ?_
    (refine goA ?_)
    refine Call.mk (popK _ 3 S.wq c (by omega) h.l2 rfl (by omega)) ?_
    rintro d os' ⟨rfl, rfl⟩
    rw [hq]
    have ht : ¬ (headQ (t :: q) = -1) := by show ¬ (t = -1); omega
    (refine goA ?_)
    refine Call.mk (lock67 g1 m hm t r) ?_
    rintro d os' ⟨rfl, rfl⟩
    (refine goA ?_)
    exact Ret.mk [.tmp _, .tmp _] rfl ⟨rfl, rfl⟩
end Go.Proofs.Ytaplihoeephbeaa.V
end
section
namespace Go.Proofs.Ytaplihoeephbeaa.V
open Go Go.Proofs
set_option maxRecDepth 100000
set_option maxHeartbeats 40000000
def downS (S : Lk) (s : Nat) (t : Int) : Lk × Bool := if S.co.getD s 0 = 0 then ({ S with dq := S.dq.set s (qAt S.dq s ++ [t]) }, false) else ({ S with co := S.co.set s (S.co.getD s 0 - 1) }, true)
def upS (S : Lk) (s : Nat) : Lk × Int := match qAt S.dq s with
  | [] => (if S.co.getD s 0 < 1073741824 then { S with co := S.co.set s (S.co.getD s 0 + 1) } else S, -1)
  | t :: q => ({ S with dq := S.dq.set s q }, t)
def waitS (S : Lk) (c m : Nat) (t : Int) : Lk × Int × Int := if S.ow.getD m 0 ≠ t then (S, -1, 10) else ({ handS S m with wq := S.wq.set c (qAt S.wq c ++ [t]) }, headQ (qAt S.lk m), 0)
theorem getD_mem {l : List Int} {e : Nat} (h : e < l.length) : l.getD e 0 ∈ l := by
  rw [List.getD_eq_getElem?_getD, List.getElem?_eq_getElem h]; exact List.getElem_mem h
theorem down71 {nm nw ns : Nat} {S : Lk} (h : LkL nm nw ns S) (hn : LkN S) (s : Nat) (hs : s < ns) (t : Int) (r : Objs) : Spec Try.prog 71 [lkP, .int .i64 s, .int .i64 t] (lkO nm nw ns S r) (fun d os' => d = .bool (downS S s t).2 ∧ os' = lkO nm nw ns (downS S s t).1 r) := by
  have h1 := h.co
  have h2 := h.dq
  have h1m : (S.co.map (D.int .i64)).length = ns := by rw [List.length_map]; exact h1
  have h2m : (S.dq.map ints).length = ns := by rw [List.length_map]; exact h2
  have hg := rowI_at S.co s (by omega)
  have hv := hn.co _ (getD_mem (l := S.co) (e := s) (by omega))
  have he : (S.co.map (D.int .i64)).set (0 + (s : Int).toNat) (D.int .i64 (S.co.getD s 0 - 1)) = (S.co.set s (S.co.getD s 0 - 1)).map (D.int .i64) := by rw [show 0 + (s : Int).toNat = s by omega, List.map_set]
  unfold downS
  by_cases hc : S.co.getD s 0 = 0
  · rw [if_pos hc]
    refine Spec.by Try.func71 rfl (by decide) (by decide +kernel) rfl ?_
    (refine goA ?_)
    refine Opt.of hg ?_
    (refine goA ?_)
    refine Call.mk (pushK _ 4 S.dq s (by omega) h.l3 t rfl (by omega)) ?_
    rintro d os' ⟨rfl, rfl⟩
    (refine goA ?_)
    exact Ret.mk [.tmp 6] rfl ⟨rfl, rfl⟩
  · rw [if_neg hc]
    refine Spec.by Try.func71 rfl (by decide) (by decide +kernel) rfl ?_
    (refine goA ?_)
    refine Opt.of hg ?_
    (refine goA ?_)
    refine Opt.of hg ?_
    (refine goA ?_)
    refine Opt.of hg ?_
    (refine goA ?_)
    refine Ret.mk [.tmp 6] rfl ⟨rfl, ?_⟩
    exact congrArg (fun x => rowI S.ow :: one (.row 3 1 true x) :: rowC S.lk :: rowC S.wq :: rowC S.dq :: lkC nm nw ns :: r) he
theorem up72 {nm nw ns : Nat} {S : Lk} (h : LkL nm nw ns S) (hn : LkN S) (s : Nat) (hs : s < ns) (r : Objs) : Spec Try.prog 72 [lkP, .int .i64 s] (lkO nm nw ns S r) (fun d os' => d = .int .i64 (upS S s).2 ∧ os' = lkO nm nw ns (upS S s).1 r) := by
  have h1 := h.co
  have h2 := h.dq
  have h1m : (S.co.map (D.int .i64)).length = ns := by rw [List.length_map]; exact h1
  have h2m : (S.dq.map ints).length = ns := by rw [List.length_map]; exact h2
  have hg := rowI_at S.co s (by omega)
  have hv := hn.co _ (getD_mem (l := S.co) (e := s) (by omega))
  have he : (S.co.map (D.int .i64)).set (0 + (s : Int).toNat) (D.int .i64 (S.co.getD s 0 + 1)) = (S.co.set s (S.co.getD s 0 + 1)).map (D.int .i64) := by rw [show 0 + (s : Int).toNat = s by omega, List.map_set]
  have hall := qAt_all hn.dq s
  unfold upS
  cases hq : qAt S.dq s with
  | nil =>
    have e2 : S.dq.set s ([] : List Int).tail = S.dq := by have := set_qAt S.dq s (by omega); rw [hq] at this; exact this
    dsimp only
    by_cases hc : S.co.getD s 0 < 1073741824
    · rw [if_pos hc]
      refine Spec.by Try.func72 rfl (by decide) (by decide +kernel) rfl ?_
      (refine goA ?_)
      refine Call.mk (popK _ 4 S.dq s (by omega) h.l3 rfl (by omega)) ?_
      rintro d os' ⟨rfl, rfl⟩
      rw [hq, e2]
      have hh : headQ [] = -1 := rfl
      rw [hh]
      (refine goA ?_)
      refine Opt.of hg ?_
      (refine goA ?_)
      refine Opt.of hg ?_
      (refine goA ?_)
      refine Opt.of hg ?_
      (refine goA ?_)
      refine Ret.mk [.tmp 4] rfl ⟨rfl, ?_⟩
      exact congrArg (fun x => rowI S.ow :: one (.row 3 1 true x) :: rowC S.lk :: rowC S.wq :: rowC S.dq :: lkC nm nw ns :: r) he
    · rw [if_neg hc]
      refine Spec.by Try.func72 rfl (by decide) (by decide +kernel) rfl ?_
      (refine goA ?_)
      refine Call.mk (popK _ 4 S.dq s (by omega) h.l3 rfl (by omega)) ?_
      rintro d os' ⟨rfl, rfl⟩
      rw [hq, e2]
      have hh : headQ [] = -1 := rfl
      rw [hh]
      (refine goA ?_)
      refine Opt.of hg ?_
      (refine goA ?_)
      exact Ret.mk [.tmp 4] rfl ⟨rfl, rfl⟩
  | cons t q =>
    rw [hq] at hall
    have ht0 := hall t (by simp)
    dsimp only
    refine Spec.by Try.func72 rfl (by decide) (by decide +kernel) rfl ?_
    (refine goA ?_)
    refine Call.mk (popK _ 4 S.dq s (by omega) h.l3 rfl (by omega)) ?_
    rintro d os' ⟨rfl, rfl⟩
    rw [hq]
    have ht : ¬ (headQ (t :: q) = -1) := by show ¬ (t = -1); omega
    (refine goA ?_)
    exact Ret.mk [.tmp 4] rfl ⟨rfl, rfl⟩
theorem wait89 {nm nw ns : Nat} {S : Lk} (h : LkL nm nw ns S) (c m : Nat) (hc : c < nw) (hm : m < nm) (t : Int) (r : Objs) : Spec Try.prog 89 [lkP, .int .i64 c, .int .i64 m, .int .i64 t] (lkO nm nw ns S r) (fun d os' => d = .tup [.int .i64 (waitS S c m t).2.1, .int .i64 (waitS S c m t).2.2] ∧ os' = lkO nm nw ns (waitS S c m t).1 r) := by
  have h1 := h.wq
  have h1m : (S.wq.map ints).length = nw := by rw [List.length_map]; exact h1
  unfold waitS
  by_cases hcc : S.ow.getD m 0 = t
  · have e : unlockS S m t = (handS S m, headQ (qAt S.lk m), 0) := by unfold unlockS; rw [if_neg (by omega)]
    rw [if_neg (by omega)]
    refine Spec.by Try.func89 rfl (by decide) (by decide +kernel) rfl ?_
    (refine goA ?_)
    refine Call.mk (unlock68 h m hm t r) ?_
    rw [e]
    rintro d os' ⟨rfl, rfl⟩
    (refine goA ?_)
    refine Call.mk (pushK _ 3 S.wq c (by omega) h.l2 t rfl (by omega)) ?_
    rintro d os' ⟨rfl, rfl⟩
    (refine goA ?_)
    exact Ret.mk [.tmp _, .tmp _] rfl ⟨rfl, rfl⟩
  · have e : unlockS S m t = (S, -1, 10) := by unfold unlockS; rw [if_pos hcc]
    rw [if_pos hcc]
    refine Spec.by Try.func89 rfl (by decide) (by decide +kernel) rfl ?_
    (refine goA ?_)
    refine Call.mk (unlock68 h m hm t r) ?_
    rw [e]
    rintro d os' ⟨rfl, rfl⟩
    (refine goA ?_)
    exact Ret.mk [.tmp _, .tmp _] rfl ⟨rfl, rfl⟩
/-- A contract over the locks' own objects, among others. -/
theorem lk_frame {f : FuncId} {args : List D} {nm nw ns : Nat} {S : Lk} {post : D → Lk → Prop} (h : Spec Try.prog f (lkP :: args) (lkO nm nw ns S []) (fun d os' => ∃ S', post d S' ∧ os' = lkO nm nw ns S' [])) (hargs : D.pureL args = true) (hp : ∀ d S', post d S' → d.pure = true) (r : Objs) :
    Spec Try.prog f (lkP :: args) (lkO nm nw ns S r) (fun d os' => ∃ S', post d S' ∧ os' = lkO nm nw ns S' r) := by
  have := h.frame (lkO nm nw ns S r) [(0, 0), (1, 0), (2, 0), (3, 0), (4, 0), (5, 0)] rfl (by decide) (fun k p hk => by
    match k, hk with
    | 0, hk => cases hk; exact ⟨by simp, rfl, rfl, fun j hj => one_pos _ hj⟩
    | 1, hk => cases hk; exact ⟨by simp, rfl, rfl, fun j hj => one_pos _ hj⟩
    | 2, hk => cases hk; exact ⟨by simp, rfl, rfl, fun j hj => one_pos _ hj⟩
    | 3, hk => cases hk; exact ⟨by simp, rfl, rfl, fun j hj => one_pos _ hj⟩
    | 4, hk => cases hk; exact ⟨by simp, rfl, rfl, fun j hj => one_pos _ hj⟩
    | 5, hk => cases hk; exact ⟨by simp, rfl, rfl, fun j hj => one_pos _ hj⟩
    | k + 6, hk => simp at hk) (by simp [D.sglL, D.sgl, sglL_pure _ _ hargs])
  have e1 : D.mapIdL (lead [(0, 0), (1, 0), (2, 0), (3, 0), (4, 0), (5, 0)] (lkO nm nw ns S r).length) (lkP :: args) = lkP :: args := by
    simp only [D.mapIdL, D.mapId, lead, mapIdL_pure _ _ hargs]
    rfl
  rw [e1] at this
  refine this.mono ?_
  rintro d os' ⟨d1, os1, ⟨S', hy, rfl⟩, rfl, rfl⟩
  refine ⟨S', by rw [mapId_pure _ _ (hp _ _ hy)]; exact hy, ?_⟩
  show lkO nm nw ns S' (r ++ []) = _
  rw [List.append_nil]
/-- All that wait are let go, one behind the other. -/
def bcast (c m : Nat) : Nat → Lk → List Int → Int → Lk × List Int × Int
  | 0, S, all, got => (S, all, got)
  | n + 1, S, all, got => match qAt S.wq c with
    | [] => (S, all, got)
    | t :: _ => bcast c m n (signalS S c m).1 (all ++ [t]) (if (signalS S c m).2.2 then t else got)
def broadS (S : Lk) (c m : Nat) : Lk × List Int × Int := bcast c m (qAt S.wq c).length S [] (-1)
theorem bcast_cons {c m n : Nat} {S : Lk} {all : List Int} {got t : Int} {q : List Int} (hq : qAt S.wq c = t :: q) : bcast c m (n + 1) S all got = bcast c m n (signalS S c m).1 (all ++ [t]) (if (signalS S c m).2.2 then t else got) := by
  show (match qAt S.wq c with
    | [] => (S, all, got)
    | t :: _ => bcast c m n (signalS S c m).1 (all ++ [t]) (if (signalS S c m).2.2 then t else got)) = _
  rw [hq]
theorem signal_wq {nm nw ns : Nat} {S : Lk} (h : LkL nm nw ns S) (hn : LkN S) {c m : Nat} (hc : c < nw) (hm : m < nm) {t : Int} {q : List Int} (hq : qAt S.wq c = t :: q) : qAt (signalS S c m).1.wq c = q ∧ (signalS S c m).2.1 = t := by
  obtain ⟨g1, g2, g3, g4⟩ := sigq_ok h hn hc hq
  have e : signalS S c m = ((lockS { S with wq := S.wq.set c q } m t).1, t, (lockS { S with wq := S.wq.set c q } m t).2) := by unfold signalS; rw [hq]
  rw [e]
  obtain ⟨_, k2, _⟩ := lock_tot g1 m hm t
  refine ⟨?_, rfl⟩
  show qAt (lockS { S with wq := S.wq.set c q } m t).1.wq c = q
  rw [k2]
  exact qAt_set S.wq c q (by have := h.wq; omega)
theorem broad91' {nm nw ns : Nat} {S : Lk} (h : LkL nm nw ns S) (hn : LkN S) (c m : Nat) (hc : c < nw) (hm : m < nm) : Spec Try.prog 91 [lkP, .int .i64 c, .int .i64 m] (lkO nm nw ns S []) (fun d os' => ∃ S', (d = .tup [ints (broadS S c m).2.1, .int .i64 (broadS S c m).2.2] ∧ S' = (broadS S c m).1) ∧ os' = lkO nm nw ns S' []) := by
  obtain ⟨R, hR⟩ : ∃ R, broadS S c m = R := ⟨_, rfl⟩
  rw [hR]
  refine Spec.by Try.func91 rfl (by decide) (by decide +kernel) rfl ?_
  (refine goR ?_)
  ((with_reducible refine Pt.go ?_); conv => whnf)
  (refine goR ?_)
  ((with_reducible refine Pt.go ?_); conv => whnf)
  (refine goR ?_)
  refine Pt.weak (Weak.trans (Weak.on [(8, .nils), (0, lkP), (1, .int .i64 c), (2, .int .i64 m)] (lkO nm nw ns S [])) (Weak.nilrow 8 rfl 3 1 true)) ?_
  (refine goA ?_)
  refine Loop.inv (A := Lk × List Int × Int) (List.range 29) (fun x => [(8, .sl 6 0 1 0 x.2.1.length none), (0, lkP), (1, .int .i64 c), (2, .int .i64 m), (9, .int .i64 x.2.2)]) (fun x => lkO nm nw ns x.1 [rowI x.2.1])
    (fun x => LkL nm nw ns x.1 ∧ LkN x.1 ∧ bcast c m (qAt x.1.wq c).length x.1 x.2.1 x.2.2 = R ∧ x.2.1.length + (qAt x.1.wq c).length ≤ 1000) (fun x => (qAt x.1.wq c).length) (S, [], -1) ⟨h, hn, hR, by have := h.l2 _ (qAt_mem (l := S.wq) (m := c) (by have := h.wq; omega)); show ([] : List Int).length + (qAt S.wq c).length ≤ 1000; rw [List.length_nil]; omega⟩ ?_ ?_
  · exact Weak.start' rfl rfl tld
  rintro ⟨S1, all, got⟩ ⟨hl1, hn1, hR1, hb1⟩
  dsimp only at hl1 hn1 hR1 hb1 ⊢
  have hallm : (all.map (D.int .i64)).length = all.length := List.length_map ..
  cases hq : qAt S1.wq c with
  | nil =>
    have e : signalS S1 c m = (S1, -1, false) := by unfold signalS; rw [hq]
    have hRe : R = (S1, all, got) := by rw [← hR1, hq]; rfl
    rw [hRe]
    (refine goA ?_)
    refine Call.mk (signal90 hl1 hn1 c m hc hm [rowI all]) ?_
    rw [e]
    rintro d os' ⟨rfl, rfl⟩
    (refine goA ?_)
    refine Ret.frz (fun i => Nat.beq i 6) [(6, ints all)] ⟨View.slAll rfl rfl hallm (by simp) (ViewL.same _) (pureL_map (fun _ => rfl) _), trivial⟩ ?_
    refine Ret.trim 6 (by simp) rfl (Nat.le_of_ble_eq_true rfl) ?_
    exact Ret.mk [.tmp 6, .tmp 7] rfl ⟨S1, ⟨rfl, rfl⟩, rfl⟩
  | cons t q =>
    obtain ⟨g1, g2⟩ := signal_ok hl1 hn1 hc hm
    obtain ⟨g3, g4⟩ := signal_wq hl1 hn1 hc hm hq
    obtain ⟨_, _, ht0, _⟩ := sigq_ok hl1 hn1 hc hq
    have hRe : bcast c m q.length (signalS S1 c m).1 (all ++ [t]) (if (signalS S1 c m).2.2 then t else got) = R := by rw [← bcast_cons hq, ← hR1, hq]; rfl
    rw [hq, List.length_cons] at hb1
    obtain ⟨S2, hS2⟩ : ∃ S2, (signalS S1 c m).1 = S2 := ⟨_, rfl⟩
    obtain ⟨b, hb⟩ : ∃ b, (signalS S1 c m).2.2 = b := ⟨_, rfl⟩
    rw [hS2] at g1 g2 g3 hRe
    rw [hb] at hRe
    cases b with
    | false =>
      (refine goA ?_)
      refine Call.mk (signal90 hl1 hn1 c m hc hm [rowI all]) ?_
      rw [hS2, g4, hb]
      rintro d os' ⟨rfl, rfl⟩
      (refine goA ?_)
      refine App.only false rfl rfl ?_
      (refine goA ?_)
      refine ⟨_, _, _, ?_, ⟨(S2, all ++ [t], got), ?_, rfl, rfl, rfl⟩, ?_⟩
      · show (qAt S2.wq c).length < _; rw [g3, List.length_cons]; omega
      · exact ⟨g1, g2, by show bcast c m (qAt S2.wq c).length S2 (all ++ [t]) got = R; rw [g3]; exact hRe, by show (all ++ [t]).length + (qAt S2.wq c).length ≤ 1000; rw [g3, List.length_append, List.length_singleton]; omega⟩
      · refine Weak.trans (Weak.on [(8, .sl 7 0 1 0 (all.length + 1) none), (0, lkP), (1, .int .i64 c), (2, .int .i64 m), (9, .int .i64 got)] (lkO nm nw ns S2 [one .gone, one (.row 3 1 true (all.map (D.int .i64) ++ [D.int .i64 t]))])) ?_
        rw [map_snoc, show all.length + 1 = (all ++ [t]).length by rw [List.length_append, List.length_singleton]]
        refine Weak.trans (Weak.shift 7 6 (by decide) (by simp) (Nat.le_of_ble_eq_true rfl) (Nat.le_of_ble_eq_true rfl) (fun j => by cases j <;> rfl) rfl) ?_
        refine Weak.backT 7 (by simp) (by first | rfl | kernel_rfl) (by kernel_rfl) (Nat.le_of_ble_eq_true rfl) tld (by kernel_rfl) (by kernel_rfl)
    | true =>
      (refine goA ?_)
      refine Call.mk (signal90 hl1 hn1 c m hc hm [rowI all]) ?_
      rw [hS2, g4, hb]
      rintro d os' ⟨rfl, rfl⟩
      (refine goA ?_)
      refine App.only false rfl rfl ?_
      (refine goA ?_)
      refine ⟨_, _, _, ?_, ⟨(S2, all ++ [t], t), ?_, rfl, rfl, rfl⟩, ?_⟩
      · show (qAt S2.wq c).length < _; rw [g3, List.length_cons]; omega
      · exact ⟨g1, g2, by show bcast c m (qAt S2.wq c).length S2 (all ++ [t]) t = R; rw [g3]; exact hRe, by show (all ++ [t]).length + (qAt S2.wq c).length ≤ 1000; rw [g3, List.length_append, List.length_singleton]; omega⟩
      · refine Weak.trans (Weak.on [(8, .sl 7 0 1 0 (all.length + 1) none), (0, lkP), (1, .int .i64 c), (2, .int .i64 m), (9, .int .i64 t)] (lkO nm nw ns S2 [one .gone, one (.row 3 1 true (all.map (D.int .i64) ++ [D.int .i64 t]))])) ?_
        rw [map_snoc, show all.length + 1 = (all ++ [t]).length by rw [List.length_append, List.length_singleton]]
        refine Weak.trans (Weak.shift 7 6 (by decide) (by simp) (Nat.le_of_ble_eq_true rfl) (Nat.le_of_ble_eq_true rfl) (fun j => by cases j <;> rfl) rfl) ?_
        refine Weak.backT 7 (by simp) (by first | rfl | kernel_rfl) (by kernel_rfl) (Nat.le_of_ble_eq_true rfl) tld (by kernel_rfl) (by kernel_rfl)
theorem broad91 {nm nw ns : Nat} {S : Lk} (h : LkL nm nw ns S) (hn : LkN S) (c m : Nat) (hc : c < nw) (hm : m < nm) (r : Objs) : Spec Try.prog 91 [lkP, .int .i64 c, .int .i64 m] (lkO nm nw ns S r) (fun d os' => d = .tup [ints (broadS S c m).2.1, .int .i64 (broadS S c m).2.2] ∧ os' = lkO nm nw ns (broadS S c m).1 r) := by
  refine (lk_frame (broad91' h hn c m hc hm) rfl (by rintro d S' ⟨rfl, _⟩; rfl) r).mono ?_
  rintro d os' ⟨S', ⟨rfl, rfl⟩, rfl⟩
  exact ⟨rfl, rfl⟩
end Go.Proofs.Ytaplihoeephbeaa.V
end
section
namespace Go.Proofs.Ytaplihoeephbeaa.V
open Go Go.Proofs
set_option maxRecDepth 100000
set_option maxHeartbeats 40000000
theorem clone130w (xs : List Int) (hl : xs.length * 8 ≤ 140737488351232) : Spec Try.prog 130 [ints xs] [] (fun d os' => d = .sl 0 0 1 0 xs.length none ∧ os' = [rowI xs]) := by
  by_cases hx : xs = []
  · subst hx
    refine Spec.by Try.func130 rfl (by decide) (by decide +kernel) rfl ?_
    (refine goA ?_)
    refine fun _ => And.intro ?_ ?_
    · (refine goA ?_)
      refine Ret.weak (Weak.nilrow 2 rfl 3 1 true) ?_
      exact Ret.mk [.tmp _] rfl (And.intro rfl rfl)
    · (refine goA ?_)
      refine App.own ?_
      (refine goA ?_)
      refine Ret.weak (Weak.shift 1 0 (by decide) (by simp) (Nat.le_of_ble_eq_true rfl) (Nat.le_of_ble_eq_true rfl) (fun j => by cases j <;> rfl) rfl) ?_
      refine Ret.trim 1 (by simp) rfl (Nat.le_of_ble_eq_true rfl) ?_
      exact Ret.mk [.tmp _] rfl (And.intro rfl rfl)
  · exact clone130p xs hl hx
theorem fn151 (l : List Int) : Spec Try.prog 151 [ints l] [] (fun d os' => d = .bool (decide (0 < l.length)) ∧ os' = []) := by
  have hlm : (l.map (D.int .i64)).length = l.length := List.length_map ..
  refine Spec.by Try.func151 rfl (by decide) (by decide +kernel) rfl ?_
  (refine goA ?_)
  refine Ret.mk [.tmp 2] rfl ⟨?_, rfl⟩
  show D.bool (decide ((0 : Int) < ((l.map (D.int .i64)).length : Int))) = _
  rw [hlm]
  exact congrArg D.bool (decide_eq_decide.2 (by omega))
theorem fn153 (v : Int) : Spec Try.prog 153 [.int .i64 v] [] (fun d os' => d = .bool (!decide (v = -1)) ∧ os' = []) := by
  refine Spec.by Try.func153 rfl (by decide) (by decide +kernel) rfl ?_
  (refine goA ?_)
  exact Ret.mk [.tmp 2] rfl ⟨rfl, rfl⟩
theorem idx194 (xs : List (List Int)) (g : Nat) (q : List Int → Bool) (hl : xs.length ≤ 9223372036854775806) (hq : ∀ x ∈ xs, Spec Try.prog g [ints x] [] (fun d os' => d = .bool (q x) ∧ os' = [])) :
    Spec Try.prog 194 [.lst 1 false (xs.map ints), .fn (.func g) [] []] [] (fun d os' => d = idxD (xs.findIdx? q) ∧ os' = []) := by
  refine Spec.by Try.func194 rfl (by decide) (by decide +kernel) rfl ?_
  (refine goA ?_)
  refine Loop.inv (A := Nat) [] (fun i => [(8, .int .i64 (i : Int))]) (fun _ => []) (fun i => i ≤ xs.length ∧ ∀ x ∈ xs.take i, q x = false) (fun i => xs.length - i) 0 ⟨Nat.zero_le _, by simp⟩ (Weak.start tld) ?_
  intro i ⟨hi, hf⟩
  (refine goA ?_)
  refine Br.dec (fun h => ?_) (fun h => ?_)
  · simp only [List.length_map] at h
    (refine goA ?_)
    refine Opt.of (get_map (List.getElem?_eq_getElem (l := xs) (i := i) (by omega))) ?_
    (refine goA ?_)
    refine Call.mk (hq _ (List.getElem_mem (by omega))) ?_
    rintro d os' ⟨rfl, rfl⟩
    (refine goA ?_)
    refine Br.cs (fun hb => ?_) (fun hb => ?_)
    · (refine goA ?_)
      refine Ret.mk [.tmp _] rfl ?_; refine And.intro ?_ rfl
      rw [find_at (by omega) hb hf]
    · (refine goA ?_)
      refine Loop.next (i + 1) ?_ ?_ (Weak.back rfl tld rfl rfl)
      · exact ⟨by omega, take_more (by omega) hb hf⟩
      · omega
  · (refine goA ?_)
    refine Ret.mk [.tmp _] rfl ?_; refine And.intro ?_ rfl
    rw [find_none (by simpa using h) hf]
theorem con154 (xs : List (List Int)) (g : Nat) (q : List Int → Bool) (hl : xs.length ≤ 9223372036854775806) (hq : ∀ x ∈ xs, Spec Try.prog g [ints x] [] (fun d os' => d = .bool (q x) ∧ os' = [])) :
    Spec Try.prog 154 [.lst 1 false (xs.map ints), .fn (.func g) [] []] [] (fun d os' => d = .bool (xs.any q) ∧ os' = []) := by
  refine Spec.by Try.func154 rfl (by decide) (by decide +kernel) rfl ?_
  (refine goA ?_)
  refine Call.mk (idx194 xs g q hl hq) ?_
  rintro d os' ⟨rfl, rfl⟩
  (refine goA ?_)
  refine Ret.mk [.tmp _] rfl ?_; refine And.intro ?_ rfl
  cases h : xs.findIdx? q with
  | none =>
    rw [List.findIdx?_eq_none_iff] at h
    have : xs.any q = false := by simpa using h
    rw [this]; rfl
  | some i =>
    rw [List.findIdx?_eq_some_iff_getElem] at h
    obtain ⟨hi, hb, _⟩ := h
    have : xs.any q = true := List.any_eq_true.2 ⟨_, List.getElem_mem hi, hb⟩
    rw [this]; simp
theorem grow195 (n : Nat) (hn : n ≤ 100000) : Spec Try.prog 195 [.nils, .int .i64 n] [] (fun d os' => d = .sl 0 0 1 0 0 none ∧ os' = [one (.row 23 1 true (List.replicate n .nils))]) := by
  by_cases h0 : n = 0
  · subst h0
    refine Spec.by Try.func195 rfl (by decide) (by decide +kernel) rfl ?_
    (refine goA ?_)
    refine Ret.weak (Weak.nilrow 4 rfl 23 1 true) ?_
    exact Ret.mk [.tmp 4] rfl ⟨rfl, rfl⟩
  · refine Spec.by Try.func195 rfl (by decide) (by decide +kernel) rfl ?_
    (refine goA ?_)
    intro _
    refine App.own ?_
    (refine goA ?_)
    refine Ret.mk [.tmp 4] rfl ⟨rfl, ?_⟩
    exact congrArg (fun x => ([one (.row 23 1 true (List.replicate x D.nils))] : Objs)) (by omega : ((n : Int) - (0 - 0)).toNat = n)
end Go.Proofs.Ytaplihoeephbeaa.V
end
section
namespace Go.Proofs.Ytaplihoeephbeaa.V
open Go Go.Proofs
set_option maxRecDepth 100000
set_option maxHeartbeats 40000000
@[reducible] def rowN (n : Nat) (X : List (List Int)) : Fam := one (.row 23 1 true (X.map ints ++ List.replicate (n - X.length) .nils))
theorem rowN_splice (n : Nat) (X L : List (List Int)) (h : X.length + L.length ≤ n) : splice (X.map ints ++ List.replicate (n - X.length) .nils) X.length (L.map ints) = (X ++ L).map ints ++ List.replicate (n - (X ++ L).length) .nils := by
  have e1 : (X.map ints ++ List.replicate (n - X.length) D.nils).take X.length = X.map ints := List.take_left' (by simp)
  have e2 : (X.map ints ++ List.replicate (n - X.length) D.nils).drop (X.length + (L.map ints).length) = List.replicate (n - (X ++ L).length) D.nils := by
    rw [List.drop_append, List.drop_eq_nil_of_le (by simp)]
    simp
    omega
  rw [splice, e1, e2, List.map_append, List.append_assoc]
@[reducible] def cat3 (A B C : List (List Int)) (r : Objs) : Objs := rowC A :: rowC B :: rowC C :: one (.row 24 1 false [.sl 0 0 1 0 A.length none, .sl 1 0 1 0 B.length none, .sl 2 0 1 0 C.length none]) :: r
theorem concat155 (A B C : List (List Int)) (hA : A.length ≤ 1000) (hB : B.length ≤ 1000) (hC : C.length ≤ 1000) : Spec Try.prog 155 [.sl 3 0 1 0 3 none] (cat3 A B C []) (fun d os' => d = .lst 1 false ((A ++ B ++ C).map ints) ∧ os' = cat3 A B C []) := by
  have lA : (A.map ints).length = A.length := List.length_map ..
  have lB : (B.map ints).length = B.length := List.length_map ..
  have lC : (C.map ints).length = C.length := List.length_map ..
  have nA : ((A.map ints).drop 0).take A.length = A.map ints := by rw [List.drop_zero, List.take_of_length_le (by omega)]
  have nB : ((B.map ints).drop 0).take B.length = B.map ints := by rw [List.drop_zero, List.take_of_length_le (by omega)]
  have nC : ((C.map ints).drop 0).take C.length = C.map ints := by rw [List.drop_zero, List.take_of_length_le (by omega)]
  refine Spec.by Try.func155 rfl (by decide) (by decide +kernel) rfl ?_
  (refine goA ?_)
  have step1 : ∀ i : Nat, i ≤ 3 → i = 0 ∨ i = 1 ∨ i = 2 ∨ i = 3 := by omega
  refine Loop.inv (A := Nat × Nat) (List.range 36) (fun x => [(0, .sl 3 0 1 0 3 none), (9, .sl 3 0 1 0 3 none), (10, .int .i64 3), (11, .int .i64 (x.1 : Int)), (3, .int .i64 (x.2 : Int))]) (fun _ => cat3 A B C []) (fun x => (x.1 = 0 ∧ x.2 = 0) ∨ (x.1 = 1 ∧ x.2 = A.length) ∨ (x.1 = 2 ∧ x.2 = A.length + B.length) ∨ (x.1 = 3 ∧ x.2 = A.length + B.length + C.length)) (fun x => 3 - x.1) (0, 0) (.inl ⟨rfl, rfl⟩) ?_ ?_
  · exact Weak.start' rfl rfl tld
  rintro ⟨i, sm⟩ h
  dsimp only at h ⊢
  rcases h with ⟨rfl, rfl⟩ | ⟨rfl, rfl⟩ | ⟨rfl, rfl⟩ | ⟨rfl, rfl⟩
  · (refine goA ?_)
    refine ⟨_, _, _, ?_, ⟨(1, A.length), ?_, rfl, rfl, rfl⟩, ?_⟩
    · show 3 - 1 < 3 - 0; decide
    · exact .inr (.inl ⟨rfl, rfl⟩)
    · refine Weak.trans (Weak.on [(0, .sl 3 0 1 0 3 none), (9, .sl 3 0 1 0 3 none), (10, .int .i64 3), (11, .int .i64 1), (3, .int .i64 ((A.length : Nat) : Int))] (cat3 A B C [])) ?_
      refine Weak.backT 4 (by simp) (by first | rfl | kernel_rfl) (by kernel_rfl) (Nat.le_of_ble_eq_true rfl) tld (by kernel_rfl) (by kernel_rfl)
  · (refine goA ?_)
    refine ⟨_, _, _, ?_, ⟨(2, A.length + B.length), ?_, rfl, rfl, rfl⟩, ?_⟩
    · show 3 - 2 < 3 - 1; decide
    · exact .inr (.inr (.inl ⟨rfl, rfl⟩))
    · refine Weak.trans (Weak.on [(0, .sl 3 0 1 0 3 none), (9, .sl 3 0 1 0 3 none), (10, .int .i64 3), (11, .int .i64 2), (3, .int .i64 ((A.length + B.length : Nat) : Int))] (cat3 A B C [])) ?_
      refine Weak.backT 4 (by simp) (by first | rfl | kernel_rfl) (by kernel_rfl) (Nat.le_of_ble_eq_true rfl) tld (by kernel_rfl) (by kernel_rfl)
  · (refine goA ?_)
    refine ⟨_, _, _, ?_, ⟨(3, A.length + B.length + C.length), ?_, rfl, rfl, rfl⟩, ?_⟩
    · show 3 - 3 < 3 - 2; decide
    · exact .inr (.inr (.inr ⟨rfl, rfl⟩))
    · refine Weak.trans (Weak.on [(0, .sl 3 0 1 0 3 none), (9, .sl 3 0 1 0 3 none), (10, .int .i64 3), (11, .int .i64 3), (3, .int .i64 ((A.length + B.length + C.length : Nat) : Int))] (cat3 A B C [])) ?_
      refine Weak.backT 4 (by simp) (by first | rfl | kernel_rfl) (by kernel_rfl) (Nat.le_of_ble_eq_true rfl) tld (by kernel_rfl) (by kernel_rfl)
  · (refine goA ?_)
    obtain ⟨n, hn⟩ : ∃ n, A.length + B.length + C.length = n := ⟨_, rfl⟩
    rw [hn]
    refine Call.mk ((grow195 n (by omega)).onto _ rfl) ?_
    rintro d os' ⟨_, _, ⟨rfl, rfl⟩, rfl, rfl⟩
    (refine goA ?_)
    refine Loop.inv (A := Nat × List (List Int)) (List.range 36) (fun x => [(25, .sl 3 0 1 0 3 none), (26, .int .i64 3), (27, .int .i64 (x.1 : Int)), (6, .sl 4 0 1 0 x.2.length none)]) (fun x => cat3 A B C [rowN n x.2]) (fun x => (x.1 = 0 ∧ x.2 = []) ∨ (x.1 = 1 ∧ x.2 = A) ∨ (x.1 = 2 ∧ x.2 = A ++ B) ∨ (x.1 = 3 ∧ x.2 = A ++ B ++ C)) (fun x => 3 - x.1) (0, []) (.inl ⟨rfl, rfl⟩) ?_ ?_
    · exact Weak.start' rfl rfl tld
    rintro ⟨i, X⟩ h
    dsimp only at h ⊢
    have hes : X.length ≤ n → (X.map ints ++ List.replicate (n - X.length) D.nils).length = n := fun h => by rw [List.length_append, List.length_map, List.length_replicate]; omega
    obtain ⟨xl, hxl⟩ : ∃ k, X.length = k := ⟨_, rfl⟩
    rcases h with ⟨hi, hX⟩ | ⟨hi, hX⟩ | ⟨hi, hX⟩ | ⟨hi, hX⟩ <;> subst hi
    · have hxt : X.length = 0 := by simp [hX]
      have hsp := rowN_splice n X A (by omega)
      have hes := hes (by omega)
      have hnx : X ++ A = A := by simp [hX]
      (refine goA ?_)
      refine Ap.within ⟨by rw [hes, nA, lA]; omega, fun _ => by rw [nA]; exact pureL_rows _, fun hz => ?_, fun hz => ?_⟩
      · rw [nA] at hz
        have hz' : A = [] := List.map_eq_nil_iff.1 hz
        have hXX : X ++ A = X := by rw [hz', List.append_nil]
        (refine goA ?_)
        refine ⟨_, _, _, ?_, ⟨(1, X), ?_, rfl, rfl, rfl⟩, ?_⟩
        · show 3 - 1 < 3 - 0; decide
        · exact .inr (.inl ⟨rfl, by show X = _; rw [← hXX]; exact hnx⟩)
        · refine Weak.backT 5 (by simp) (by first | rfl | kernel_rfl) (by kernel_rfl) (Nat.le_of_ble_eq_true rfl) tld (by kernel_rfl) (by kernel_rfl)
      · (refine goA ?_)
        refine ⟨_, _, _, ?_, ⟨(1, X ++ A), ?_, rfl, rfl, rfl⟩, ?_⟩
        · show 3 - 1 < 3 - 0; decide
        · exact .inr (.inl ⟨rfl, hnx⟩)
        · rw [nA]
          refine Weak.trans (Weak.on [(25, .sl 3 0 1 0 3 none), (26, .int .i64 3), (27, .int .i64 1), (6, .sl 4 0 1 0 (X.length + (A.map ints).length) none)] (cat3 A B C [one (.row 23 1 true (splice (X.map ints ++ List.replicate (n - X.length) D.nils) X.length (A.map ints)))])) ?_
          rw [hsp, lA, ← List.length_append]
          refine Weak.backT 5 (by simp) (by first | rfl | kernel_rfl) (by kernel_rfl) (Nat.le_of_ble_eq_true rfl) tld (by kernel_rfl) (by kernel_rfl)
    · have hxt : X.length = A.length := by simp [hX]
      have hsp := rowN_splice n X B (by omega)
      have hes := hes (by omega)
      have hnx : X ++ B = A ++ B := by simp [hX]
      (refine goA ?_)
      refine Ap.within ⟨by rw [hes, nB, lB]; omega, fun _ => by rw [nB]; exact pureL_rows _, fun hz => ?_, fun hz => ?_⟩
      · rw [nB] at hz
        have hz' : B = [] := List.map_eq_nil_iff.1 hz
        have hXX : X ++ B = X := by rw [hz', List.append_nil]
        (refine goA ?_)
        refine ⟨_, _, _, ?_, ⟨(2, X), ?_, rfl, rfl, rfl⟩, ?_⟩
        · show 3 - 2 < 3 - 1; decide
        · exact .inr (.inr (.inl ⟨rfl, by show X = _; rw [← hXX]; exact hnx⟩))
        · refine Weak.backT 5 (by simp) (by first | rfl | kernel_rfl) (by kernel_rfl) (Nat.le_of_ble_eq_true rfl) tld (by kernel_rfl) (by kernel_rfl)
      · (refine goA ?_)
        refine ⟨_, _, _, ?_, ⟨(2, X ++ B), ?_, rfl, rfl, rfl⟩, ?_⟩
        · show 3 - 2 < 3 - 1; decide
        · exact .inr (.inr (.inl ⟨rfl, hnx⟩))
        · rw [nB]
          refine Weak.trans (Weak.on [(25, .sl 3 0 1 0 3 none), (26, .int .i64 3), (27, .int .i64 2), (6, .sl 4 0 1 0 (X.length + (B.map ints).length) none)] (cat3 A B C [one (.row 23 1 true (splice (X.map ints ++ List.replicate (n - X.length) D.nils) X.length (B.map ints)))])) ?_
          rw [hsp, lB, ← List.length_append]
          refine Weak.backT 5 (by simp) (by first | rfl | kernel_rfl) (by kernel_rfl) (Nat.le_of_ble_eq_true rfl) tld (by kernel_rfl) (by kernel_rfl)
    · have hxt : X.length = A.length + B.length := by simp [hX]
      have hsp := rowN_splice n X C (by omega)
      have hes := hes (by omega)
      have hnx : X ++ C = A ++ B ++ C := by simp [hX]
      (refine goA ?_)
      refine Ap.within ⟨by rw [hes, nC, lC]; omega, fun _ => by rw [nC]; exact pureL_rows _, fun hz => ?_, fun hz => ?_⟩
      · rw [nC] at hz
        have hz' : C = [] := List.map_eq_nil_iff.1 hz
        have hXX : X ++ C = X := by rw [hz', List.append_nil]
        (refine goA ?_)
        refine ⟨_, _, _, ?_, ⟨(3, X), ?_, rfl, rfl, rfl⟩, ?_⟩
        · show 3 - 3 < 3 - 2; decide
        · exact .inr (.inr (.inr ⟨rfl, by show X = _; rw [← hXX]; exact hnx⟩))
        · refine Weak.backT 5 (by simp) (by first | rfl | kernel_rfl) (by kernel_rfl) (Nat.le_of_ble_eq_true rfl) tld (by kernel_rfl) (by kernel_rfl)
      · (refine goA ?_)
        refine ⟨_, _, _, ?_, ⟨(3, X ++ C), ?_, rfl, rfl, rfl⟩, ?_⟩
        · show 3 - 3 < 3 - 2; decide
        · exact .inr (.inr (.inr ⟨rfl, hnx⟩))
        · rw [nC]
          refine Weak.trans (Weak.on [(25, .sl 3 0 1 0 3 none), (26, .int .i64 3), (27, .int .i64 3), (6, .sl 4 0 1 0 (X.length + (C.map ints).length) none)] (cat3 A B C [one (.row 23 1 true (splice (X.map ints ++ List.replicate (n - X.length) D.nils) X.length (C.map ints)))])) ?_
          rw [hsp, lC, ← List.length_append]
          refine Weak.backT 5 (by simp) (by first | rfl | kernel_rfl) (by kernel_rfl) (Nat.le_of_ble_eq_true rfl) tld (by kernel_rfl) (by kernel_rfl)
    · have hxt : X.length = A.length + B.length + C.length := by rw [hX]; simp; omega
      rw [← hX]
      (refine goA ?_)
      refine Ret.frz (fun i => Nat.beq i 4) [(2, .lst 1 false (X.map ints))] ⟨View.sl (t := 23) (pr := true) (es := X.map ints ++ List.replicate (n - X.length) D.nils) rfl rfl (by rw [List.length_append, List.length_map]; omega) (fun h => Bool.noConfusion h) (by rw [List.drop_zero, List.take_left' (List.length_map ..)]; exact ViewL.same _) (pureL_rows _), trivial⟩ ?_
      refine Ret.trim 4 (by simp) rfl (Nat.le_of_ble_eq_true rfl) ?_
      exact Ret.mk [.tmp _] rfl ⟨rfl, rfl⟩
/-- Nothing is held, or waited for. -/
def freeS (S : Lk) : Bool := !(S.ow.any fun v => !decide (v = -1)) && !((S.lk ++ S.wq ++ S.dq).any fun L => decide (0 < L.length))
theorem free69' {nm nw ns : Nat} {S : Lk} (h : LkL nm nw ns S) (hb : nm ≤ 1000 ∧ nw ≤ 1000 ∧ ns ≤ 1000) : Spec Try.prog 69 [lkD nm nw ns] (lkO nm nw ns S []) (fun d os' => d = .bool (freeS S) ∧ os' = lkO nm nw ns S []) := by
  obtain ⟨ow, co, lk, wq, dq⟩ := S
  have h1 := h.ow
  have h2 := h.lk
  have h3 := h.wq
  have h4 := h.dq
  dsimp only at h1 h2 h3 h4
  subst h2 h3 h4
  have hO : (ow.map (D.int .i64)).length = lk.length := by rw [List.length_map]; exact h1
  unfold freeS
  dsimp only
  obtain ⟨b1, hb1⟩ : ∃ b, (ow.any fun v => !decide (v = -1)) = b := ⟨_, rfl⟩
  obtain ⟨b2, hb2⟩ : ∃ b, ((lk ++ wq ++ dq).any fun L => decide (0 < L.length)) = b := ⟨_, rfl⟩
  rw [hb1, hb2]
  have hcat : Spec Try.prog 155 [.sl 7 0 1 0 3 none] (lkO lk.length wq.length dq.length ⟨ow, co, lk, wq, dq⟩ [one (.row 93 10 false [lkD lk.length wq.length dq.length]), one (.row 24 1 false [.sl 2 0 1 0 lk.length none, .sl 3 0 1 0 wq.length none, .sl 4 0 1 0 dq.length none])])
      (fun d os' => d = .lst 1 false ((lk ++ wq ++ dq).map ints) ∧ os' = lkO lk.length wq.length dq.length ⟨ow, co, lk, wq, dq⟩ [one (.row 93 10 false [lkD lk.length wq.length dq.length]), one (.row 24 1 false [.sl 2 0 1 0 lk.length none, .sl 3 0 1 0 wq.length none, .sl 4 0 1 0 dq.length none])]) := by
    have := (concat155 lk wq dq hb.1 hb.2.1 hb.2.2).frame (lkO lk.length wq.length dq.length ⟨ow, co, lk, wq, dq⟩ [one (.row 93 10 false [lkD lk.length wq.length dq.length]), one (.row 24 1 false [.sl 2 0 1 0 lk.length none, .sl 3 0 1 0 wq.length none, .sl 4 0 1 0 dq.length none])]) [(2, 0), (3, 0), (4, 0), (7, 0)] rfl (by decide) (fun k p hk => by
      match k, hk with
      | 0, hk => cases hk; exact ⟨by simp, rfl, rfl, fun j hj => one_pos _ hj⟩
      | 1, hk => cases hk; exact ⟨by simp, rfl, rfl, fun j hj => one_pos _ hj⟩
      | 2, hk => cases hk; exact ⟨by simp, rfl, rfl, fun j hj => one_pos _ hj⟩
      | 3, hk => cases hk; exact ⟨by simp, rfl, rfl, fun j hj => one_pos _ hj⟩
      | k + 4, hk => simp at hk) rfl
    refine this.mono ?_
    rintro d os' ⟨d1, os1, ⟨rfl, rfl⟩, rfl, rfl⟩
    exact ⟨rfl, rfl⟩
  refine Spec.by Try.func69 rfl (by decide) (by decide +kernel) rfl ?_
  (refine goA ?_)
  refine Call.mk ((con152 ow 153 [] (fun v => !decide (v = -1)) (by omega) (fun v _ => fn153 v)).read (.cons (View.slAll rfl rfl hO (by simp) (ViewL.same _) (pureL_map (fun _ => rfl) _)) (.cons (View.same _) .nil)) rfl (by rintro d rfl; exact ⟨rfl, rfl⟩)) ?_
  rw [hb1]
  rintro d os' ⟨rfl, rfl⟩
  cases b1 with
  | true =>
    (refine goA ?_)
    refine Ret.trim 6 (by simp) rfl (Nat.le_of_ble_eq_true rfl) ?_
    exact Ret.mk [.tmp 2] rfl ⟨rfl, rfl⟩
  | false =>
    (refine goA ?_)
    refine App.own ?_
    (refine goA ?_)
    refine Call.mk hcat ?_
    rintro d os' ⟨rfl, rfl⟩
    (refine goA ?_)
    refine Call.mk ((con154 (lk ++ wq ++ dq) 151 (fun L => decide (0 < L.length)) (by simp; omega) (fun L _ => fn151 L)).read (ViewL.same _) rfl (by rintro d rfl; exact ⟨rfl, rfl⟩)) ?_
    rw [hb2]
    rintro d os' ⟨rfl, rfl⟩
    cases b2 with
    | true =>
      (refine goA ?_)
      refine Ret.trim 6 (by simp) rfl (Nat.le_of_ble_eq_true rfl) ?_
      exact Ret.mk [.tmp 2] rfl ⟨rfl, rfl⟩
    | false =>
      (refine goA ?_)
      refine Ret.trim 6 (by simp) rfl (Nat.le_of_ble_eq_true rfl) ?_
      exact Ret.mk [.tmp 2] rfl ⟨rfl, rfl⟩
/-- A new state of locks: its rows. -/
def newS (nm nw : Nat) (se : List Int) : Lk := ⟨List.replicate nm (-1), se, List.replicate nm [], List.replicate nw [], List.replicate se.length []⟩
@[reducible] def lkR (S : Lk) : Objs := [rowI S.ow, rowI S.co, rowC S.lk, rowC S.wq, rowC S.dq]
end Go.Proofs.Ytaplihoeephbeaa.V
end
section
namespace Go.Proofs.Ytaplihoeephbeaa.V
open Go Go.Proofs
set_option maxRecDepth 100000
set_option maxHeartbeats 40000000
@[reducible] def lkD1 (nm nw ns : Nat) : D := .agg [.int .i64 0, .nils, .sl 1 0 1 0 nm none, .sl 2 0 1 0 ns none, .nils, .sl 3 0 1 0 nm none, .sl 4 0 1 0 nw none, .sl 5 0 1 0 ns none, .nils, .nils]
@[reducible] def lkDx (nm nw ns a b c d e : Nat) : D := .agg [.int .i64 0, .nils, .sl a 0 1 0 nm none, .sl b 0 1 0 ns none, .nils, .sl c 0 1 0 nm none, .sl d 0 1 0 nw none, .sl e 0 1 0 ns none, .nils, .nils]
@[reducible] def nilC (n : Nat) : Fam := one (.row 23 1 true (List.replicate n .nils))
theorem rep_nilsL {ρ : Pl} {I : Im} {v : Value} (sz : Nat) (f : Bool) (h : rep ρ I .nils v) : rep ρ I (.lst sz f []) v := by
  have h' : v = .slice none 0 0 := by rw [rep] at h; exact h
  rw [rep]
  exact ⟨none, 0, [], h', Nat.le_refl _, by simp, fun _ => rfl, repL_nil.2 rfl, (fun u hu => by cases hu), .inl rfl⟩
theorem repL_nilsL {ρ : Pl} {I : Im} : ∀ (n : Nat) (vs : List Value), repL ρ I (List.replicate n .nils) vs → repL ρ I ((List.replicate n ([] : List Int)).map ints) vs
  | 0, vs, h => h
  | n + 1, vs, h => by
    obtain ⟨u, us, rfl, hu, h⟩ := repL_cons.1 h
    exact repL_cons.2 ⟨u, us, rfl, rep_nilsL 1 false hu, repL_nilsL n us h⟩
theorem Weak.nilsC {n0 : Nat} {m : List (Nat × D)} {os : Objs} (k n : Nat) (hk : os.at k 0 = .row 23 1 true (List.replicate n .nils)) : Weak n0 { m := m, objs := os } { m := m, objs := os.put k 0 (.row 23 1 true ((List.replicate n ([] : List Int)).map ints)) } :=
  Weak.retellP k hk _ (by simp) (fun I us => repL_nilsL n us)
theorem new66i (nm nw : Nat) (se : List Int) (h1 : nm ≤ 1000) (h2 : nw ≤ 1000) (h3 : se.length ≤ 1000) : Spec Try.prog 66 [.int .i64 nm, .int .i64 nw, ints se] [] (fun d os' => d = lkD1 nm nw se.length ∧ os' = one (.row 93 10 false [lkD1 nm nw se.length]) :: lkR (newS nm nw se)) := by
  have hsm : (se.map (D.int .i64)).length = se.length := List.length_map ..
  refine Spec.by Try.func66 rfl (by decide) (by decide +kernel) rfl ?_
  (refine goA ?_)
  repeat (refine erC ?_)
  (refine goA ?_)
  refine App.only false rfl rfl ?_
  (refine goA ?_)
  repeat (refine erC ?_)
  refine Call.mk ((repeat148 (-1) nm h1).onto _ rfl) ?_
  rintro d os' ⟨_, _, ⟨rfl, rfl⟩, rfl, rfl⟩
  (refine goA ?_)
  repeat (refine erC ?_)
  refine Call.mk ((clone130w se (by omega)).onto _ rfl) ?_
  rintro d os' ⟨_, _, ⟨rfl, rfl⟩, rfl, rfl⟩
  (refine goA ?_)
  repeat (refine erC ?_)
  (refine goA ?_)
  repeat (refine erC ?_)
  (refine goA ?_)
  repeat (refine erC ?_)
  (refine goA ?_)
  refine Ret.weak (Weak.on [(6, .ptr 0 0 10 0 0)] [one (.row 93 10 false [.agg [.int .i64 0, .nils, .sl 1 0 1 0 nm none, .sl 2 0 1 0 se.length none, .nils, .sl 3 0 1 0 nm none, .sl 4 0 1 0 nw none, .sl 5 0 1 0 (se.map (D.int .i64)).length none, .nils, .nils]]), rowI (List.replicate nm (-1)), rowI se, nilC nm, nilC nw, nilC (se.map (D.int .i64)).length]) ?_
  rw [hsm]
  refine Ret.weak (Weak.trans (Weak.nilsC 3 nm rfl) (Weak.trans (Weak.nilsC 4 nw rfl) (Weak.nilsC 5 se.length rfl))) ?_
  refine Ret.mk [.cell 6 93] rfl ?_
  (refine goA ?_)
  exact rfl
theorem new66 (nm nw : Nat) (se : List Int) (h1 : nm ≤ 1000) (h2 : nw ≤ 1000) (h3 : se.length ≤ 1000) : Spec Try.prog 66 [.int .i64 nm, .int .i64 nw, ints se] [] (fun d os' => d = lkD nm nw se.length ∧ os' = lkR (newS nm nw se)) := by
  refine Spec.weak (new66i nm nw se h1 h2 h3) ?_
  rintro d os' ⟨rfl, rfl⟩
  refine ⟨[(0, lkD nm nw se.length)], lkR (newS nm nw se), ?_, rfl, rfl⟩
  refine Weak.trans (Weak.frzK (fun i => Nat.beq i 0) [] trivial) ?_
  refine Weak.trans (Weak.on [(0, lkDx nm nw se.length 1 2 3 4 5)] [one .gone, rowI (newS nm nw se).ow, rowI (newS nm nw se).co, rowC (newS nm nw se).lk, rowC (newS nm nw se).wq, rowC (newS nm nw se).dq]) ?_
  refine Weak.shf 1 0 ?_
  refine Weak.trans (Weak.on [(0, lkDx nm nw se.length 0 2 3 4 5)] [rowI (newS nm nw se).ow, one .gone, rowI (newS nm nw se).co, rowC (newS nm nw se).lk, rowC (newS nm nw se).wq, rowC (newS nm nw se).dq]) ?_
  refine Weak.shf 2 1 ?_
  refine Weak.trans (Weak.on [(0, lkDx nm nw se.length 0 1 3 4 5)] [rowI (newS nm nw se).ow, rowI (newS nm nw se).co, one .gone, rowC (newS nm nw se).lk, rowC (newS nm nw se).wq, rowC (newS nm nw se).dq]) ?_
  refine Weak.shf 3 2 ?_
  refine Weak.trans (Weak.on [(0, lkDx nm nw se.length 0 1 2 4 5)] [rowI (newS nm nw se).ow, rowI (newS nm nw se).co, rowC (newS nm nw se).lk, one .gone, rowC (newS nm nw se).wq, rowC (newS nm nw se).dq]) ?_
  refine Weak.shf 4 3 ?_
  refine Weak.trans (Weak.on [(0, lkDx nm nw se.length 0 1 2 3 5)] [rowI (newS nm nw se).ow, rowI (newS nm nw se).co, rowC (newS nm nw se).lk, rowC (newS nm nw se).wq, one .gone, rowC (newS nm nw se).dq]) ?_
  refine Weak.shf 5 4 ?_
  refine Weak.trans (Weak.on [(0, lkDx nm nw se.length 0 1 2 3 4)] [rowI (newS nm nw se).ow, rowI (newS nm nw se).co, rowC (newS nm nw se).lk, rowC (newS nm nw se).wq, rowC (newS nm nw se).dq, one .gone]) ?_
  exact Weak.fin 5
end Go.Proofs.Ytaplihoeephbeaa.V
end
section
namespace Go.Proofs.Ytaplihoeephbeaa.V
open Go Go.Proofs
set_option maxRecDepth 100000
set_option maxHeartbeats 40000000
theorem Spec.args {P : Program} {f : FuncId} {args args' : List D} {os : Objs} {post : D → Objs → Prop} (h : Spec P f args os post) (hv : ∀ ρ I vs, repL ρ I args' vs → repL ρ I args vs) : Spec P f args' os post :=
  ⟨h.1, fun ρ I w vs s r => h.2 ρ I w vs s (hv ρ I vs r)⟩
theorem new66n (nm nw : Nat) (h1 : nm ≤ 1000) (h2 : nw ≤ 1000) : Spec Try.prog 66 [.int .i64 nm, .int .i64 nw, .nils] [] (fun d os' => d = lkD nm nw 0 ∧ os' = lkR (newS nm nw [])) :=
  (new66 nm nw [] h1 h2 (by simp)).args (fun ρ I vs h => by
    obtain ⟨a, va, rfl, ha, h⟩ := repL_cons.1 h
    obtain ⟨b, vb, rfl, hb, h⟩ := repL_cons.1 h
    obtain ⟨c, vc, rfl, hc, h⟩ := repL_cons.1 h
    exact repL_cons.2 ⟨_, _, rfl, ha, repL_cons.2 ⟨_, _, rfl, hb, repL_cons.2 ⟨_, _, rfl, rep_nilsL 1 false hc, h⟩⟩⟩)
theorem lkL_of (S : Lk) (nm nw ns : Nat) (h : (S.ow.length = nm ∧ S.co.length = ns) ∧ (S.lk.length = nm ∧ S.wq.length = nw) ∧ S.dq.length = ns ∧ sumL S.lk + sumL S.wq + sumL S.dq ≤ 1000) : LkL nm nw ns S := ⟨h.1.1, h.1.2, h.2.1.1, h.2.1.2, h.2.2.1, h.2.2.2⟩
theorem lives70 : Spec Try.prog 70 [] [] (fun d os' => d = .bool true ∧ os' = []) := by
  have e0 : newS 1 0 [] = ⟨[-1], [], [[]], [], []⟩ := rfl
  have e1 : lockS ⟨[-1], [], [[]], [], []⟩ 0 5 = (⟨[5], [], [[]], [], []⟩, true) := rfl
  have e2 : lockS ⟨[5], [], [[]], [], []⟩ 0 6 = (⟨[5], [], [[6]], [], []⟩, false) := rfl
  have e3 : unlockS ⟨[5], [], [[6]], [], []⟩ 0 5 = (⟨[6], [], [[]], [], []⟩, 6, 0) := rfl
  have e4 : freeS ⟨[6], [], [[]], [], []⟩ = false := rfl
  refine Spec.by Try.func70 rfl (by decide) (by decide +kernel) rfl ?_
  (refine goA ?_)
  refine Call.mk (new66n 1 0 (by omega) (by omega)) ?_
  rw [e0]
  rintro d os' ⟨rfl, rfl⟩
  (refine goA ?_)
  refine Call.mk (lock67 (nm := 1) (nw := 0) (ns := 0) (lkL_of _ _ _ _ ⟨⟨rfl, rfl⟩, ⟨rfl, rfl⟩, rfl, by decide⟩) 0 (by omega) 5 []) ?_
  rw [e1]
  rintro d os' ⟨rfl, rfl⟩
  (refine goA ?_)
  refine Call.mk (lock67 (nm := 1) (nw := 0) (ns := 0) (lkL_of _ _ _ _ ⟨⟨rfl, rfl⟩, ⟨rfl, rfl⟩, rfl, by decide⟩) 0 (by omega) 6 []) ?_
  rw [e2]
  rintro d os' ⟨rfl, rfl⟩
  (refine goA ?_)
  refine Call.mk (unlock68 (nm := 1) (nw := 0) (ns := 0) (lkL_of _ _ _ _ ⟨⟨rfl, rfl⟩, ⟨rfl, rfl⟩, rfl, by decide⟩) 0 (by omega) 5 []) ?_
  rw [e3]
  rintro d os' ⟨rfl, rfl⟩
  (refine goA ?_)
  refine Call.mk (free69' (nm := 1) (nw := 0) (ns := 0) (lkL_of _ _ _ _ ⟨⟨rfl, rfl⟩, ⟨rfl, rfl⟩, rfl, by decide⟩) (by omega)) ?_
  rw [e4]
  rintro d os' ⟨rfl, rfl⟩
  (refine goA ?_)
  refine Ret.trim 0 (by simp) rfl (Nat.le_of_ble_eq_true rfl) ?_
  exact Ret.mk [.tmp _] rfl ⟨rfl, rfl⟩
end Go.Proofs.Ytaplihoeephbeaa.V
end
section
namespace Go.Proofs.Ytaplihoeephbeaa.V
open Go Go.Proofs
set_option maxRecDepth 100000
set_option maxHeartbeats 40000000
/-! ref09: states that are only read. -/
@[reducible] def lists (A : List (List Int)) : D := .lst 1 false (A.map ints)
@[reducible] def lkV (S : Lk) : D := .agg [.int .i64 0, .nils, ints S.ow, ints S.co, .nils, lists S.lk, lists S.wq, lists S.dq, .nils, .nils]
theorem own230 (l : List Int) (hl : l.length ≤ 1000000) : Spec Try.prog 230 [ints l] [] (fun d os' => d = .sl 0 0 1 0 l.length none ∧ os' = [rowI l]) := by
  have hlm : (l.map (D.int .i64)).length = l.length := List.length_map ..
  refine Spec.by Try.func230 rfl (by decide) (by decide +kernel) rfl ?_
  (refine goA ?_)
  refine And.intro (fun h => ?_) (fun h => ?_)
  · obtain rfl : l = [] := List.map_eq_nil_iff.1 h
    (refine goA ?_)
    refine Ret.weak (Weak.nilrow 2 rfl 3 1 true) ?_
    exact Ret.mk [.tmp _] rfl (And.intro rfl rfl)
  · refine And.intro (by rw [hlm]; show l.length * 8 ≤ _; omega) (And.intro (by omega) ?_)
    refine App.own ?_
    (refine goA ?_)
    refine Ret.mk [.tmp _] rfl (And.intro ?_ ?_)
    · rw [← hlm]; rfl
    · exact congrArg (fun b => ([one (.row 3 1 b (l.map (D.int .i64)))] : Objs)) (pureL_map (fun _ => rfl) _)
theorem ints230 (l : List Int) (hl : l.length ≤ 1000000) : Spec Try.prog 230 [ints l] [] (fun d os' => d = ints l ∧ os' = []) := by
  have hlm : (l.map (D.int .i64)).length = l.length := List.length_map ..
  refine Spec.frz (post' := fun d => d = ints l) ((own230 l hl).mono ?_)
  rintro d os' ⟨rfl, rfl⟩
  exact ⟨_, View.slAll rfl rfl hlm (by simp) (ViewL.same _) (pureL_map (fun _ => rfl) _), rfl, rfl⟩
theorem lists174 (A : List (List Int)) (hA : A.length ≤ 1000000) (hl : ∀ L ∈ A, L.length ≤ 1000000) : Spec Try.prog 174 [lists A, lists A] [] (fun d os' => d = .bool true ∧ os' = []) := by
  have hAm : (A.map ints).length = A.length := List.length_map ..
  refine Spec.by Try.func174 rfl (by decide) (by decide +kernel) rfl ?_
  (refine goA ?_)
  refine Loop.inv (A := Nat) (List.range 27) (fun i => [(0, lists A), (1, lists A), (4, .bool false), (5, .int .i64 (i : Int))]) (fun i => []) (fun i => i ≤ A.length) (fun i => A.length - i) 0 (Nat.zero_le _) ?_ ?_
  · exact Weak.start' rfl rfl tld
  rintro i hi
  (refine goA ?_)
  refine Br.dec (fun h0 => ?_) (fun h0 => ?_)
  · have hil : i < A.length := by omega
    have hget : A[i]? = some A[i] := List.getElem?_eq_getElem hil
    have hlen := hl A[i] (List.getElem_mem _)
    have b1 : decide (A[i] = A[i]) = true := decide_eq_true rfl
    (refine goA ?_)
    refine Opt.of (get_map hget) ?_
    (refine goA ?_)
    refine Opt.of (get_map hget) ?_
    (refine goA ?_)
    refine Call.mk ((same50 A[i] A[i] (by omega)).only _ rfl (by rintro d rfl; rfl)) ?_; rintro d os' ⟨rfl, rfl⟩
    rw [b1]
    (refine goA ?_)
    refine ⟨_, _, _, ?_, ⟨i + 1, ?_, rfl, rfl, rfl⟩, ?_⟩
    · show A.length - (i + 1) < A.length - i; omega
    · exact hil
    · refine Weak.backT 0 (by simp) (by first | rfl | kernel_rfl) (by kernel_rfl) (Nat.le_of_ble_eq_true rfl) tld (by kernel_rfl) (by kernel_rfl)
  · (refine goA ?_)
    refine Ret.mk [.tmp _] rfl ?_; refine And.intro ?_ rfl
    rfl
theorem LkL.b0 {nm nw ns : Nat} {S : Lk} (h : LkL nm nw ns S) (hb : nm ≤ 1000 ∧ nw ≤ 1000 ∧ ns ≤ 1000) : S.ow.length ≤ 1000 ∧ S.co.length ≤ 1000 ∧ S.lk.length ≤ 1000 ∧ S.wq.length ≤ 1000 ∧ S.dq.length ≤ 1000 := by
  have := h.ow
  have := h.co
  have := h.lk
  have := h.wq
  have := h.dq
  omega
theorem same103 {nm nw ns : Nat} {S : Lk} (h : LkL nm nw ns S) (hb : nm ≤ 1000 ∧ nw ≤ 1000 ∧ ns ≤ 1000) : Spec Try.prog 103 [lkV S, lkV S] [] (fun d os' => d = .bool true ∧ os' = []) := by
  obtain ⟨h1, h2, h3, h4, h5⟩ := h.b0 hb
  have q1 := h.l1
  have q2 := h.l2
  have q3 := h.l3
  have b1 : decide (S.ow = S.ow) = true := decide_eq_true rfl
  have b2 : decide (S.co = S.co) = true := decide_eq_true rfl
  refine Spec.by Try.func103 rfl (by decide) (by decide +kernel) rfl ?_
  (refine goA ?_)
  refine Call.mk ((same50 S.ow S.ow (by omega)).only _ rfl (by rintro d rfl; rfl)) ?_; rintro d os' ⟨rfl, rfl⟩
  rw [b1]
  (refine goA ?_)
  refine Call.mk ((same50 S.co S.co (by omega)).only _ rfl (by rintro d rfl; rfl)) ?_; rintro d os' ⟨rfl, rfl⟩
  rw [b2]
  (refine goA ?_)
  refine Call.mk ((lists174 S.lk (by omega) (fun L hL => by have := q1 L hL; omega)).only _ rfl (by rintro d rfl; rfl)) ?_; rintro d os' ⟨rfl, rfl⟩
  (refine goA ?_)
  refine Call.mk ((lists174 S.wq (by omega) (fun L hL => by have := q2 L hL; omega)).only _ rfl (by rintro d rfl; rfl)) ?_; rintro d os' ⟨rfl, rfl⟩
  (refine goA ?_)
  refine Call.mk ((lists174 S.dq (by omega) (fun L hL => by have := q3 L hL; omega)).only _ rfl (by rintro d rfl; rfl)) ?_; rintro d os' ⟨rfl, rfl⟩
  (refine goA ?_)
  refine Ret.trim 0 (by simp) rfl (Nat.le_of_ble_eq_true rfl) ?_
  refine Ret.mk [.tmp _] rfl ?_; refine And.intro ?_ rfl
  rfl
theorem lists231w (A : List (List Int)) (hA : A.length ≤ 1000) (hl : ∀ L ∈ A, L.length ≤ 1000) : Spec Try.prog 231 [lists A] [] (fun d os' => d = .sl 0 0 1 0 A.length none ∧ os' = [rowC A]) := by
  have hAm : (A.map ints).length = A.length := List.length_map ..
  refine Spec.by Try.func231 rfl (by decide) (by decide +kernel) rfl ?_
  (refine goR ?_)
  ((with_reducible refine Pt.go ?_); conv => whnf)
  (refine goR ?_)
  ((with_reducible refine Pt.go ?_); conv => whnf)
  (refine goR ?_)
  refine Pt.weak (Weak.trans (Weak.only [(0, lists A), (3, .nils)] [] (by kernel_rfl) tld) (Weak.nilrow 3 rfl 23 1 true)) ?_
  (refine goA ?_)
  refine Loop.inv (A := Nat) (List.range 20) (fun i => [(0, lists A), (3, .sl 0 0 1 0 i none), (4, .int .i64 (i : Int))]) (fun i => [rowC (A.take i)]) (fun i => i ≤ A.length) (fun i => A.length - i) 0 (Nat.zero_le _) ?_ ?_
  · exact Weak.start' rfl rfl tld
  rintro i hi
  have hlt : ((A.take i).map ints).length = i := by rw [List.length_map, List.length_take]; omega
  (refine goA ?_)
  refine Br.dec (fun h0 => ?_) (fun h0 => ?_)
  · have hil : i < A.length := by omega
    have hget : A[i]? = some A[i] := List.getElem?_eq_getElem hil
    have hlen := hl A[i] (List.getElem_mem _)
    (refine goA ?_)
    refine Opt.of (get_map hget) ?_
    (refine goA ?_)
    refine Call.mk ((ints230 A[i] (by omega)).only _ rfl (by rintro d rfl; rfl)) ?_; rintro d os' ⟨rfl, rfl⟩
    (refine goA ?_)
    refine App.only false rfl rfl ?_
    (refine goA ?_)
    refine ⟨_, _, _, ?_, ⟨i + 1, ?_, rfl, rfl, rfl⟩, ?_⟩
    · show A.length - (i + 1) < A.length - i; omega
    · exact hil
    · refine Weak.trans (Weak.shift 1 0 (by decide) (by simp) (Nat.le_of_ble_eq_true rfl) (Nat.le_of_ble_eq_true rfl) (fun j => by cases j <;> rfl) rfl) ?_
      refine Weak.backT 1 (by simp) ?_ (by kernel_rfl) (Nat.le_of_ble_eq_true rfl) tld (by kernel_rfl) (by kernel_rfl)
      exact congrArg (fun r => ([one (.row 23 1 true r)] : Objs)) (by rw [List.take_add_one, hget]; show (A.take i).map ints ++ [ints A[i]] = (A.take i ++ [A[i]]).map ints; rw [List.map_append]; rfl)
  · obtain rfl : i = A.length := by omega
    rw [List.take_length] at *
    (refine goA ?_)
    refine Ret.mk [.tmp _] rfl ?_
    exact ⟨rfl, rfl⟩
theorem lists231 (A : List (List Int)) (hA : A.length ≤ 1000) (hl : ∀ L ∈ A, L.length ≤ 1000) : Spec Try.prog 231 [lists A] [] (fun d os' => d = lists A ∧ os' = []) := by
  have hAm : (A.map ints).length = A.length := List.length_map ..
  refine Spec.frz (post' := fun d => d = lists A) ((lists231w A hA hl).mono ?_)
  rintro d os' ⟨rfl, rfl⟩
  exact ⟨_, View.slAll rfl rfl hAm (by simp) (ViewL.same _) (pureL_rows _), rfl, rfl⟩
end Go.Proofs.Ytaplihoeephbeaa.V
end
section
namespace Go.Proofs.Ytaplihoeephbeaa.V
open Go Go.Proofs
set_option maxRecDepth 100000
set_option maxHeartbeats 4000000
mutual
theorem names_pure (b : Nat) : ∀ (d : D), d.pure = true → d.names b = false
  | .agg cs, h => namesL_pure b cs h
  | .tup cs, h => namesL_pure b cs h
  | .fn g x y, h => by
    have h' : D.pureL x = true ∧ D.pureL y = true := by simpa [D.pure] using h
    simp [D.names, namesL_pure b x h'.1, namesL_pure b y h'.2]
  | .ptr .., h | .sl .., h | .mp .., h | .yl .., h => by simp [D.pure] at h
  | .int .., _ | .bool _, _ | .str _, _ | .nilp, _ | .nils, _ | .nilf, _ | .junk, _ | .pel .., _ | .lst .., _ => rfl
theorem namesL_pure (b : Nat) : ∀ (ds : List D), D.pureL ds = true → D.namesL b ds = false
  | [], _ => rfl
  | d :: ds, h => by
    have h' : d.pure = true ∧ D.pureL ds = true := by simpa [D.pureL] using h
    simp [D.namesL, names_pure b d h'.1, namesL_pure b ds h'.2]
end
mutual
theorem lt_pure (n : Nat) : ∀ (d : D), d.pure = true → d.lt n = true
  | .agg cs, h => ltL_pure n cs h
  | .tup cs, h => ltL_pure n cs h
  | .fn g x y, h => by
    have h' : D.pureL x = true ∧ D.pureL y = true := by simpa [D.pure] using h
    simp [D.lt, ltL_pure n x h'.1, ltL_pure n y h'.2]
  | .ptr .., h | .sl .., h | .mp .., h | .yl .., h => by simp [D.pure] at h
  | .int .., _ | .bool _, _ | .str _, _ | .nilp, _ | .nils, _ | .nilf, _ | .junk, _ | .pel .., _ | .lst .., _ => rfl
theorem ltL_pure (n : Nat) : ∀ (ds : List D), D.pureL ds = true → D.ltL n ds = true
  | [], _ => rfl
  | d :: ds, h => by
    have h' : d.pure = true ∧ D.pureL ds = true := by simpa [D.pureL] using h
    simp [D.ltL, lt_pure n d h'.1, ltL_pure n ds h'.2]
end
mutual
theorem ren_pure (a b : Nat) : ∀ (d : D), d.pure = true → d.ren a b = d
  | .agg cs, h => by rw [D.ren, renL_pure a b cs h]
  | .tup cs, h => by rw [D.ren, renL_pure a b cs h]
  | .fn g x y, h => by
    have h' : D.pureL x = true ∧ D.pureL y = true := by simpa [D.pure] using h
    rw [D.ren, renL_pure a b x h'.1, renL_pure a b y h'.2]
  | .ptr .., h | .sl .., h | .mp .., h | .yl .., h => by simp [D.pure] at h
  | .int .., _ | .bool _, _ | .str _, _ | .nilp, _ | .nils, _ | .nilf, _ | .junk, _ | .pel .., _ | .lst .., _ => rfl
theorem renL_pure (a b : Nat) : ∀ (ds : List D), D.pureL ds = true → D.renL a b ds = ds
  | [], _ => rfl
  | d :: ds, h => by
    have h' : d.pure = true ∧ D.pureL ds = true := by simpa [D.pureL] using h
    rw [D.renL, ren_pure a b d h'.1, renL_pure a b ds h'.2]
end
theorem namesL_append (b : Nat) : ∀ (x y : List D), D.namesL b (x ++ y) = (D.namesL b x || D.namesL b y)
  | [], y => by simp [D.namesL]
  | d :: x, y => by simp [D.namesL, namesL_append b x y, Bool.or_assoc]
theorem ltL_append (n : Nat) : ∀ (x y : List D), D.ltL n (x ++ y) = (D.ltL n x && D.ltL n y)
  | [], y => by simp [D.ltL]
  | d :: x, y => by simp [D.ltL, ltL_append n x y, Bool.and_assoc]
theorem renL_append (a b : Nat) : ∀ (x y : List D), D.renL a b (x ++ y) = D.renL a b x ++ D.renL a b y
  | [], y => by simp [D.renL]
  | d :: x, y => by simp [D.renL, renL_append a b x y]
/-- A row that names nothing may come to name something. -/
theorem Weak.unpure {n0 : Nat} {m : List (Nat × D)} {os : Objs} (k : Nat) {ty : TypeId} {sz : Nat} {es : List D} (hk : os.at k 0 = .row ty sz true es) : Weak n0 { m := m, objs := os } { m := m, objs := os.put k 0 (.row ty sz false es) } := by
  intro ρ I w tm h1 h2 h3
  have hs := h1.retell (k := k) (by show os.at k 0 ≠ _; rw [hk]; simp) (.row ty sz false es) (fun p hp hok => by
    have hok' : objOk ρ I w p (os.at k 0) := hok
    rw [hk] at hok'
    obtain ⟨c1, c2, c3⟩ := hok'
    refine ⟨c1, c2, fun hpos => ?_⟩
    obtain ⟨arr, us, g1, g2, g3, g4, g5⟩ := c3 hpos
    exact ⟨arr, us, g1, g2, repL_bot g3, g4, g5⟩)
  exact ⟨ρ, I, hs.1, h2, Im.le_refl _, by show n0 ≤ (os.put _ _ _).length; rw [length_put]; exact h3, fun _ _ _ => rfl, fun _ h => .inl h, hs.2⟩
end Go.Proofs.Ytaplihoeephbeaa.V
end
section
namespace Go.Proofs.Ytaplihoeephbeaa.V
open Go Go.Proofs
set_option maxRecDepth 100000
set_option maxHeartbeats 40000000
/-- Rows, of which one is its own object q. -/
def RE (X : List (List Int)) (L : List Int) (Y : List (List Int)) (q : Nat) : List D := X.map ints ++ .sl q 0 1 0 L.length none :: Y.map ints
theorem RE_names (X : List (List Int)) (L : List Int) (Y : List (List Int)) (q n : Nat) (h : Nat.beq q n = false) : D.namesL n (RE X L Y q) = false := by
  rw [RE, namesL_append, namesL_pure _ _ (pureL_rows _)]
  simp [D.namesL, D.names, h, namesL_pure _ _ (pureL_rows _)]
theorem RE_lt (X : List (List Int)) (L : List Int) (Y : List (List Int)) (q n : Nat) (h : Nat.blt q n = true) : D.ltL n (RE X L Y q) = true := by
  rw [RE, ltL_append, ltL_pure _ _ (pureL_rows _)]
  simp [D.ltL, D.lt, h, ltL_pure _ _ (pureL_rows _)]
theorem RE_ren (X : List (List Int)) (L : List Int) (Y : List (List Int)) (q a b : Nat) (h : Nat.beq q a = false) : D.renL a b (RE X L Y q) = RE X L Y q := by
  rw [RE, renL_append, renL_pure _ _ _ (pureL_rows _)]
  simp [D.renL, D.ren, h, renL_pure _ _ _ (pureL_rows _)]
theorem RE_len (X : List (List Int)) (L : List Int) (Y : List (List Int)) (q : Nat) : (RE X L Y q).length = (X ++ L :: Y).length := by
  simp [RE]
theorem RE_snoc (X : List (List Int)) (L : List Int) (Y : List (List Int)) (q : Nat) (M : List Int) : RE X L Y q ++ [ints M] = RE X L (Y ++ [M]) q := by
  rw [RE, RE, List.map_append, List.append_assoc, List.cons_append]; rfl
theorem RE_get (X : List (List Int)) (L : List Int) (Y : List (List Int)) (q : Nat) : (RE X L Y q)[X.length]? = some (.sl q 0 1 0 L.length none) := by
  rw [RE, List.getElem?_append_right (by simp)]; simp
theorem RE_set (X : List (List Int)) (L : List Int) (Y : List (List Int)) (q r : Nat) (M : List Int) : (RE X L Y q).set X.length (.sl r 0 1 0 M.length none) = RE X M Y r := by
  rw [RE, RE, List.set_append_right _ _ (by simp)]; simp
theorem own_rowI (l : List Int) : Objs.own [rowI l] := fun i j => by
  match i, j with
  | 0, 0 => exact ownL_ints l
  | 0, j + 1 => rfl
  | i + 1, j => cases i <;> cases j <;> rfl
theorem lists231e (X : List (List Int)) (L : List Int) (Y : List (List Int)) (hA : (X ++ L :: Y).length ≤ 1000) (hl : ∀ M ∈ X ++ L :: Y, M.length ≤ 1000) : Spec Try.prog 231 [lists (X ++ L :: Y)] [] (fun d os' => d = .sl 0 0 1 0 (X ++ L :: Y).length none ∧ os' = [one (.row 23 1 false (RE X L Y 1)), rowI L]) := by
  obtain ⟨A, hAe⟩ : ∃ A, X ++ L :: Y = A := ⟨_, rfl⟩
  have hAm : (A.map ints).length = A.length := List.length_map ..
  have hXA : X.length < A.length := by rw [← hAe]; simp
  have hTX : A.take X.length = X := by rw [← hAe, List.take_left' rfl]
  have hGX : A[X.length]? = some L := by rw [← hAe]; simp
  have hAl : A.length = X.length + (Y.length + 1) := by rw [← hAe]; simp
  have hTY : Y.take (A.length - (X.length + 1)) = Y := List.take_of_length_le (by omega)
  rw [hAe] at hA hl ⊢
  refine Spec.by Try.func231 rfl (by decide) (by decide +kernel) rfl ?_
  (refine goR ?_)
  ((with_reducible refine Pt.go ?_); conv => whnf)
  (refine goR ?_)
  ((with_reducible refine Pt.go ?_); conv => whnf)
  (refine goR ?_)
  refine Pt.weak (Weak.trans (Weak.only [(0, lists A), (3, .nils)] [] (by kernel_rfl) tld) (Weak.nilrow 3 rfl 23 1 true)) ?_
  (refine goA ?_)
  refine Loop.inv (A := Nat × Bool) (List.range 20) (fun i => [(0, lists A), (3, .sl 0 0 1 0 i.1 none), (4, .int .i64 (i.1 : Int))]) (fun i => bif i.2 then [one (.row 23 1 false (RE X L (Y.take (i.1 - (X.length + 1))) 1)), rowI L] else [rowC (A.take i.1)]) (fun i => i.1 ≤ A.length ∧ (i.2 = true ↔ X.length < i.1)) (fun i => A.length - i.1) (0, false) ⟨Nat.zero_le _, by simp⟩ ?_ ?_
  · exact Weak.start' rfl rfl tld
  rintro ⟨i, b⟩ ⟨hi, hb⟩
  dsimp only at hi hb ⊢
  cases b with
  | true =>
    have hXi : X.length < i := hb.1 rfl
    have hlt : (RE X L (Y.take (i - (X.length + 1))) 1).length = i := by
      rw [RE_len]; simp
      have : A.length = X.length + (Y.length + 1) := by rw [← hAe]; simp
      omega
    dsimp only [cond_true]
    (refine goA ?_)
    refine Br.dec (fun h0 => ?_) (fun h0 => ?_)
    · have hil : i < A.length := by omega
      have hget : A[i]? = some A[i] := List.getElem?_eq_getElem hil
      have hgY : Y[i - (X.length + 1)]? = some A[i] := by
        rw [← hget, ← hAe, List.getElem?_append_right (by omega), show i - X.length = (i - (X.length + 1)) + 1 by omega, List.getElem?_cons_succ]
      have hlen := hl A[i] (List.getElem_mem _)
      have hsn : RE X L (Y.take (i - (X.length + 1))) 1 ++ [ints A[i]] = RE X L (Y.take (i + 1 - (X.length + 1))) 1 := by
        rw [RE_snoc, show i + 1 - (X.length + 1) = (i - (X.length + 1)) + 1 by omega, List.take_add_one, hgY]; rfl
      (refine goA ?_)
      refine Opt.of (get_map hget) ?_
      (refine goA ?_)
      refine Call.mk ((ints230 A[i] (by omega)).only _ rfl (by rintro d rfl; rfl)) ?_; rintro d os' ⟨rfl, rfl⟩
      (refine goA ?_)
      refine App.only false rfl rfl ?_
      (refine goA ?_)
      refine ⟨_, _, _, ?_, ⟨(i + 1, true), ?_, rfl, rfl, rfl⟩, ?_⟩
      · show A.length - (i + 1) < A.length - i; omega
      · exact ⟨hil, by simp; omega⟩
      · refine Weak.trans (Weak.objs (os' := [one .gone, rowI L, one (.row 23 1 false (RE X L (Y.take (i + 1 - (X.length + 1))) 1))]) ?_) ?_
        · exact congrArg (fun r => ([one .gone, rowI L, one (.row 23 1 false r)] : Objs)) hsn
        refine Weak.trans (Weak.shift 2 0 (by decide) (by simp) (Nat.le_of_ble_eq_true rfl) (Nat.le_of_ble_eq_true rfl) (fun j => by cases j <;> rfl) (by simp [Fam.names, O.names, D.namesL, D.names, RE_names X L _ 1 0 rfl])) ?_
        refine Weak.trans (Weak.objs (os' := [one (.row 23 1 false (RE X L (Y.take (i + 1 - (X.length + 1))) 1)), rowI L, one .gone]) (congrArg (fun r => ([one (.row 23 1 false r), rowI L, one .gone] : Objs)) (RE_ren X L _ 1 2 0 rfl))) ?_
        refine Weak.backT 2 (by simp) (by first | rfl | kernel_rfl) (by simp [Fam.lt, O.lt, D.lt, D.ltL, RE_lt X L _ 1 2 rfl]) (Nat.le_of_ble_eq_true rfl) tld (by kernel_rfl) (by kernel_rfl)
    · obtain rfl : i = A.length := by omega
      rw [hTY] at *
      (refine goA ?_)
      refine Ret.mk [.tmp _] rfl ⟨rfl, rfl⟩
  | false =>
    have hXi : i ≤ X.length := by
      apply Nat.le_of_not_lt
      intro h
      have := hb.2 h
      simp at this
    have hlt : ((A.take i).map ints).length = i := by rw [List.length_map, List.length_take]; omega
    have hil : i < A.length := by omega
    have hget : A[i]? = some A[i] := List.getElem?_eq_getElem hil
    have hlen := hl A[i] (List.getElem_mem _)
    dsimp only [cond_false]
    (refine goR ?_)
    by_cases hiX : i = X.length
    · have hAi : A[i] = L := by
        have h2 : A[i]? = some L := by rw [hiX]; exact hGX
        exact Option.some.inj (hget.symm.trans h2)
      rw [hAi] at hlen hget
      have hLm : (L.map (D.int .i64)).length = L.length := List.length_map ..
      refine Pt.weak (Weak.unpure 0 rfl) ?_
      (refine goA ?_)
      refine Opt.of (get_map hget) ?_
      (refine goA ?_)
      refine Call.mk ((own230 L (by omega)).fresh (ViewL.same _) rfl (by rintro d os' ⟨rfl, rfl⟩; exact ⟨rfl, own_rowI L⟩)) ?_
      rintro d os' ⟨d0, os0, ⟨rfl, rfl⟩, rfl, rfl⟩
      (refine goA ?_)
      refine App.own ?_
      (refine goA ?_)
      refine ⟨_, _, _, ?_, ⟨(i + 1, true), ?_, rfl, rfl, rfl⟩, ?_⟩
      · show A.length - (i + 1) < A.length - i; omega
      · exact ⟨hil, by simp; omega⟩
      · have e1 : (A.take i).map ints = X.map ints := by rw [hiX, hTX]
        have e2 : Y.take (i + 1 - (X.length + 1)) = [] := by rw [hiX, Nat.sub_self]; rfl
        dsimp only [cond_true]
        rw [e2]
        refine Weak.trans (Weak.objs (os' := [one .gone, rowI L, one (.row 23 1 false [.sl 1 0 1 0 L.length none]), one (.row 23 1 false (RE X L [] 1))]) ?_) ?_
        · exact congrArg (fun r => ([one .gone, rowI L, one (.row 23 1 false [.sl 1 0 1 0 L.length none]), one (.row 23 1 false (r ++ [.sl 1 0 1 0 L.length none]))] : Objs)) e1
        refine Weak.trans (Weak.frzK (fun i => Nat.beq i 2) [] trivial) ?_
        refine Weak.trans (Weak.objs (os' := [one .gone, rowI L, one .gone, one (.row 23 1 false (RE X L [] 1))]) (by kernel_rfl)) ?_
        refine Weak.trans (Weak.shift 3 0 (by decide) (by simp) (Nat.le_of_ble_eq_true rfl) (Nat.le_of_ble_eq_true rfl) (fun j => by cases j <;> rfl) (by simp [Fam.names, O.names, D.namesL, D.names, RE_names X L _ 1 0 rfl])) ?_
        refine Weak.trans (Weak.objs (os' := [one (.row 23 1 false (RE X L [] 1)), rowI L, one .gone, one .gone]) (congrArg (fun r => ([one (.row 23 1 false r), rowI L, one .gone, one .gone] : Objs)) (RE_ren X L _ 1 3 0 rfl))) ?_
        refine Weak.backT 2 (by simp) (by first | rfl | kernel_rfl) (by simp [Fam.lt, O.lt, D.lt, D.ltL, RE_lt X L _ 1 2 rfl]) (Nat.le_of_ble_eq_true rfl) tld (by kernel_rfl) (by kernel_rfl)
    · (refine goA ?_)
      refine Opt.of (get_map hget) ?_
      (refine goA ?_)
      refine Call.mk ((ints230 A[i] (by omega)).only _ rfl (by rintro d rfl; rfl)) ?_; rintro d os' ⟨rfl, rfl⟩
      (refine goA ?_)
      refine App.only false rfl rfl ?_
      (refine goA ?_)
      refine ⟨_, _, _, ?_, ⟨(i + 1, false), ?_, rfl, rfl, rfl⟩, ?_⟩
      · show A.length - (i + 1) < A.length - i; omega
      · exact ⟨hil, by simp; omega⟩
      · refine Weak.trans (Weak.shift 1 0 (by decide) (by simp) (Nat.le_of_ble_eq_true rfl) (Nat.le_of_ble_eq_true rfl) (fun j => by cases j <;> rfl) rfl) ?_
        refine Weak.backT 1 (by simp) ?_ (by kernel_rfl) (Nat.le_of_ble_eq_true rfl) tld (by kernel_rfl) (by kernel_rfl)
        exact congrArg (fun r => ([one (.row 23 1 true r)] : Objs)) (by rw [List.take_add_one, hget]; show (A.take i).map ints ++ [ints A[i]] = (A.take i ++ [A[i]]).map ints; rw [List.map_append]; rfl)
end Go.Proofs.Ytaplihoeephbeaa.V
end
section
namespace Go.Proofs.Ytaplihoeephbeaa.V
open Go Go.Proofs
set_option maxRecDepth 100000
set_option maxHeartbeats 40000000
theorem lists231x {A X Y : List (List Int)} {L : List Int} (hx : A = X ++ L :: Y) (hA : A.length ≤ 1000) (hl : ∀ M ∈ A, M.length ≤ 1000) : Spec Try.prog 231 [lists A] [] (fun d os' => d = .sl 0 0 1 0 A.length none ∧ os' = [one (.row 23 1 false (RE X L Y 1)), rowI L]) := by
  subst hx
  exact lists231e X L Y hA hl
theorem mapIdL_app (σ : Nat → Nat → Nat × Nat) : ∀ (a b : List D), D.mapIdL σ (a ++ b) = D.mapIdL σ a ++ D.mapIdL σ b
  | [], b => rfl
  | x :: a, b => by rw [List.cons_append, D.mapIdL, D.mapIdL, mapIdL_app σ a b, List.cons_append]
theorem RE_map (X : List (List Int)) (L : List Int) (Y : List (List Int)) (n : Nat) : D.mapIdL (lead [] n) (RE X L Y 1) = RE X L Y (n + 1) := by
  rw [RE, mapIdL_app, mapIdL_pure _ _ (pureL_rows _)]
  show _ ++ D.mapId (lead [] n) (.sl 1 0 1 0 L.length none) :: D.mapIdL (lead [] n) (Y.map ints) = _
  rw [mapIdL_pure _ _ (pureL_rows _)]
  rfl
theorem lists231o {A X Y : List (List Int)} {L : List Int} (hx : A = X ++ L :: Y) (hA : A.length ≤ 1000) (hl : ∀ M ∈ A, M.length ≤ 1000) (os : Objs) : Spec Try.prog 231 [lists A] os (fun d os' => d = .sl (os.length + 0) 0 1 0 A.length none ∧ os' = os ++ [one (.row 23 1 false (RE X L Y (os.length + 1))), rowI L]) := by
  refine ((lists231x hx hA hl).onto os rfl).mono ?_
  rintro d os' ⟨d1, os1, ⟨rfl, rfl⟩, rfl, rfl⟩
  refine ⟨rfl, ?_⟩
  exact congrArg (fun r => os ++ [one (.row 23 1 false r), rowI L]) (RE_map X L Y os.length)
theorem own218a {nm nw ns : Nat} {S : Lk} (h : LkL nm nw ns S) (hb : nm ≤ 1000 ∧ nw ≤ 1000 ∧ ns ≤ 1000) {X Y : List (List Int)} {L : List Int} (hx : S.lk = X ++ L :: Y) : Spec Try.prog 218 [lkV S] [] (fun d os' => d = .agg [.int .i64 0, .nils, .sl 2 0 1 0 S.ow.length none, ints S.co, .nils, .sl 3 0 1 0 S.lk.length none, lists S.wq, lists S.dq, .nils, .nils] ∧ os' = [one .gone, one .gone, rowI S.ow, one (.row 23 1 false (RE X L Y 4)), rowI L]) := by
  obtain ⟨h1, h2, h3, h4, h5⟩ := h.b0 hb
  have qlk := h.l1
  have qwq := h.l2
  have qdq := h.l3
  refine Spec.weak (post := fun d os' => d = .agg [.int .i64 0, .nils, .sl 2 0 1 0 S.ow.length none, ints S.co, .nils, .sl 3 0 1 0 S.lk.length none, lists S.wq, lists S.dq, .nils, .nils] ∧ ∃ a b : Fam, os' = [a, b, rowI S.ow, one (.row 23 1 false (RE X L Y 4)), rowI L]) ?_ ?_
  · refine Spec.by Try.func218 rfl (by decide) (by decide +kernel) rfl ?_
    (refine goA ?_)
    refine Call.mk ((own230 S.ow (by omega)).onto _ rfl) ?_
    rintro d os' ⟨d0, os0, ⟨rfl, rfl⟩, rfl, rfl⟩
    (refine goA ?_)
    refine Call.mk ((ints230 S.co (by omega)).only _ rfl (by rintro d rfl; rfl)) ?_; rintro d os' ⟨rfl, rfl⟩
    (refine goA ?_)
    refine Call.mk (lists231o hx (by omega) qlk _) ?_
    rintro d os' ⟨rfl, rfl⟩
    (refine goA ?_)
    refine Call.mk ((lists231 S.wq (by omega) qwq).only _ rfl (by rintro d rfl; rfl)) ?_; rintro d os' ⟨rfl, rfl⟩
    (refine goA ?_)
    refine Call.mk ((lists231 S.dq (by omega) qdq).only _ rfl (by rintro d rfl; rfl)) ?_; rintro d os' ⟨rfl, rfl⟩
    (refine goA ?_)
    refine Ret.mk [.cell 2 93] rfl ?_; (refine goA ?_)
    exact ⟨_, _, rfl⟩
  · rintro d os' ⟨rfl, a, b, rfl⟩
    exact ⟨_, _, Weak.frzK (fun i => Nat.blt i 2) [] trivial, rfl, rfl⟩
theorem own218b {nm nw ns : Nat} {S : Lk} (h : LkL nm nw ns S) (hb : nm ≤ 1000 ∧ nw ≤ 1000 ∧ ns ≤ 1000) {X Y : List (List Int)} {L : List Int} (hx : S.wq = X ++ L :: Y) : Spec Try.prog 218 [lkV S] [] (fun d os' => d = .agg [.int .i64 0, .nils, .sl 2 0 1 0 S.ow.length none, ints S.co, .nils, .sl 3 0 1 0 S.lk.length none, .sl 4 0 1 0 S.wq.length none, lists S.dq, .nils, .nils] ∧ os' = [one .gone, one .gone, rowI S.ow, rowC S.lk, one (.row 23 1 false (RE X L Y 5)), rowI L]) := by
  obtain ⟨h1, h2, h3, h4, h5⟩ := h.b0 hb
  have qlk := h.l1
  have qwq := h.l2
  have qdq := h.l3
  refine Spec.weak (post := fun d os' => d = .agg [.int .i64 0, .nils, .sl 2 0 1 0 S.ow.length none, ints S.co, .nils, .sl 3 0 1 0 S.lk.length none, .sl 4 0 1 0 S.wq.length none, lists S.dq, .nils, .nils] ∧ ∃ a b : Fam, os' = [a, b, rowI S.ow, rowC S.lk, one (.row 23 1 false (RE X L Y 5)), rowI L]) ?_ ?_
  · refine Spec.by Try.func218 rfl (by decide) (by decide +kernel) rfl ?_
    (refine goA ?_)
    refine Call.mk ((own230 S.ow (by omega)).onto _ rfl) ?_
    rintro d os' ⟨d0, os0, ⟨rfl, rfl⟩, rfl, rfl⟩
    (refine goA ?_)
    refine Call.mk ((ints230 S.co (by omega)).only _ rfl (by rintro d rfl; rfl)) ?_; rintro d os' ⟨rfl, rfl⟩
    (refine goA ?_)
    refine Call.mk ((lists231w S.lk (by omega) qlk).onto _ rfl) ?_
    rintro d os' ⟨d0, os0, ⟨rfl, rfl⟩, rfl, rfl⟩
    (refine goA ?_)
    refine Call.mk (lists231o hx (by omega) qwq _) ?_
    rintro d os' ⟨rfl, rfl⟩
    (refine goA ?_)
    refine Call.mk ((lists231 S.dq (by omega) qdq).only _ rfl (by rintro d rfl; rfl)) ?_; rintro d os' ⟨rfl, rfl⟩
    (refine goA ?_)
    refine Ret.mk [.cell 2 93] rfl ?_; (refine goA ?_)
    exact ⟨_, _, rfl⟩
  · rintro d os' ⟨rfl, a, b, rfl⟩
    exact ⟨_, _, Weak.frzK (fun i => Nat.blt i 2) [] trivial, rfl, rfl⟩
theorem own218f {nm nw ns : Nat} {S : Lk} (h : LkL nm nw ns S) (hb : nm ≤ 1000 ∧ nw ≤ 1000 ∧ ns ≤ 1000) : Spec Try.prog 218 [lkV S] [] (fun d os' => d = .agg [.int .i64 0, .nils, .sl 2 0 1 0 S.ow.length none, ints S.co, .nils, .sl 3 0 1 0 S.lk.length none, lists S.wq, lists S.dq, .nils, .nils] ∧ os' = [one .gone, one .gone, rowI S.ow, rowC S.lk]) := by
  obtain ⟨h1, h2, h3, h4, h5⟩ := h.b0 hb
  have qlk := h.l1
  have qwq := h.l2
  have qdq := h.l3
  refine Spec.weak (post := fun d os' => d = .agg [.int .i64 0, .nils, .sl 2 0 1 0 S.ow.length none, ints S.co, .nils, .sl 3 0 1 0 S.lk.length none, lists S.wq, lists S.dq, .nils, .nils] ∧ ∃ a b : Fam, os' = [a, b, rowI S.ow, rowC S.lk]) ?_ ?_
  · refine Spec.by Try.func218 rfl (by decide) (by decide +kernel) rfl ?_
    (refine goA ?_)
    refine Call.mk ((own230 S.ow (by omega)).onto _ rfl) ?_
    rintro d os' ⟨d0, os0, ⟨rfl, rfl⟩, rfl, rfl⟩
    (refine goA ?_)
    refine Call.mk ((ints230 S.co (by omega)).only _ rfl (by rintro d rfl; rfl)) ?_; rintro d os' ⟨rfl, rfl⟩
    (refine goA ?_)
    refine Call.mk ((lists231w S.lk (by omega) qlk).onto _ rfl) ?_
    rintro d os' ⟨d0, os0, ⟨rfl, rfl⟩, rfl, rfl⟩
    (refine goA ?_)
    refine Call.mk ((lists231 S.wq (by omega) qwq).only _ rfl (by rintro d rfl; rfl)) ?_; rintro d os' ⟨rfl, rfl⟩
    (refine goA ?_)
    refine Call.mk ((lists231 S.dq (by omega) qdq).only _ rfl (by rintro d rfl; rfl)) ?_; rintro d os' ⟨rfl, rfl⟩
    (refine goA ?_)
    refine Ret.mk [.cell 2 93] rfl ?_; (refine goA ?_)
    exact ⟨_, _, rfl⟩
  · rintro d os' ⟨rfl, a, b, rfl⟩
    exact ⟨_, _, Weak.frzK (fun i => Nat.blt i 2) [] trivial, rfl, rfl⟩
theorem own218c {nm nw ns : Nat} {S : Lk} (h : LkL nm nw ns S) (hb : nm ≤ 1000 ∧ nw ≤ 1000 ∧ ns ≤ 1000) {X Y : List (List Int)} {L : List Int} (hx : S.dq = X ++ L :: Y) : Spec Try.prog 218 [lkV S] [] (fun d os' => d = .agg [.int .i64 0, .nils, ints S.ow, .sl 2 0 1 0 S.co.length none, .nils, lists S.lk, lists S.wq, .sl 3 0 1 0 S.dq.length none, .nils, .nils] ∧ os' = [one .gone, one .gone, rowI S.co, one (.row 23 1 false (RE X L Y 4)), rowI L]) := by
  obtain ⟨h1, h2, h3, h4, h5⟩ := h.b0 hb
  have qlk := h.l1
  have qwq := h.l2
  have qdq := h.l3
  refine Spec.weak (post := fun d os' => d = .agg [.int .i64 0, .nils, ints S.ow, .sl 2 0 1 0 S.co.length none, .nils, lists S.lk, lists S.wq, .sl 3 0 1 0 S.dq.length none, .nils, .nils] ∧ ∃ a b : Fam, os' = [a, b, rowI S.co, one (.row 23 1 false (RE X L Y 4)), rowI L]) ?_ ?_
  · refine Spec.by Try.func218 rfl (by decide) (by decide +kernel) rfl ?_
    (refine goA ?_)
    refine Call.mk ((ints230 S.ow (by omega)).only _ rfl (by rintro d rfl; rfl)) ?_; rintro d os' ⟨rfl, rfl⟩
    (refine goA ?_)
    refine Call.mk ((own230 S.co (by omega)).onto _ rfl) ?_
    rintro d os' ⟨d0, os0, ⟨rfl, rfl⟩, rfl, rfl⟩
    (refine goA ?_)
    refine Call.mk ((lists231 S.lk (by omega) qlk).only _ rfl (by rintro d rfl; rfl)) ?_; rintro d os' ⟨rfl, rfl⟩
    (refine goA ?_)
    refine Call.mk ((lists231 S.wq (by omega) qwq).only _ rfl (by rintro d rfl; rfl)) ?_; rintro d os' ⟨rfl, rfl⟩
    (refine goA ?_)
    refine Call.mk (lists231o hx (by omega) qdq _) ?_
    rintro d os' ⟨rfl, rfl⟩
    (refine goA ?_)
    refine Ret.mk [.cell 2 93] rfl ?_; (refine goA ?_)
    exact ⟨_, _, rfl⟩
  · rintro d os' ⟨rfl, a, b, rfl⟩
    exact ⟨_, _, Weak.frzK (fun i => Nat.blt i 2) [] trivial, rfl, rfl⟩
theorem own218d {nm nw ns : Nat} {S : Lk} (h : LkL nm nw ns S) (hb : nm ≤ 1000 ∧ nw ≤ 1000 ∧ ns ≤ 1000) : Spec Try.prog 218 [lkV S] [] (fun d os' => d = .agg [.int .i64 0, .nils, ints S.ow, ints S.co, .nils, lists S.lk, .sl 2 0 1 0 S.wq.length none, lists S.dq, .nils, .nils] ∧ os' = [one .gone, one .gone, rowC S.wq]) := by
  obtain ⟨h1, h2, h3, h4, h5⟩ := h.b0 hb
  have qlk := h.l1
  have qwq := h.l2
  have qdq := h.l3
  refine Spec.weak (post := fun d os' => d = .agg [.int .i64 0, .nils, ints S.ow, ints S.co, .nils, lists S.lk, .sl 2 0 1 0 S.wq.length none, lists S.dq, .nils, .nils] ∧ ∃ a b : Fam, os' = [a, b, rowC S.wq]) ?_ ?_
  · refine Spec.by Try.func218 rfl (by decide) (by decide +kernel) rfl ?_
    (refine goA ?_)
    refine Call.mk ((ints230 S.ow (by omega)).only _ rfl (by rintro d rfl; rfl)) ?_; rintro d os' ⟨rfl, rfl⟩
    (refine goA ?_)
    refine Call.mk ((ints230 S.co (by omega)).only _ rfl (by rintro d rfl; rfl)) ?_; rintro d os' ⟨rfl, rfl⟩
    (refine goA ?_)
    refine Call.mk ((lists231 S.lk (by omega) qlk).only _ rfl (by rintro d rfl; rfl)) ?_; rintro d os' ⟨rfl, rfl⟩
    (refine goA ?_)
    refine Call.mk ((lists231w S.wq (by omega) qwq).onto _ rfl) ?_
    rintro d os' ⟨d0, os0, ⟨rfl, rfl⟩, rfl, rfl⟩
    (refine goA ?_)
    refine Call.mk ((lists231 S.dq (by omega) qdq).only _ rfl (by rintro d rfl; rfl)) ?_; rintro d os' ⟨rfl, rfl⟩
    (refine goA ?_)
    refine Ret.mk [.cell 2 93] rfl ?_; (refine goA ?_)
    exact ⟨_, _, rfl⟩
  · rintro d os' ⟨rfl, a, b, rfl⟩
    exact ⟨_, _, Weak.frzK (fun i => Nat.blt i 2) [] trivial, rfl, rfl⟩
theorem own218e {nm nw ns : Nat} {S : Lk} (h : LkL nm nw ns S) (hb : nm ≤ 1000 ∧ nw ≤ 1000 ∧ ns ≤ 1000) : Spec Try.prog 218 [lkV S] [] (fun d os' => d = .agg [.int .i64 0, .nils, ints S.ow, .sl 2 0 1 0 S.co.length none, .nils, lists S.lk, lists S.wq, .sl 3 0 1 0 S.dq.length none, .nils, .nils] ∧ os' = [one .gone, one .gone, rowI S.co, rowC S.dq]) := by
  obtain ⟨h1, h2, h3, h4, h5⟩ := h.b0 hb
  have qlk := h.l1
  have qwq := h.l2
  have qdq := h.l3
  refine Spec.weak (post := fun d os' => d = .agg [.int .i64 0, .nils, ints S.ow, .sl 2 0 1 0 S.co.length none, .nils, lists S.lk, lists S.wq, .sl 3 0 1 0 S.dq.length none, .nils, .nils] ∧ ∃ a b : Fam, os' = [a, b, rowI S.co, rowC S.dq]) ?_ ?_
  · refine Spec.by Try.func218 rfl (by decide) (by decide +kernel) rfl ?_
    (refine goA ?_)
    refine Call.mk ((ints230 S.ow (by omega)).only _ rfl (by rintro d rfl; rfl)) ?_; rintro d os' ⟨rfl, rfl⟩
    (refine goA ?_)
    refine Call.mk ((own230 S.co (by omega)).onto _ rfl) ?_
    rintro d os' ⟨d0, os0, ⟨rfl, rfl⟩, rfl, rfl⟩
    (refine goA ?_)
    refine Call.mk ((lists231 S.lk (by omega) qlk).only _ rfl (by rintro d rfl; rfl)) ?_; rintro d os' ⟨rfl, rfl⟩
    (refine goA ?_)
    refine Call.mk ((lists231 S.wq (by omega) qwq).only _ rfl (by rintro d rfl; rfl)) ?_; rintro d os' ⟨rfl, rfl⟩
    (refine goA ?_)
    refine Call.mk ((lists231w S.dq (by omega) qdq).onto _ rfl) ?_
    rintro d os' ⟨d0, os0, ⟨rfl, rfl⟩, rfl, rfl⟩
    (refine goA ?_)
    refine Ret.mk [.cell 2 93] rfl ?_; (refine goA ?_)
    exact ⟨_, _, rfl⟩
  · rintro d os' ⟨rfl, a, b, rfl⟩
    exact ⟨_, _, Weak.frzK (fun i => Nat.blt i 2) [] trivial, rfl, rfl⟩
end Go.Proofs.Ytaplihoeephbeaa.V
end
section
namespace Go.Proofs.Ytaplihoeephbeaa.V
open Go Go.Proofs
set_option maxRecDepth 100000
set_option maxHeartbeats 40000000
theorem RE_mapq (X : List (List Int)) (L : List Int) (Y : List (List Int)) (n q : Nat) : D.mapIdL (lead [] n) (RE X L Y q) = RE X L Y (n + q) := by
  rw [RE, mapIdL_app, mapIdL_pure _ _ (pureL_rows _)]
  show _ ++ D.mapId (lead [] n) (.sl q 0 1 0 L.length none) :: D.mapIdL (lead [] n) (Y.map ints) = _
  rw [mapIdL_pure _ _ (pureL_rows _)]
  rfl
theorem split_at (A : List (List Int)) (m : Nat) (h : m < A.length) : A = A.take m ++ qAt A m :: A.drop (m + 1) ∧ (A.take m).length = m := by
  refine ⟨?_, by rw [List.length_take]; omega⟩
  rw [qAt, List.getD_eq_getElem?_getD, List.getElem?_eq_getElem h]
  show A = A.take m ++ A[m] :: A.drop (m + 1)
  rw [← List.drop_eq_getElem_cons h, List.take_append_drop]
theorem own218ao {nm nw ns : Nat} {S : Lk} (h : LkL nm nw ns S) (hb : nm ≤ 1000 ∧ nw ≤ 1000 ∧ ns ≤ 1000) {X Y : List (List Int)} {L : List Int} (hx : S.lk = X ++ L :: Y) (os : Objs) : Spec Try.prog 218 [lkV S] os (fun d os' => d = .agg [.int .i64 0, .nils, .sl (os.length + 2) 0 1 0 S.ow.length none, ints S.co, .nils, .sl (os.length + 3) 0 1 0 S.lk.length none, lists S.wq, lists S.dq, .nils, .nils] ∧ os' = os ++ [one .gone, one .gone, rowI S.ow, one (.row 23 1 false (RE X L Y (os.length + 4))), rowI L]) := by
  refine ((own218a h hb hx).onto os rfl).mono ?_
  rintro d os' ⟨d1, os1, ⟨rfl, rfl⟩, rfl, rfl⟩
  exact ⟨rfl, congrArg (fun r => os ++ [one .gone, one .gone, rowI S.ow, one (.row 23 1 false r), rowI L]) (RE_mapq X L Y os.length 4)⟩
theorem own218bo {nm nw ns : Nat} {S : Lk} (h : LkL nm nw ns S) (hb : nm ≤ 1000 ∧ nw ≤ 1000 ∧ ns ≤ 1000) {X Y : List (List Int)} {L : List Int} (hx : S.wq = X ++ L :: Y) (os : Objs) : Spec Try.prog 218 [lkV S] os (fun d os' => d = .agg [.int .i64 0, .nils, .sl (os.length + 2) 0 1 0 S.ow.length none, ints S.co, .nils, .sl (os.length + 3) 0 1 0 S.lk.length none, .sl (os.length + 4) 0 1 0 S.wq.length none, lists S.dq, .nils, .nils] ∧ os' = os ++ [one .gone, one .gone, rowI S.ow, rowC S.lk, one (.row 23 1 false (RE X L Y (os.length + 5))), rowI L]) := by
  refine ((own218b h hb hx).onto os rfl).mono ?_
  rintro d os' ⟨d1, os1, ⟨rfl, rfl⟩, rfl, rfl⟩
  exact ⟨rfl, congrArg (fun r => os ++ [one .gone, one .gone, rowI S.ow, rowC S.lk, one (.row 23 1 false r), rowI L]) (RE_mapq X L Y os.length 5)⟩
theorem own218fo {nm nw ns : Nat} {S : Lk} (h : LkL nm nw ns S) (hb : nm ≤ 1000 ∧ nw ≤ 1000 ∧ ns ≤ 1000) (os : Objs) : Spec Try.prog 218 [lkV S] os (fun d os' => d = .agg [.int .i64 0, .nils, .sl (os.length + 2) 0 1 0 S.ow.length none, ints S.co, .nils, .sl (os.length + 3) 0 1 0 S.lk.length none, lists S.wq, lists S.dq, .nils, .nils] ∧ os' = os ++ [one .gone, one .gone, rowI S.ow, rowC S.lk]) := by
  refine ((own218f h hb).onto os rfl).mono ?_
  rintro d os' ⟨d1, os1, ⟨rfl, rfl⟩, rfl, rfl⟩
  exact ⟨rfl, rfl⟩
theorem own218co {nm nw ns : Nat} {S : Lk} (h : LkL nm nw ns S) (hb : nm ≤ 1000 ∧ nw ≤ 1000 ∧ ns ≤ 1000) {X Y : List (List Int)} {L : List Int} (hx : S.dq = X ++ L :: Y) (os : Objs) : Spec Try.prog 218 [lkV S] os (fun d os' => d = .agg [.int .i64 0, .nils, ints S.ow, .sl (os.length + 2) 0 1 0 S.co.length none, .nils, lists S.lk, lists S.wq, .sl (os.length + 3) 0 1 0 S.dq.length none, .nils, .nils] ∧ os' = os ++ [one .gone, one .gone, rowI S.co, one (.row 23 1 false (RE X L Y (os.length + 4))), rowI L]) := by
  refine ((own218c h hb hx).onto os rfl).mono ?_
  rintro d os' ⟨d1, os1, ⟨rfl, rfl⟩, rfl, rfl⟩
  exact ⟨rfl, congrArg (fun r => os ++ [one .gone, one .gone, rowI S.co, one (.row 23 1 false r), rowI L]) (RE_mapq X L Y os.length 4)⟩
theorem own218do {nm nw ns : Nat} {S : Lk} (h : LkL nm nw ns S) (hb : nm ≤ 1000 ∧ nw ≤ 1000 ∧ ns ≤ 1000) (os : Objs) : Spec Try.prog 218 [lkV S] os (fun d os' => d = .agg [.int .i64 0, .nils, ints S.ow, ints S.co, .nils, lists S.lk, .sl (os.length + 2) 0 1 0 S.wq.length none, lists S.dq, .nils, .nils] ∧ os' = os ++ [one .gone, one .gone, rowC S.wq]) := by
  refine ((own218d h hb).onto os rfl).mono ?_
  rintro d os' ⟨d1, os1, ⟨rfl, rfl⟩, rfl, rfl⟩
  exact ⟨rfl, rfl⟩
theorem own218eo {nm nw ns : Nat} {S : Lk} (h : LkL nm nw ns S) (hb : nm ≤ 1000 ∧ nw ≤ 1000 ∧ ns ≤ 1000) (os : Objs) : Spec Try.prog 218 [lkV S] os (fun d os' => d = .agg [.int .i64 0, .nils, ints S.ow, .sl (os.length + 2) 0 1 0 S.co.length none, .nils, lists S.lk, lists S.wq, .sl (os.length + 3) 0 1 0 S.dq.length none, .nils, .nils] ∧ os' = os ++ [one .gone, one .gone, rowI S.co, rowC S.dq]) := by
  refine ((own218e h hb).onto os rfl).mono ?_
  rintro d os' ⟨d1, os1, ⟨rfl, rfl⟩, rfl, rfl⟩
  exact ⟨rfl, rfl⟩
theorem RE_at {X : List (List Int)} {L : List Int} {Y : List (List Int)} {q m : Nat} (h : X.length = m) : (RE X L Y q)[0 + m]? = some (.sl q 0 1 0 L.length none) := by
  subst h
  rw [Nat.zero_add]
  exact RE_get X L Y q
theorem RE_view {os : Objs} {X : List (List Int)} {L : List Int} {Y : List (List Int)} {q : Nat} {pr : Bool} (hat : os.at q 0 = .row 3 1 pr (L.map (D.int .i64))) : ViewL allF os (RE X L Y q) ((X ++ L :: Y).map ints) := by
  rw [RE, List.map_append, List.map_cons]
  exact ViewL.append (ViewL.same _) (.cons (View.slAll rfl hat (List.length_map ..) (by simp) (ViewL.same _) (pureL_map (fun _ => rfl) _)) (ViewL.same _))
theorem set_split {X : List (List Int)} {L : List Int} {Y : List (List Int)} {A : List (List Int)} {m : Nat} (hx : A = X ++ L :: Y) (hX : X.length = m) (M : List Int) : A.set m M = X ++ M :: Y := by
  subst hx hX
  rw [List.set_append_right _ _ (Nat.le_refl _), Nat.sub_self]; rfl
theorem RE_setm {X : List (List Int)} {L : List Int} {Y : List (List Int)} {q r m : Nat} (h : X.length = m) (M : List Int) : (RE X L Y q).set (0 + m) (.sl r 0 1 0 M.length none) = RE X M Y r := by
  subst h
  rw [Nat.zero_add]
  exact RE_set X L Y q r M
theorem RE_setn {X : List (List Int)} {L : List Int} {Y : List (List Int)} {q r m n : Nat} (h : X.length = m) (M : List Int) (hn : n = M.length) : O.row 23 1 false ((RE X L Y q).set (0 + m) (.sl r 0 1 0 n none)) = O.row 23 1 false (RE X M Y r) := by
  subst hn
  rw [RE_setm h]
theorem map_snocO (L : List Int) (t : Int) : O.row 3 1 true (L.map (D.int .i64) ++ [.int .i64 t]) = O.row 3 1 true ((L ++ [t]).map (D.int .i64)) := by
  rw [List.map_append]; rfl
theorem RE_lenA {A X : List (List Int)} {L M : List Int} {Y : List (List Int)} {q : Nat} (hx : A = X ++ L :: Y) : (RE X M Y q).length = A.length := by
  rw [RE_len, hx]; simp
theorem ow_setn {l : List Int} {m : Nat} {t : Int} : O.row 3 1 true ((l.map (D.int .i64)).set (0 + m) (.int .i64 t)) = O.row 3 1 true ((l.set m t).map (D.int .i64)) := by
  rw [Nat.zero_add, List.map_set]
theorem lock213 {nm nw ns : Nat} {S : Lk} (h : LkL nm nw ns S) (hn : LkN S) (hb : nm ≤ 1000 ∧ nw ≤ 1000 ∧ ns ≤ 1000) (m : Nat) (hm : m < nm) (t : Int) : Spec Try.prog 213 [lkV S, .int .i64 m, .int .i64 t] [] (fun d os' => d = .tup [lkV (lockS S m t).1, .bool (lockS S m t).2] ∧ os' = []) := by
  obtain ⟨h1, h2, h3, h4, h5⟩ := h.b0 hb
  have hmo : m < S.ow.length := by have := h.ow; omega
  have hml : m < S.lk.length := by have := h.lk; omega
  have how := hn.ow _ (getD_mem hmo)
  obtain ⟨hx, hX⟩ := split_at S.lk m hml
  have hq := h.l1 _ (qAt_mem hml)
  obtain ⟨X, hXe⟩ : ∃ X, S.lk.take m = X := ⟨_, rfl⟩
  obtain ⟨L, hLe⟩ : ∃ L, qAt S.lk m = L := ⟨_, rfl⟩
  obtain ⟨Y, hYe⟩ : ∃ Y, S.lk.drop (m + 1) = Y := ⟨_, rfl⟩
  rw [hXe] at hx hX
  rw [hLe] at hx hq
  rw [hYe] at hx
  have hom : (S.ow.map (D.int .i64)).length = S.ow.length := List.length_map ..
  have hLm : (L.map (D.int .i64)).length = L.length := List.length_map ..
  refine Spec.frz (post' := fun d => d = .tup [lkV (lockS S m t).1, .bool (lockS S m t).2]) ?_
  unfold lockS
  rw [hLe]
  refine Spec.by Try.func213 rfl (by decide) (by decide +kernel) rfl ?_
  (refine goA ?_)
  refine Call.mk (own218ao h hb hx _) ?_
  rintro d os' ⟨rfl, rfl⟩
  (refine goA ?_)
  refine Opt.of (rowI_at S.ow m hmo) ?_
  (refine goA ?_)
  refine Br.dec (fun h0 => ?_) (fun h0 => ?_)
  · rw [if_pos (by omega)]
    (refine goA ?_)
    refine Opt.of (RE_at hX) ?_
    (refine goA ?_)
    refine App.only false rfl rfl ?_
    (refine goA ?_)
    refine And.intro ?_ ?_
    · conv => whnf
      refine Opt.of (RE_at hX) ?_
      conv => whnf
      refine And.intro rfl ?_
      conv => whnf
      refine Opt.mk ?_
      conv => whnf
      first | done | exact rfl | exact ⟨rfl, rfl⟩ | trivial
    (refine goA ?_)
    refine Opt.of (RE_at hX) ?_
    (refine goA ?_)
    refine Ret.mk [.cell 6 93, .tmp 7] rfl ?_; (refine goA ?_)
    refine ⟨_, View.tup (.cons (View.agg (.cons (.same _) (.cons (.same _) (.cons (View.slAll (f := false) rfl rfl hom (by simp) (ViewL.same _) (pureL_map (fun _ => rfl) _)) (.cons (.same _) (.cons (.same _) (.cons (View.slAll (f := false) rfl (RE_setn hX (L ++ [t]) (by simp [setAll])) (RE_lenA hx) (by simp) (RE_view (pr := true) (map_snocO L t)) (pureL_rows _)) (.cons (.same _) (.cons (.same _) (.cons (.same _) (.cons (.same _) .nil))))))))))) (.cons (.same _) .nil)), rfl, ?_⟩
    rw [set_split hx hX]
  · rw [if_neg (by omega)]
    (refine goA ?_)
    refine Opt.of (rowI_at S.ow m hmo) ?_
    (refine goA ?_)
    refine Ret.mk [.cell 6 93, .tmp 7] rfl ?_; (refine goA ?_)
    refine ⟨_, View.tup (.cons (View.agg (.cons (.same _) (.cons (.same _) (.cons (View.slAll (f := false) rfl ow_setn (by simp) (by simp) (ViewL.same _) (pureL_map (fun _ => rfl) _)) (.cons (.same _) (.cons (.same _) (.cons (View.slAll (f := false) rfl rfl (RE_lenA hx) (by simp) (RE_view (pr := true) rfl) (pureL_rows _)) (.cons (.same _) (.cons (.same _) (.cons (.same _) (.cons (.same _) .nil))))))))))) (.cons (.same _) .nil)), rfl, ?_⟩
    rw [← hx]; rfl
end Go.Proofs.Ytaplihoeephbeaa.V
end
section
namespace Go.Proofs.Ytaplihoeephbeaa.V
open Go Go.Proofs
set_option maxRecDepth 100000
set_option maxHeartbeats 40000000
theorem lstI_at (l : List Int) (m : Nat) (h : m < l.length) : (l.map (D.int .i64))[m]? = some (.int .i64 (l.getD m 0)) := by
  have := rowI_at l m h
  rwa [Nat.zero_add] at this
theorem lstC_at (l : List (List Int)) (m : Nat) (h : m < l.length) : (l.map ints)[m]? = some (ints (qAt l m)) := by
  have := rowC_at l m h
  rwa [Nat.zero_add] at this
theorem setD_at (l : List Int) (m : Nat) (h : m < l.length) (x : D) : ((l.map (D.int .i64)).set (0 + m) x)[0 + m]? = some x := by
  rw [Nat.zero_add]
  exact List.getElem?_set_self (by rw [List.length_map]; exact h)
theorem setD2_at (l : List Int) (m : Nat) (h : m < l.length) (x y : D) : (((l.map (D.int .i64)).set (0 + m) x).set (0 + m) y)[0 + m]? = some y := by
  rw [Nat.zero_add]
  exact List.getElem?_set_self (by rw [List.length_set, List.length_map]; exact h)
theorem ow_set2 {l : List Int} {m : Nat} {t : Int} {x : D} : O.row 3 1 true (((l.map (D.int .i64)).set (0 + m) x).set (0 + m) (.int .i64 t)) = O.row 3 1 true ((l.set m t).map (D.int .i64)) := by
  rw [Nat.zero_add, List.set_set, List.map_set]
theorem lk_setn {A : List (List Int)} {m : Nat} {M : List Int} : O.row 23 1 true ((A.map ints).set (0 + m) (ints M)) = O.row 23 1 true ((A.set m M).map ints) := by
  rw [Nat.zero_add, List.map_set]
theorem down172 {nm nw ns : Nat} {S : Lk} (h : LkL nm nw ns S) (hn : LkN S) (hb : nm ≤ 1000 ∧ nw ≤ 1000 ∧ ns ≤ 1000) (m : Nat) (hm : m < ns) (t : Int) : Spec Try.prog 172 [lkV S, .int .i64 m, .int .i64 t] [] (fun d os' => d = .tup [lkV (downS S m t).1, .bool (downS S m t).2] ∧ os' = []) := by
  obtain ⟨h1, h2, h3, h4, h5⟩ := h.b0 hb
  have hmo : m < S.co.length := by have := h.co; omega
  have hml : m < S.dq.length := by have := h.dq; omega
  have how := hn.co _ (getD_mem hmo)
  obtain ⟨hx, hX⟩ := split_at S.dq m hml
  have hq := h.l3 _ (qAt_mem hml)
  obtain ⟨X, hXe⟩ : ∃ X, S.dq.take m = X := ⟨_, rfl⟩
  obtain ⟨L, hLe⟩ : ∃ L, qAt S.dq m = L := ⟨_, rfl⟩
  obtain ⟨Y, hYe⟩ : ∃ Y, S.dq.drop (m + 1) = Y := ⟨_, rfl⟩
  rw [hXe] at hx hX
  rw [hLe] at hx hq
  rw [hYe] at hx
  have hom : (S.co.map (D.int .i64)).length = S.co.length := List.length_map ..
  have hLm : (L.map (D.int .i64)).length = L.length := List.length_map ..
  refine Spec.frz (post' := fun d => d = .tup [lkV (downS S m t).1, .bool (downS S m t).2]) ?_
  unfold downS
  rw [hLe]
  refine Spec.by Try.func172 rfl (by decide) (by decide +kernel) rfl ?_
  (refine goA ?_)
  refine Call.mk (own218co h hb hx _) ?_
  rintro d os' ⟨rfl, rfl⟩
  (refine goA ?_)
  refine Opt.of (rowI_at S.co m hmo) ?_
  (refine goA ?_)
  refine Br.dec (fun h0 => ?_) (fun h0 => ?_)
  · rw [if_pos (by omega)]
    (refine goA ?_)
    refine Opt.of (RE_at hX) ?_
    (refine goA ?_)
    refine App.only false rfl rfl ?_
    (refine goA ?_)
    refine And.intro ?_ ?_
    · conv => whnf
      refine Opt.of (RE_at hX) ?_
      conv => whnf
      refine And.intro rfl ?_
      conv => whnf
      refine Opt.mk ?_
      conv => whnf
      first | done | exact rfl | exact ⟨rfl, rfl⟩ | trivial
    (refine goA ?_)
    refine Opt.of (RE_at hX) ?_
    (refine goA ?_)
    refine Ret.mk [.cell 6 93, .tmp 7] rfl ?_; (refine goA ?_)
    refine ⟨_, View.tup (.cons (View.agg (.cons (.same _) (.cons (.same _) (.cons (.same _) (.cons (View.slAll (f := false) rfl rfl hom (by simp) (ViewL.same _) (pureL_map (fun _ => rfl) _)) (.cons (.same _) (.cons (.same _) (.cons (.same _) (.cons (View.slAll (f := false) rfl (RE_setn hX (L ++ [t]) (by simp [setAll])) (RE_lenA hx) (by simp) (RE_view (pr := true) (map_snocO L t)) (pureL_rows _)) (.cons (.same _) (.cons (.same _) .nil))))))))))) (.cons (.same _) .nil)), rfl, ?_⟩
    rw [set_split hx hX]
  · rw [if_neg (by omega)]
    (refine goA ?_)
    refine Opt.of (rowI_at S.co m hmo) ?_
    (refine goA ?_)
    refine Opt.of (rowI_at S.co m hmo) ?_
    (refine goA ?_)
    refine Ret.mk [.cell 6 93, .tmp 7] rfl ?_; (refine goA ?_)
    refine ⟨_, View.tup (.cons (View.agg (.cons (.same _) (.cons (.same _) (.cons (.same _) (.cons (View.slAll (f := false) rfl ow_setn (by simp) (by simp) (ViewL.same _) (pureL_map (fun _ => rfl) _)) (.cons (.same _) (.cons (.same _) (.cons (.same _) (.cons (View.slAll (f := false) rfl rfl (RE_lenA hx) (by simp) (RE_view (pr := true) rfl) (pureL_rows _)) (.cons (.same _) (.cons (.same _) .nil))))))))))) (.cons (.same _) .nil)), rfl, ?_⟩
    rw [← hx]; rfl
theorem unlock214 {nm nw ns : Nat} {S : Lk} (h : LkL nm nw ns S) (hb : nm ≤ 1000 ∧ nw ≤ 1000 ∧ ns ≤ 1000) (m : Nat) (hm : m < nm) (t : Int) : Spec Try.prog 214 [lkV S, .int .i64 m, .int .i64 t] [] (fun d os' => d = .tup [lkV (unlockS S m t).1, .int .i64 (unlockS S m t).2.1, .int .i64 (unlockS S m t).2.2] ∧ os' = []) := by
  obtain ⟨h1, h2, h3, h4, h5⟩ := h.b0 hb
  have hmo : m < S.ow.length := by have := h.ow; omega
  have hml : m < S.lk.length := by have := h.lk; omega
  have hq := h.l1 _ (qAt_mem hml)
  have hrc := rowC_at S.lk m hml
  obtain ⟨L, hLe⟩ : ∃ L, qAt S.lk m = L := ⟨_, rfl⟩
  have hom : (S.ow.map (D.int .i64)).length = S.ow.length := List.length_map ..
  have hlm : (S.lk.map ints).length = S.lk.length := List.length_map ..
  refine Spec.frz (post' := fun d => d = .tup [lkV (unlockS S m t).1, .int .i64 (unlockS S m t).2.1, .int .i64 (unlockS S m t).2.2]) ?_
  unfold unlockS handS
  have hset : S.lk.set m (qAt S.lk m) = S.lk := set_qAt S.lk m hml
  rw [hLe] at hq hrc hset ⊢
  refine Spec.by Try.func214 rfl (by decide) (by decide +kernel) rfl ?_
  (refine goA ?_)
  refine Opt.of (lstI_at S.ow m hmo) ?_
  (refine goA ?_)
  by_cases h0 : S.ow.getD m 0 = t
  · have b1 : (!decide (S.ow.getD m 0 = t)) = false := by rw [decide_eq_true h0]; rfl
    rw [if_neg (by omega)]
    (refine goA ?_)
    refine Call.mk (own218fo h hb _) ?_
    rintro d os' ⟨rfl, rfl⟩
    (refine goA ?_)
    refine Opt.of (rowI_at S.ow m hmo) ?_
    (refine goA ?_)
    refine Opt.of hrc ?_
    cases L with
    | nil =>
      (refine goA ?_)
      refine Opt.of (setD_at S.ow m hmo _) ?_
      (refine goA ?_)
      refine And.intro ?_ ?_
      · conv => whnf
        refine Opt.of (setD_at S.ow m hmo _) ?_
        (conv => whnf)
        first | done | exact rfl | (refine Opt.mk ?_; (conv => whnf); done) | (refine Opt.mk ?_; (conv => whnf); exact rfl) | (refine And.intro rfl ?_; (conv => whnf); refine Opt.mk ?_; (conv => whnf); done) | (refine And.intro rfl ?_; (conv => whnf); refine Opt.mk ?_; (conv => whnf); exact rfl)
      (refine goA ?_)
      refine Ret.mk [.cell 6 93, .tmp 7, .tmp 8] rfl ?_; (refine goA ?_)
      refine ⟨_, View.tup (.cons (View.agg (.cons (.same _) (.cons (.same _) (.cons (View.slAll (f := false) rfl ow_setn (by simp) (by simp) (ViewL.same _) (pureL_map (fun _ => rfl) _)) (.cons (.same _) (.cons (.same _) (.cons (View.slAll (f := false) rfl rfl hlm (by simp) (ViewL.same _) (pureL_rows _)) (.cons (.same _) (.cons (.same _) (.cons (.same _) (.cons (.same _) .nil))))))))))) (.cons (.same _) (.cons (.same _) .nil))), rfl, ?_⟩
      rw [show S.lk.set m ([] : List Int).tail = S.lk from hset]
      rfl
    | cons v q =>
      have hvm : ((v :: q).map (D.int .i64)).length = q.length + 1 := by simp
      (refine goA ?_)
      refine Opt.of hrc ?_
      (refine goA ?_)
      refine Opt.of (setD_at S.ow m hmo _) ?_
      (refine goA ?_)
      refine Opt.of hrc ?_
      (refine goA ?_)
      refine Nm.mk (q.map (D.int .i64)) (by rw [Int.toNat_natCast, List.take_length]; rfl) ?_
      (refine goA ?_)
      refine Opt.of (rowC_at S.lk m hml) ?_
      (refine goA ?_)
      refine Opt.of (setD2_at S.ow m hmo _ _) ?_
      (refine goA ?_)
      refine And.intro ?_ ?_
      · conv => whnf
        refine Opt.of (setD2_at S.ow m hmo _ _) ?_
        (conv => whnf)
        first | done | exact rfl | (refine Opt.mk ?_; (conv => whnf); done) | (refine Opt.mk ?_; (conv => whnf); exact rfl) | (refine And.intro rfl ?_; (conv => whnf); refine Opt.mk ?_; (conv => whnf); done) | (refine And.intro rfl ?_; (conv => whnf); refine Opt.mk ?_; (conv => whnf); exact rfl)
      (refine goA ?_)
      refine Ret.mk [.cell 6 93, .tmp 7, .tmp 8] rfl ?_; (refine goA ?_)
      refine ⟨_, View.tup (.cons (View.agg (.cons (.same _) (.cons (.same _) (.cons (View.slAll (f := false) rfl ow_set2 (by simp) (by simp) (ViewL.same _) (pureL_map (fun _ => rfl) _)) (.cons (.same _) (.cons (.same _) (.cons (View.slAll (f := false) rfl lk_setn (by simp) (by simp) (ViewL.same _) (pureL_rows _)) (.cons (.same _) (.cons (.same _) (.cons (.same _) (.cons (.same _) .nil))))))))))) (.cons (.same _) (.cons (.same _) .nil))), rfl, ?_⟩
      rfl
  · have b1 : (!decide (S.ow.getD m 0 = t)) = true := by rw [decide_eq_false h0]; rfl
    rw [if_pos (by omega)]
    (refine goA ?_)
    refine Ret.mk [.cell 6 93, .tmp 7, .tmp 8] rfl ?_
    exact ⟨_, View.tup (.cons (.same _) (.cons (.same _) (.cons (.same _) .nil))), rfl, rfl⟩
end Go.Proofs.Ytaplihoeephbeaa.V
end
section
namespace Go.Proofs.Ytaplihoeephbeaa.V
open Go Go.Proofs
set_option maxRecDepth 100000
set_option maxHeartbeats 40000000
theorem up173 {nm nw ns : Nat} {S : Lk} (h : LkL nm nw ns S) (hn : LkN S) (hb : nm ≤ 1000 ∧ nw ≤ 1000 ∧ ns ≤ 1000) (m : Nat) (hm : m < ns) : Spec Try.prog 173 [lkV S, .int .i64 m] [] (fun d os' => d = .tup [lkV (upS S m).1, .int .i64 (upS S m).2] ∧ os' = []) := by
  obtain ⟨h1, h2, h3, h4, h5⟩ := h.b0 hb
  have hmo : m < S.co.length := by have := h.co; omega
  have hml : m < S.dq.length := by have := h.dq; omega
  have how := hn.co _ (getD_mem hmo)
  have hq := h.l3 _ (qAt_mem hml)
  have hrc := rowC_at S.dq m hml
  obtain ⟨L, hLe⟩ : ∃ L, qAt S.dq m = L := ⟨_, rfl⟩
  have hom : (S.co.map (D.int .i64)).length = S.co.length := List.length_map ..
  have hlm : (S.dq.map ints).length = S.dq.length := List.length_map ..
  refine Spec.frz (post' := fun d => d = .tup [lkV (upS S m).1, .int .i64 (upS S m).2]) ?_
  unfold upS
  rw [hLe] at hq hrc ⊢
  refine Spec.by Try.func173 rfl (by decide) (by decide +kernel) rfl ?_
  (refine goA ?_)
  refine Call.mk (own218eo h hb _) ?_
  rintro d os' ⟨rfl, rfl⟩
  (refine goA ?_)
  refine Opt.of hrc ?_
  cases L with
  | nil =>
    dsimp only
    (refine goA ?_)
    refine Opt.of (rowI_at S.co m hmo) ?_
    (refine goA ?_)
    refine Br.dec (fun h0 => ?_) (fun h0 => ?_)
    · rw [if_pos h0]
      (refine goA ?_)
      refine Opt.of (rowI_at S.co m hmo) ?_
      (refine goA ?_)
      refine Opt.of (rowI_at S.co m hmo) ?_
      (refine goA ?_)
      refine Ret.mk [.cell 4 93, .tmp 5] rfl ?_; (refine goA ?_)
      refine ⟨_, View.tup (.cons (View.agg (.cons (.same _) (.cons (.same _) (.cons (.same _) (.cons (View.slAll (f := false) rfl ow_setn (by simp) (by simp) (ViewL.same _) (pureL_map (fun _ => rfl) _)) (.cons (.same _) (.cons (.same _) (.cons (.same _) (.cons (View.slAll (f := false) rfl rfl (by simp) (by simp) (ViewL.same _) (pureL_rows _)) (.cons (.same _) (.cons (.same _) .nil))))))))))) (.cons (.same _) .nil)), rfl, ?_⟩
      rfl
    · rw [if_neg h0]
      (refine goA ?_)
      refine Ret.mk [.cell 4 93, .tmp 5] rfl ?_; (refine goA ?_)
      refine ⟨_, View.tup (.cons (View.agg (.cons (.same _) (.cons (.same _) (.cons (.same _) (.cons (View.slAll (f := false) rfl rfl (by simp) (by simp) (ViewL.same _) (pureL_map (fun _ => rfl) _)) (.cons (.same _) (.cons (.same _) (.cons (.same _) (.cons (View.slAll (f := false) rfl rfl (by simp) (by simp) (ViewL.same _) (pureL_rows _)) (.cons (.same _) (.cons (.same _) .nil))))))))))) (.cons (.same _) .nil)), rfl, ?_⟩
      rfl
  | cons v q =>
    have hvm : ((v :: q).map (D.int .i64)).length = q.length + 1 := by simp
    dsimp only
    (refine goA ?_)
    refine Opt.of hrc ?_
    (refine goA ?_)
    refine Opt.of hrc ?_
    (refine goA ?_)
    refine Nm.mk (q.map (D.int .i64)) (by rw [Int.toNat_natCast, List.take_length]; rfl) ?_
    (refine goA ?_)
    refine Opt.of (rowC_at S.dq m hml) ?_
    (refine goA ?_)
    refine Ret.mk [.cell 4 93, .tmp 5] rfl ?_; (refine goA ?_)
    refine ⟨_, View.tup (.cons (View.agg (.cons (.same _) (.cons (.same _) (.cons (.same _) (.cons (View.slAll (f := false) rfl rfl (by simp) (by simp) (ViewL.same _) (pureL_map (fun _ => rfl) _)) (.cons (.same _) (.cons (.same _) (.cons (.same _) (.cons (View.slAll (f := false) rfl lk_setn (by simp) (by simp) (ViewL.same _) (pureL_rows _)) (.cons (.same _) (.cons (.same _) .nil))))))))))) (.cons (.same _) .nil)), rfl, ?_⟩
    rfl
theorem signal216 {nm nw ns : Nat} {S : Lk} (h : LkL nm nw ns S) (hn : LkN S) (hb : nm ≤ 1000 ∧ nw ≤ 1000 ∧ ns ≤ 1000) (c m : Nat) (hc : c < nw) (hm : m < nm) : Spec Try.prog 216 [lkV S, .int .i64 c, .int .i64 m] [] (fun d os' => d = .tup [lkV (signalS S c m).1, .int .i64 (signalS S c m).2.1, .bool (signalS S c m).2.2] ∧ os' = []) := by
  obtain ⟨h1, h2, h3, h4, h5⟩ := h.b0 hb
  have hml : c < S.wq.length := by have := h.wq; omega
  have hq := h.l2 _ (qAt_mem hml)
  have hrc := rowC_at S.wq c hml
  have hlc := lstC_at S.wq c hml
  have hsg : ∀ t q, qAt S.wq c = t :: q → LkL nm nw ns { S with wq := S.wq.set c q } ∧ LkN { S with wq := S.wq.set c q } := fun t q e => ⟨(sigq_ok h hn hc e).1, (sigq_ok h hn hc e).2.1⟩
  obtain ⟨L, hLe⟩ : ∃ L, qAt S.wq c = L := ⟨_, rfl⟩
  have hlm : (S.wq.map ints).length = S.wq.length := List.length_map ..
  refine Spec.frz (post' := fun d => d = .tup [lkV (signalS S c m).1, .int .i64 (signalS S c m).2.1, .bool (signalS S c m).2.2]) ?_
  unfold signalS
  rw [hLe] at hq hrc hlc hsg ⊢
  refine Spec.by Try.func216 rfl (by decide) (by decide +kernel) rfl ?_
  (refine goA ?_)
  refine Opt.of hlc ?_
  cases L with
  | nil =>
    dsimp only
    (refine goA ?_)
    refine Ret.mk [.cell 6 93, .tmp 7, .tmp 8] rfl ?_
    exact ⟨_, View.tup (.cons (.same _) (.cons (.same _) (.cons (.same _) .nil))), rfl, rfl⟩
  | cons v q =>
    have hvm : ((v :: q).map (D.int .i64)).length = q.length + 1 := by simp
    obtain ⟨g1, g2⟩ := hsg v q rfl
    dsimp only
    (refine goA ?_)
    refine Call.mk (own218do h hb _) ?_
    rintro d os' ⟨rfl, rfl⟩
    (refine goA ?_)
    refine Opt.of hrc ?_
    (refine goA ?_)
    refine Opt.of hrc ?_
    (refine goA ?_)
    refine Nm.mk (q.map (D.int .i64)) (by rw [Int.toNat_natCast, List.take_length]; rfl) ?_
    (refine goA ?_)
    refine Opt.of (rowC_at S.wq c hml) ?_
    (refine goR ?_)
    refine Pt.weak (Weak.only [(1, .int .i64 (c : Int)), (2, .int .i64 (m : Int)), (3, .ptr 0 0 10 0 0), (6, .ptr 1 0 10 0 0), (9, .int .i64 v)] [one (.row 93 10 false [.agg [.int .i64 0, .nils, ints S.ow, ints S.co, .nils, lists S.lk, .sl 4 0 1 0 S.wq.length none, lists S.dq, .nils, .nils]]), one (.row 93 10 false [.agg [.int .i64 0, .nils, .nils, .nils, .nils, .nils, .nils, .nils, .nils, .nils]]), one .gone, one .gone, one (.row 23 1 true ((S.wq.map ints).set (0 + c) (ints q)))] (by kernel_rfl) tld) ?_
    refine Pt.weak (Weak.frzO (fun i => Nat.beq i 4) [] 0 (ty := 93) (sz := 10) (es := [.agg [.int .i64 0, .nils, ints S.ow, ints S.co, .nils, lists S.lk, .sl 4 0 1 0 S.wq.length none, lists S.dq, .nils, .nils]]) rfl rfl [lkV { S with wq := S.wq.set c q }] rfl ?_ trivial) ?_
    · exact .cons (View.agg (.cons (.same _) (.cons (.same _) (.cons (.same _) (.cons (.same _) (.cons (.same _) (.cons (.same _) (.cons (View.slAll (f := false) rfl lk_setn (by simp) (by simp) (ViewL.same _) (pureL_rows _)) (.cons (.same _) (.cons (.same _) (.cons (.same _) .nil))))))))))) .nil
    (refine goA ?_)
    refine Call.mk ((lock213 g1 g2 hb m hm v).only _ rfl (by rintro d rfl; rfl)) ?_; rintro d os' ⟨rfl, rfl⟩
    (refine goA ?_)
    refine Ret.mk [.cell 6 93, .tmp 7, .tmp 8] rfl ?_
    exact ⟨_, View.tup (.cons (.same _) (.cons (.same _) (.cons (.same _) .nil))), rfl, rfl⟩
end Go.Proofs.Ytaplihoeephbeaa.V
end
section
namespace Go.Proofs.Ytaplihoeephbeaa.V
open Go Go.Proofs
set_option maxRecDepth 100000
set_option maxHeartbeats 40000000
/-- Rows are made at any time; an alloc behind them. -/
theorem dP {τ : Tau} {C : CallW} {l : List Oper} {K : St → Prop} {s : St} (h : drw τ C l (closOf l) [] (mksOf l) K (permOf l) [] s) (hok : (drawOk l [] (permOf l) (closOf l) (mksOf l) && allOk τ l) = true := by decide +kernel) : Drw τ C l K s := ⟨_, _, _, _, hok, h⟩
theorem nilsV {os : Objs} (n : Nat) : ViewL allF os (List.replicate n .nils) ((List.replicate n ([] : List Int)).map ints) := by
  rw [List.map_replicate]
  induction n with
  | zero => exact .nil
  | succ n ih => exact .cons (View.nils 1 false) ih
theorem new169 (nm nw : Nat) (se : List Int) (h1 : nm ≤ 1000) (h2 : nw ≤ 1000) (h3 : se.length ≤ 1000) : Spec Try.prog 169 [.int .i64 nm, .int .i64 nw, ints se] [] (fun d os' => d = lkV (newS nm nw se) ∧ os' = []) := by
  have hsm : (se.map (D.int .i64)).length = se.length := List.length_map ..
  refine Spec.frz (post' := fun d => d = lkV (newS nm nw se)) ?_
  refine Spec.by Try.func169 rfl (by decide) (by decide +kernel) rfl ?_
  (refine goA ?_)
  refine dP ?_
  (refine goA ?_)
  repeat (refine erC ?_)
  (refine goA ?_)
  refine Loop.inv (A := Nat) (List.range 33) (fun i => [(0, .int .i64 (nm : Int)), (2, ints se), (6, .ptr 0 0 10 0 0), (7, .ptr 4 0 10 0 0), (8, .int .i64 (i : Int))]) (fun i => [one (.row 93 10 false [.agg [.int .i64 0, .nils, .nils, .nils, .nils, .nils, .nils, .nils, .nils, .nils]]), nilC nm, nilC nw, nilC se.length, one (.row 93 10 false [.agg [.int .i64 0, .nils, .sl 5 0 1 0 i none, .nils, .nils, .sl 1 0 1 0 nm none, .sl 2 0 1 0 nw none, .sl 3 0 1 0 se.length none, .nils, .nils]]), rowI (List.replicate i (-1))]) (fun i => i ≤ nm) (fun i => nm - i) 0 (Nat.zero_le _) ?_ ?_
  · refine Weak.trans (Weak.only [(0, .int .i64 (nm : Int)), (2, ints se), (6, .ptr 0 0 10 0 0), (7, .ptr 4 0 10 0 0), (8, .int .i64 0)] [one (.row 93 10 false [.agg [.int .i64 0, .nils, .nils, .nils, .nils, .nils, .nils, .nils, .nils, .nils]]), nilC nm, nilC nw, nilC se.length, one (.row 93 10 false [.agg [.int .i64 0, .nils, .nils, .nils, .nils, .sl 1 0 1 0 nm none, .sl 2 0 1 0 nw none, .sl 3 0 1 0 se.length none, .nils, .nils]])] ?_ tld) ?_
    · rw [← hsm]; rfl
    exact Weak.nilO 4 5 rfl (es := [.agg [.int .i64 0, .nils, .nils, .nils, .nils, .sl 1 0 1 0 nm none, .sl 2 0 1 0 nw none, .sl 3 0 1 0 se.length none, .nils, .nils]]) rfl [.agg [.int .i64 0, .nils, .sl 5 0 1 0 0 none, .nils, .nils, .sl 1 0 1 0 nm none, .sl 2 0 1 0 nw none, .sl 3 0 1 0 se.length none, .nils, .nils]] rfl (.cons (.agg (.cons (.same _ _) (.cons (.same _ _) (.cons (.nils _ _) (.same _ _))))) (.same _ _)) 3 1 true
  rintro i hi
  have hrm : ((List.replicate i (-1 : Int)).map (D.int .i64)).length = i := by simp
  (refine goA ?_)
  refine Br.dec (fun h0 => ?_) (fun h0 => ?_)
  · (refine goA ?_)
    refine App.only false rfl rfl ?_
    (refine goA ?_)
    refine ⟨_, _, _, ?_, ⟨i + 1, ?_, rfl, rfl, rfl⟩, ?_⟩
    · show nm - (i + 1) < nm - i; omega
    · show i + 1 ≤ nm; omega
    · refine Weak.trans (Weak.shift 6 5 (by decide) (by simp) (Nat.le_of_ble_eq_true rfl) (Nat.le_of_ble_eq_true rfl) (fun j => by cases j <;> rfl) rfl) ?_
      refine Weak.backT 6 (by simp) ?_ (by kernel_rfl) (Nat.le_of_ble_eq_true rfl) tld (by kernel_rfl) (by kernel_rfl)
      exact congrArg (fun r => ([one (.row 93 10 false [.agg [.int .i64 0, .nils, .nils, .nils, .nils, .nils, .nils, .nils, .nils, .nils]]), nilC nm, nilC nw, nilC se.length, one (.row 93 10 false [.agg [.int .i64 0, .nils, .sl 5 0 1 0 (i + 1) none, .nils, .nils, .sl 1 0 1 0 nm none, .sl 2 0 1 0 nw none, .sl 3 0 1 0 se.length none, .nils, .nils]]), one (.row 3 1 true r)] : Objs)) (by rw [show List.replicate (i + 1) (-1 : Int) = List.replicate i (-1) ++ [-1] from List.replicate_succ']; exact (map_snoc (List.replicate i (-1)) (-1)))
  · have hin : i = nm := by omega
    subst hin
    (refine goA ?_)
    refine And.intro (fun hz => ?_) (fun hz => ?_)
    · have hz' : se = [] := List.map_eq_nil_iff.1 hz
      (refine goA ?_)
      refine Ret.mk [.cell 6 93] rfl ?_; (refine goA ?_)
      refine ⟨_, View.agg (.cons (.same _) (.cons (.same _) (.cons (View.slAll (f := false) rfl rfl hrm (by simp) (ViewL.same _) (pureL_map (fun _ => rfl) _)) (.cons (View.nils 1 false) (.cons (.same _) (.cons (View.slAll (f := false) rfl rfl (List.length_replicate ..) (by simp) (nilsV i) (pureL_rows _)) (.cons (View.slAll (f := false) rfl rfl (List.length_replicate ..) (by simp) (nilsV nw) (pureL_rows _)) (.cons (View.slAll (f := false) rfl rfl (List.length_replicate ..) (by simp) (nilsV se.length) (pureL_rows _)) (.cons (.same _) (.cons (.same _) .nil)))))))))), rfl, ?_⟩
      rw [hz']; rfl
    · refine And.intro (by rw [hsm]; show se.length * 8 ≤ _; omega) (And.intro (by omega) ?_)
      refine App.only false rfl (pureL_map (fun _ => rfl) _) ?_
      (refine goA ?_)
      refine Ret.mk [.cell 6 93] rfl ?_; (refine goA ?_)
      refine ⟨_, View.agg (.cons (.same _) (.cons (.same _) (.cons (View.slAll (f := false) rfl rfl hrm (by simp) (ViewL.same _) (pureL_map (fun _ => rfl) _)) (.cons (.same _) (.cons (.same _) (.cons (View.slAll (f := false) rfl rfl (List.length_replicate ..) (by simp) (nilsV i) (pureL_rows _)) (.cons (View.slAll (f := false) rfl rfl (List.length_replicate ..) (by simp) (nilsV nw) (pureL_rows _)) (.cons (View.slAll (f := false) rfl rfl (List.length_replicate ..) (by simp) (nilsV se.length) (pureL_rows _)) (.cons (.same _) (.cons (.same _) .nil)))))))))), rfl, ?_⟩
      rfl
end Go.Proofs.Ytaplihoeephbeaa.V
end
section
namespace Go.Proofs.Ytaplihoeephbeaa.V
open Go Go.Proofs
set_option maxRecDepth 100000
set_option maxHeartbeats 40000000
theorem tail_eq {a b : Fam} {x x' y y' : O} {r : Objs} (h1 : x = x') (h2 : y = y') : (a :: b :: one .gone :: one .gone :: one x :: one y :: r : Objs) = a :: b :: one .gone :: one .gone :: one x' :: one y' :: r := by
  subst h1 h2; rfl
theorem unlock214w {nm nw ns : Nat} {S : Lk} (h : LkL nm nw ns S) (hb : nm ≤ 1000 ∧ nw ≤ 1000 ∧ ns ≤ 1000) (m : Nat) (hm : m < nm) (t : Int) (h0 : S.ow.getD m 0 = t) {X Y : List (List Int)} {W : List Int} (hx : S.wq = X ++ W :: Y) : Spec Try.prog 214 [lkV S, .int .i64 m, .int .i64 t] [] (fun d os' => d = .tup [.agg [.int .i64 0, .nils, .sl 4 0 1 0 S.ow.length none, ints S.co, .nils, .sl 5 0 1 0 S.lk.length none, .sl 6 0 1 0 S.wq.length none, lists S.dq, .nils, .nils], .int .i64 (headQ (qAt S.lk m)), .int .i64 0] ∧ os' = [one .gone, one .gone, one .gone, one .gone, rowI (S.ow.set m (headQ (qAt S.lk m))), rowC (S.lk.set m (qAt S.lk m).tail), one (.row 23 1 false (RE X W Y 7)), rowI W]) := by
  obtain ⟨h1, h2, h3, h4, h5⟩ := h.b0 hb
  have hmo : m < S.ow.length := by have := h.ow; omega
  have hml : m < S.lk.length := by have := h.lk; omega
  have hq := h.l1 _ (qAt_mem hml)
  have hrc := rowC_at S.lk m hml
  obtain ⟨L, hLe⟩ : ∃ L, qAt S.lk m = L := ⟨_, rfl⟩
  have hom : (S.ow.map (D.int .i64)).length = S.ow.length := List.length_map ..
  have hlm : (S.lk.map ints).length = S.lk.length := List.length_map ..
  have hset : S.lk.set m (qAt S.lk m) = S.lk := set_qAt S.lk m hml
  refine Spec.weak (post := fun d os' => d = .tup [.agg [.int .i64 0, .nils, .sl 4 0 1 0 S.ow.length none, ints S.co, .nils, .sl 5 0 1 0 S.lk.length none, .sl 6 0 1 0 S.wq.length none, lists S.dq, .nils, .nils], .int .i64 (headQ (qAt S.lk m)), .int .i64 0] ∧ ∃ a b : Fam, os' = [a, b, one .gone, one .gone, rowI (S.ow.set m (headQ (qAt S.lk m))), rowC (S.lk.set m (qAt S.lk m).tail), one (.row 23 1 false (RE X W Y 7)), rowI W]) ?_ ?_
  rotate_left
  · rintro d os' ⟨rfl, a, b, rfl⟩
    exact ⟨_, _, Weak.frzK (fun i => Nat.blt i 2) [] trivial, rfl, rfl⟩
  rw [hLe] at hq hrc hset ⊢
  refine Spec.by Try.func214 rfl (by decide) (by decide +kernel) rfl ?_
  (refine goA ?_)
  refine Opt.of (lstI_at S.ow m hmo) ?_
  (refine goA ?_)
  have b1 : (!decide (S.ow.getD m 0 = t)) = false := by rw [decide_eq_true h0]; rfl
  (refine goA ?_)
  refine Call.mk (own218bo h hb hx _) ?_
  rintro d os' ⟨rfl, rfl⟩
  (refine goA ?_)
  refine Opt.of (rowI_at S.ow m hmo) ?_
  (refine goA ?_)
  refine Opt.of hrc ?_
  cases L with
  | nil =>
    (refine goA ?_)
    refine Opt.of (setD_at S.ow m hmo _) ?_
    (refine goA ?_)
    refine And.intro ?_ ?_
    · conv => whnf
      refine Opt.of (setD_at S.ow m hmo _) ?_
      (conv => whnf)
      first | done | exact rfl | (refine Opt.mk ?_; (conv => whnf); done) | (refine Opt.mk ?_; (conv => whnf); exact rfl) | (refine And.intro rfl ?_; (conv => whnf); refine Opt.mk ?_; (conv => whnf); done) | (refine And.intro rfl ?_; (conv => whnf); refine Opt.mk ?_; (conv => whnf); exact rfl)
    (refine goA ?_)
    exact Ret.mk [.cell 6 93, .tmp 7, .tmp 8] rfl ⟨rfl, _, _, tail_eq ow_setn (congrArg (fun l => O.row 23 1 true (l.map ints)) hset.symm)⟩
  | cons v q =>
    have hvm : ((v :: q).map (D.int .i64)).length = q.length + 1 := by simp
    (refine goA ?_)
    refine Opt.of hrc ?_
    (refine goA ?_)
    refine Opt.of (setD_at S.ow m hmo _) ?_
    (refine goA ?_)
    refine Opt.of hrc ?_
    (refine goA ?_)
    refine Nm.mk (q.map (D.int .i64)) (by rw [Int.toNat_natCast, List.take_length]; rfl) ?_
    (refine goA ?_)
    refine Opt.of (rowC_at S.lk m hml) ?_
    (refine goA ?_)
    refine Opt.of (setD2_at S.ow m hmo _ _) ?_
    (refine goA ?_)
    refine And.intro ?_ ?_
    · conv => whnf
      refine Opt.of (setD2_at S.ow m hmo _ _) ?_
      (conv => whnf)
      first | done | exact rfl | (refine Opt.mk ?_; (conv => whnf); done) | (refine Opt.mk ?_; (conv => whnf); exact rfl) | (refine And.intro rfl ?_; (conv => whnf); refine Opt.mk ?_; (conv => whnf); done) | (refine And.intro rfl ?_; (conv => whnf); refine Opt.mk ?_; (conv => whnf); exact rfl)
    (refine goA ?_)
    exact Ret.mk [.cell 6 93, .tmp 7, .tmp 8] rfl ⟨rfl, _, _, tail_eq ow_set2 lk_setn⟩
end Go.Proofs.Ytaplihoeephbeaa.V
end
section
namespace Go.Proofs.Ytaplihoeephbeaa.V
open Go Go.Proofs
set_option maxRecDepth 100000
set_option maxHeartbeats 40000000
theorem unlock214wo {nm nw ns : Nat} {S : Lk} (h : LkL nm nw ns S) (hb : nm ≤ 1000 ∧ nw ≤ 1000 ∧ ns ≤ 1000) (m : Nat) (hm : m < nm) (t : Int) (h0 : S.ow.getD m 0 = t) {X Y : List (List Int)} {W : List Int} (hx : S.wq = X ++ W :: Y) (os : Objs) : Spec Try.prog 214 [lkV S, .int .i64 m, .int .i64 t] os (fun d os' => d = .tup [.agg [.int .i64 0, .nils, .sl (os.length + 4) 0 1 0 S.ow.length none, ints S.co, .nils, .sl (os.length + 5) 0 1 0 S.lk.length none, .sl (os.length + 6) 0 1 0 S.wq.length none, lists S.dq, .nils, .nils], .int .i64 (headQ (qAt S.lk m)), .int .i64 0] ∧ os' = os ++ [one .gone, one .gone, one .gone, one .gone, rowI (S.ow.set m (headQ (qAt S.lk m))), rowC (S.lk.set m (qAt S.lk m).tail), one (.row 23 1 false (RE X W Y (os.length + 7))), rowI W]) := by
  refine ((unlock214w h hb m hm t h0 hx).onto os rfl).mono ?_
  rintro d os' ⟨d1, os1, ⟨rfl, rfl⟩, rfl, rfl⟩
  exact ⟨rfl, congrArg (fun r => os ++ [one .gone, one .gone, one .gone, one .gone, rowI (S.ow.set m (headQ (qAt S.lk m))), rowC (S.lk.set m (qAt S.lk m).tail), one (.row 23 1 false r), rowI W]) (RE_mapq X W Y os.length 7)⟩
theorem wait215 {nm nw ns : Nat} {S : Lk} (h : LkL nm nw ns S) (hb : nm ≤ 1000 ∧ nw ≤ 1000 ∧ ns ≤ 1000) (c m : Nat) (hc : c < nw) (hm : m < nm) (t : Int) : Spec Try.prog 215 [lkV S, .int .i64 c, .int .i64 m, .int .i64 t] [] (fun d os' => d = .tup [lkV (waitS S c m t).1, .int .i64 (waitS S c m t).2.1, .int .i64 (waitS S c m t).2.2] ∧ os' = []) := by
  obtain ⟨h1, h2, h3, h4, h5⟩ := h.b0 hb
  have hmw : c < S.wq.length := by have := h.wq; omega
  obtain ⟨hx, hX⟩ := split_at S.wq c hmw
  have hq := h.l2 _ (qAt_mem hmw)
  obtain ⟨X, hXe⟩ : ∃ X, S.wq.take c = X := ⟨_, rfl⟩
  obtain ⟨L, hLe⟩ : ∃ L, qAt S.wq c = L := ⟨_, rfl⟩
  obtain ⟨Y, hYe⟩ : ∃ Y, S.wq.drop (c + 1) = Y := ⟨_, rfl⟩
  rw [hXe] at hx hX
  rw [hLe] at hx hq
  rw [hYe] at hx
  have hom : ((S.ow.set m (headQ (qAt S.lk m))).map (D.int .i64)).length = S.ow.length := by simp
  have hkm : ((S.lk.set m (qAt S.lk m).tail).map ints).length = S.lk.length := by simp
  have hLm : (L.map (D.int .i64)).length = L.length := List.length_map ..
  refine Spec.frz (post' := fun d => d = .tup [lkV (waitS S c m t).1, .int .i64 (waitS S c m t).2.1, .int .i64 (waitS S c m t).2.2]) ?_
  unfold waitS handS
  rw [hLe]
  by_cases h0 : S.ow.getD m 0 = t
  · rw [if_neg (by omega)]
    refine Spec.by Try.func215 rfl (by decide) (by decide +kernel) rfl ?_
    (refine goA ?_)
    refine Call.mk (unlock214wo h hb m hm t h0 hx _) ?_
    rintro d os' ⟨rfl, rfl⟩
    (refine goA ?_)
    refine Opt.of (RE_at hX) ?_
    (refine goA ?_)
    refine App.only false rfl rfl ?_
    (refine goA ?_)
    refine And.intro ?_ ?_
    · conv => whnf
      refine Opt.of (RE_at hX) ?_
      conv => whnf
      refine And.intro rfl ?_
      conv => whnf
      refine Opt.mk ?_
      conv => whnf
      first | done | exact rfl | exact ⟨rfl, rfl⟩ | trivial
    (refine goA ?_)
    refine Opt.of (RE_at hX) ?_
    (refine goA ?_)
    refine Ret.mk [.cell 8 93, .tmp 9, .tmp 10] rfl ?_; (refine goA ?_)
    refine ⟨_, View.tup (.cons (View.agg (.cons (.same _) (.cons (.same _) (.cons (View.slAll (f := false) rfl rfl hom (by simp) (ViewL.same _) (pureL_map (fun _ => rfl) _)) (.cons (.same _) (.cons (.same _) (.cons (View.slAll (f := false) rfl rfl hkm (by simp) (ViewL.same _) (pureL_rows _)) (.cons (View.slAll (f := false) rfl (RE_setn hX (L ++ [t]) (by simp [setAll])) (RE_lenA hx) (by simp) (RE_view (pr := true) (map_snocO L t)) (pureL_rows _)) (.cons (.same _) (.cons (.same _) (.cons (.same _) .nil))))))))))) (.cons (.same _) (.cons (.same _) .nil))), rfl, ?_⟩
    rw [set_split hx hX]
  · rw [if_pos (by omega)]
    have hu : unlockS S m t = (S, -1, 10) := by unfold unlockS; rw [if_pos h0]
    have hus := unlock214 h hb m hm t
    rw [hu] at hus
    refine Spec.by Try.func215 rfl (by decide) (by decide +kernel) rfl ?_
    (refine goA ?_)
    refine Call.mk ((hus).only _ rfl (by rintro d rfl; rfl)) ?_; rintro d os' ⟨rfl, rfl⟩
    (refine goA ?_)
    refine Ret.mk [.cell 8 93, .tmp 9, .tmp 10] rfl ?_
    exact ⟨_, View.tup (.cons (.same _) (.cons (.same _) (.cons (.same _) .nil))), rfl, rfl⟩
end Go.Proofs.Ytaplihoeephbeaa.V
end
section
namespace Go.Proofs.Ytaplihoeephbeaa.V
open Go Go.Proofs
set_option maxRecDepth 100000
set_option maxHeartbeats 40000000
theorem broad217 {nm nw ns : Nat} {S : Lk} (h : LkL nm nw ns S) (hn : LkN S) (hb : nm ≤ 1000 ∧ nw ≤ 1000 ∧ ns ≤ 1000) (c m : Nat) (hc : c < nw) (hm : m < nm) : Spec Try.prog 217 [lkV S, .int .i64 c, .int .i64 m] [] (fun d os' => d = .tup [lkV (broadS S c m).1, ints (broadS S c m).2.1, .int .i64 (broadS S c m).2.2] ∧ os' = []) := by
  obtain ⟨R, hR⟩ : ∃ R, broadS S c m = R := ⟨_, rfl⟩
  rw [hR]
  refine Spec.frz (post' := fun d => d = .tup [lkV R.1, ints R.2.1, .int .i64 R.2.2]) ?_
  refine Spec.by Try.func217 rfl (by decide) (by decide +kernel) rfl ?_
  (refine goR ?_)
  ((with_reducible refine Pt.go ?_); conv => whnf)
  (refine goR ?_)
  ((with_reducible refine Pt.go ?_); conv => whnf)
  (refine goR ?_)
  refine Pt.weak (Weak.trans (Weak.only [(9, .nils), (1, .int .i64 (c : Int)), (2, .int .i64 (m : Int)), (3, .ptr 0 0 10 0 0), (6, .ptr 1 0 10 0 0) ] [one (.row 93 10 false [lkV S]), one (.row 93 10 false [.agg [.int .i64 0, .nils, .nils, .nils, .nils, .nils, .nils, .nils, .nils, .nils]])] (by kernel_rfl) tld) (Weak.nilrow 9 rfl 3 1 true)) ?_
  (refine goA ?_)
  refine Loop.inv (A := Lk × List Int × Int) (List.range 39) (fun x => [(1, .int .i64 (c : Int)), (2, .int .i64 (m : Int)), (3, .ptr 0 0 10 0 0), (6, .ptr 1 0 10 0 0), (9, .sl 2 0 1 0 x.2.1.length none), (10, .int .i64 x.2.2)]) (fun x => [one (.row 93 10 false [lkV x.1]), one (.row 93 10 false [.agg [.int .i64 0, .nils, .nils, .nils, .nils, .nils, .nils, .nils, .nils, .nils]]), rowI x.2.1])
    (fun x => LkL nm nw ns x.1 ∧ LkN x.1 ∧ bcast c m (qAt x.1.wq c).length x.1 x.2.1 x.2.2 = R ∧ x.2.1.length + (qAt x.1.wq c).length ≤ 1000) (fun x => (qAt x.1.wq c).length) (S, [], -1) ⟨h, hn, hR, by have := h.l2 _ (qAt_mem (l := S.wq) (m := c) (by have := h.wq; omega)); show ([] : List Int).length + (qAt S.wq c).length ≤ 1000; simpa using this⟩ ?_ ?_
  · exact Weak.start' rfl rfl tld
  rintro ⟨S1, all, got⟩ ⟨hl1, hn1, hR1, hb1⟩
  dsimp only at hl1 hn1 hR1 hb1 ⊢
  have hallm : (all.map (D.int .i64)).length = all.length := List.length_map ..
  have hcw : c < S1.wq.length := by have := hl1.wq; omega
  have hcc := lstC_at S1.wq c hcw
  cases hq : qAt S1.wq c with
  | nil =>
    have hRe : R = (S1, all, got) := by rw [← hR1, hq]; rfl
    rw [hRe]
    rw [hq] at hcc
    (refine goA ?_)
    refine Opt.of hcc ?_
    (refine goA ?_)
    refine Ret.mk [.cell 6 93, .tmp 7, .tmp 8] rfl ?_; (refine goA ?_)
    exact ⟨_, View.tup (.cons (.same _) (.cons (View.slAll (f := false) rfl rfl hallm (by simp) (ViewL.same _) (pureL_map (fun _ => rfl) _)) (.cons (.same _) .nil))), rfl, rfl⟩
  | cons t q =>
    obtain ⟨g1, g2⟩ := signal_ok hl1 hn1 hc hm
    obtain ⟨g3, g4⟩ := signal_wq hl1 hn1 hc hm hq
    have hRe : bcast c m q.length (signalS S1 c m).1 (all ++ [t]) (if (signalS S1 c m).2.2 then t else got) = R := by rw [← bcast_cons hq, ← hR1, hq]; rfl
    have hsp := signal216 hl1 hn1 hb c m hc hm
    rw [hq, List.length_cons] at hb1
    rw [hq] at hcc
    have htm : ((t :: q).map (D.int .i64)).length = q.length + 1 := by simp
    obtain ⟨S2, hS2⟩ : ∃ S2, (signalS S1 c m).1 = S2 := ⟨_, rfl⟩
    obtain ⟨b, hb'⟩ : ∃ b, (signalS S1 c m).2.2 = b := ⟨_, rfl⟩
    rw [hS2] at g1 g2 g3 hRe hsp
    rw [hb'] at hRe hsp
    rw [g4] at hsp
    cases b with
    | false =>
      (refine goA ?_)
      refine Opt.of hcc ?_
      (refine goA ?_)
      refine Call.mk ((hsp).only _ rfl (by rintro d rfl; rfl)) ?_; rintro d os' ⟨rfl, rfl⟩
      (refine goA ?_)
      refine App.only false rfl rfl ?_
      (refine goA ?_)
      refine ⟨_, _, _, ?_, ⟨(S2, all ++ [t], got), ?_, rfl, rfl, rfl⟩, ?_⟩
      · show (qAt S2.wq c).length < _; rw [g3, List.length_cons]; omega
      · exact ⟨g1, g2, by show bcast c m (qAt S2.wq c).length S2 (all ++ [t]) got = R; rw [g3]; exact hRe, by show (all ++ [t]).length + (qAt S2.wq c).length ≤ 1000; rw [g3, List.length_append, List.length_singleton]; omega⟩
      · refine Weak.trans (Weak.on [(1, .int .i64 (c : Int)), (2, .int .i64 (m : Int)), (3, .ptr 0 0 10 0 0), (6, .ptr 1 0 10 0 0), (9, .sl 4 0 1 0 (all.length + 1) none), (10, .int .i64 got)] [one (.row 93 10 false [lkV S2]), one (.row 93 10 false [.agg [.int .i64 0, .nils, .nils, .nils, .nils, .nils, .nils, .nils, .nils, .nils]]), one .gone, one (.row 93 10 false [lkV S2]), one (.row 3 1 true (all.map (D.int .i64) ++ [D.int .i64 t]))]) ?_
        rw [map_snoc, show all.length + 1 = (all ++ [t]).length by rw [List.length_append, List.length_singleton]]
        refine Weak.trans (Weak.shift 4 2 (by decide) (by simp) (Nat.le_of_ble_eq_true rfl) (Nat.le_of_ble_eq_true rfl) (fun j => by cases j <;> rfl) rfl) ?_
        refine Weak.backT 3 (by simp) (by first | rfl | kernel_rfl) (by kernel_rfl) (Nat.le_of_ble_eq_true rfl) tld (by kernel_rfl) (by kernel_rfl)
    | true =>
      (refine goA ?_)
      refine Opt.of hcc ?_
      (refine goA ?_)
      refine Call.mk ((hsp).only _ rfl (by rintro d rfl; rfl)) ?_; rintro d os' ⟨rfl, rfl⟩
      (refine goA ?_)
      refine App.only false rfl rfl ?_
      (refine goA ?_)
      refine ⟨_, _, _, ?_, ⟨(S2, all ++ [t], t), ?_, rfl, rfl, rfl⟩, ?_⟩
      · show (qAt S2.wq c).length < _; rw [g3, List.length_cons]; omega
      · exact ⟨g1, g2, by show bcast c m (qAt S2.wq c).length S2 (all ++ [t]) t = R; rw [g3]; exact hRe, by show (all ++ [t]).length + (qAt S2.wq c).length ≤ 1000; rw [g3, List.length_append, List.length_singleton]; omega⟩
      · refine Weak.trans (Weak.on [(1, .int .i64 (c : Int)), (2, .int .i64 (m : Int)), (3, .ptr 0 0 10 0 0), (6, .ptr 1 0 10 0 0), (9, .sl 4 0 1 0 (all.length + 1) none), (10, .int .i64 t)] [one (.row 93 10 false [lkV S2]), one (.row 93 10 false [.agg [.int .i64 0, .nils, .nils, .nils, .nils, .nils, .nils, .nils, .nils, .nils]]), one .gone, one (.row 93 10 false [lkV S2]), one (.row 3 1 true (all.map (D.int .i64) ++ [D.int .i64 t]))]) ?_
        rw [map_snoc, show all.length + 1 = (all ++ [t]).length by rw [List.length_append, List.length_singleton]]
        refine Weak.trans (Weak.shift 4 2 (by decide) (by simp) (Nat.le_of_ble_eq_true rfl) (Nat.le_of_ble_eq_true rfl) (fun j => by cases j <;> rfl) rfl) ?_
        refine Weak.backT 3 (by simp) (by first | rfl | kernel_rfl) (by kernel_rfl) (Nat.le_of_ble_eq_true rfl) tld (by kernel_rfl) (by kernel_rfl)
end Go.Proofs.Ytaplihoeephbeaa.V
end
section
namespace Go.Proofs.Ytaplihoeephbeaa.V
open Go Go.Proofs
set_option maxRecDepth 100000
set_option maxHeartbeats 40000000
def totS (S : Lk) : Nat := sumL S.lk + sumL S.wq + sumL S.dq
/-- What is no one's is not waited for. -/
structure LkH (S : Lk) : Prop where
  m : ∀ i, S.ow.getD i 0 = -1 → qAt S.lk i = []
  s : ∀ i, 0 < S.co.getD i 0 → qAt S.dq i = []
/-- All that is kept, of locks, with at most k that wait. -/
structure LkG (nm nw ns k : Nat) (S : Lk) : Prop where
  l : LkL nm nw ns S
  n : LkN S
  h : LkH S
  t : totS S ≤ k
theorem getD_set {α : Type} (l : List α) (e i : Nat) (x d : α) : (l.set e x).getD i d = if e = i ∧ e < l.length then x else l.getD i d := by
  rw [List.getD_eq_getElem?_getD, List.getD_eq_getElem?_getD, List.getElem?_set]
  by_cases h : e = i
  · subst h
    by_cases h2 : e < l.length
    · simp [h2]
    · simp [h2]
  · simp [h]
theorem qAt_sets (l : List (List Int)) (e i : Nat) (x : List Int) : qAt (l.set e x) i = if e = i ∧ e < l.length then x else qAt l i := getD_set l e i x []
theorem lockG {nm nw ns k : Nat} {S : Lk} (h : LkG nm nw ns k S) (hk : k ≤ 999) {m : Nat} (hm : m < nm) {t : Int} (ht : 0 ≤ t) : LkG nm nw ns (k + 1) (lockS S m t).1 := by
  have h0 := h.t
  unfold totS at h0
  obtain ⟨g1, g2⟩ := lock_ok h.l h.n hm ht (by omega)
  obtain ⟨a1, a2, a3, a4⟩ := lock_tot h.l m hm t
  have hlo := h.l.ow
  refine ⟨g1, g2, ⟨fun i hi => ?_, fun i hi => ?_⟩, by unfold totS; rw [a2, a3]; omega⟩
  · unfold lockS at hi ⊢
    split at hi
    · rename_i hc
      rw [if_pos hc]
      dsimp only at hi ⊢
      rw [qAt_sets, if_neg (by rintro ⟨rfl, _⟩; exact hc hi)]
      exact h.h.m i hi
    · rename_i hc
      rw [if_neg hc]
      dsimp only at hi ⊢
      rw [getD_set] at hi
      split at hi
      · omega
      · exact h.h.m i hi
  · rw [a4] at hi
    rw [a3]
    exact h.h.s i hi
theorem handG {nm nw ns k : Nat} {S : Lk} (h : LkG nm nw ns k S) {m : Nat} (hm : m < nm) : LkG nm nw ns k (handS S m) := by
  obtain ⟨g1, g2⟩ := hand_ok h.l h.n hm
  have h0 := h.t
  have h2 := h.l.lk
  have := sumL_set S.lk m (qAt S.lk m).tail (by omega)
  have ht : (qAt S.lk m).tail.length ≤ (qAt S.lk m).length := by rw [List.length_tail]; omega
  refine ⟨g1, g2, ⟨fun i hi => ?_, h.h.s⟩, ?_⟩
  · unfold handS at hi ⊢
    dsimp only at hi ⊢
    have hlo := h.l.ow
    rw [getD_set] at hi
    rw [qAt_sets]
    split at hi
    · rename_i hc
      obtain ⟨rfl, _⟩ := hc
      rw [if_pos ⟨rfl, by omega⟩]
      have hall := qAt_all h.n.lk m
      cases hq : qAt S.lk m with
      | nil => rfl
      | cons a q => rw [hq] at hall hi; have := hall a (by simp); exact absurd (show a = -1 from hi) (by omega)
    · rename_i hc
      rw [if_neg (by rintro ⟨rfl, _⟩; exact hc ⟨rfl, by omega⟩)]
      exact h.h.m i hi
  · unfold totS handS at *
    dsimp only
    omega
theorem unlockG {nm nw ns k : Nat} {S : Lk} (h : LkG nm nw ns k S) {m : Nat} (hm : m < nm) (t : Int) : LkG nm nw ns k (unlockS S m t).1 := by
  unfold unlockS
  split
  · exact h
  · exact handG h hm
theorem pushwG {nm nw ns k : Nat} {S : Lk} (h : LkG nm nw ns k S) (hk : k ≤ 999) {c : Nat} (hc : c < nw) {t : Int} (ht : 0 ≤ t) : LkG nm nw ns (k + 1) { S with wq := S.wq.set c (qAt S.wq c ++ [t]) } := by
  have h0 := h.t
  unfold totS at h0
  have h2 := h.l.wq
  have := sumL_set S.wq c (qAt S.wq c ++ [t]) (by omega)
  rw [List.length_append, List.length_singleton] at this
  refine ⟨⟨h.l.ow, h.l.co, h.l.lk, by simp [h2], h.l.dq, ?_⟩, ⟨h.n.ow, h.n.co, h.n.lk, ?_, h.n.dq⟩, ⟨h.h.m, h.h.s⟩, ?_⟩
  · dsimp only; omega
  · exact set_all h.n.wq (fun v hv => by
      rcases List.mem_append.1 hv with hv | hv
      · exact qAt_all h.n.wq c v hv
      · simp at hv; omega)
  · unfold totS; dsimp only; omega
theorem waitG {nm nw ns k : Nat} {S : Lk} (h : LkG nm nw ns k S) (hk : k ≤ 999) {c m : Nat} (hc : c < nw) (hm : m < nm) {t : Int} (ht : 0 ≤ t) : LkG nm nw ns (k + 1) (waitS S c m t).1 := by
  unfold waitS
  split
  · exact ⟨h.l, h.n, h.h, Nat.le_succ_of_le h.t⟩
  · exact pushwG (handG h hm) hk hc ht
theorem signalG {nm nw ns k : Nat} {S : Lk} (h : LkG nm nw ns k S) {c m : Nat} (hc : c < nw) (hm : m < nm) : LkG nm nw ns k (signalS S c m).1 := by
  unfold signalS
  split
  · exact h
  · rename_i t q hq
    obtain ⟨g1, g2, g3, g4⟩ := sigq_ok h.l h.n hc hq
    have h0 := h.t
    have h2 := h.l.wq
    have := sumL_set S.wq c q (by omega)
    rw [hq, List.length_cons] at this
    unfold totS at h0
    have ht := h.l.tot
    have g5 : LkG nm nw ns (totS { S with wq := S.wq.set c q }) { S with wq := S.wq.set c q } := ⟨g1, g2, ⟨h.h.m, h.h.s⟩, Nat.le_refl _⟩
    have e : totS { S with wq := S.wq.set c q } + 1 = totS S := by unfold totS; dsimp only; omega
    have g6 := lockG g5 (by unfold totS at e ⊢; dsimp only at e ⊢; omega) hm g3
    exact ⟨g6.l, g6.n, g6.h, Nat.le_trans g6.t (by rw [e]; exact h.t)⟩
theorem bcastG {nm nw ns k : Nat} {c m : Nat} (hc : c < nw) (hm : m < nm) : ∀ (n : Nat) (S : Lk) (all : List Int) (got : Int), LkG nm nw ns k S → LkG nm nw ns k (bcast c m n S all got).1
  | 0, S, all, got, h => h
  | n + 1, S, all, got, h => by
    unfold bcast
    split
    · exact h
    · exact bcastG hc hm n _ _ _ (signalG h hc hm)
theorem broadG {nm nw ns k : Nat} {S : Lk} (h : LkG nm nw ns k S) {c m : Nat} (hc : c < nw) (hm : m < nm) : LkG nm nw ns k (broadS S c m).1 := bcastG hc hm _ _ _ _ h
theorem bcast_len (c m : Nat) : ∀ (n : Nat) (S : Lk) (all : List Int) (got : Int), (bcast c m n S all got).2.1.length ≤ all.length + n
  | 0, S, all, got => Nat.le_refl _
  | n + 1, S, all, got => by
    unfold bcast
    split
    · show all.length ≤ _; omega
    · refine Nat.le_trans (bcast_len c m n _ _ _) ?_
      rw [List.length_append, List.length_singleton]; omega
theorem broad_len {nm nw ns : Nat} {S : Lk} (h : LkL nm nw ns S) {c m : Nat} (hc : c < nw) : (broadS S c m).2.1.length ≤ 1000 := by
  have h1 := bcast_len c m (qAt S.wq c).length S [] (-1)
  have h2 := h.l2 _ (qAt_mem (l := S.wq) (m := c) (by have := h.wq; omega))
  unfold broadS
  rw [List.length_nil] at h1
  omega
theorem downG {nm nw ns k : Nat} {S : Lk} (h : LkG nm nw ns k S) (hk : k ≤ 999) {s : Nat} (hs : s < ns) {t : Int} (ht : 0 ≤ t) : LkG nm nw ns (k + 1) (downS S s t).1 := by
  have h0 := h.t
  unfold totS at h0
  have h2 := h.l.dq
  have h3 := h.l.co
  have hv := h.n.co _ (getD_mem (l := S.co) (e := s) (by omega))
  have := sumL_set S.dq s (qAt S.dq s ++ [t]) (by omega)
  rw [List.length_append, List.length_singleton] at this
  unfold downS
  split
  · rename_i hc
    refine ⟨⟨h.l.ow, h.l.co, h.l.lk, h.l.wq, by simp [h2], ?_⟩, ⟨h.n.ow, h.n.co, h.n.lk, h.n.wq, ?_⟩, ⟨h.h.m, fun i hi => ?_⟩, ?_⟩
    · dsimp only; omega
    · exact set_all h.n.dq (fun v hv => by
        rcases List.mem_append.1 hv with hv | hv
        · exact qAt_all h.n.dq s v hv
        · simp at hv; omega)
    · dsimp only at hi ⊢
      rw [qAt_sets, if_neg (by rintro ⟨rfl, _⟩; omega)]
      exact h.h.s i hi
    · unfold totS; dsimp only; omega
  · rename_i hc
    refine ⟨⟨h.l.ow, by simp [h3], h.l.lk, h.l.wq, h.l.dq, h.l.tot⟩, ⟨h.n.ow, fun v hv' => ?_, h.n.lk, h.n.wq, h.n.dq⟩, ⟨h.h.m, fun i hi => ?_⟩, by unfold totS; dsimp only; omega⟩
    · rcases mem_set2 hv' with hv' | rfl
      · exact h.n.co v hv'
      · omega
    · dsimp only at hi ⊢
      rw [getD_set] at hi
      split at hi
      · rename_i hc2
        obtain ⟨rfl, _⟩ := hc2
        exact h.h.s s (by omega)
      · exact h.h.s i hi
theorem upG {nm nw ns k : Nat} {S : Lk} (h : LkG nm nw ns k S) {s : Nat} (hs : s < ns) : LkG nm nw ns k (upS S s).1 := by
  have h0 := h.t
  unfold totS at h0
  have h2 := h.l.dq
  have h3 := h.l.co
  have hv := h.n.co _ (getD_mem (l := S.co) (e := s) (by omega))
  unfold upS
  split
  · rename_i hq
    split
    · refine ⟨⟨h.l.ow, by simp [h3], h.l.lk, h.l.wq, h.l.dq, h.l.tot⟩, ⟨h.n.ow, fun v hv' => ?_, h.n.lk, h.n.wq, h.n.dq⟩, ⟨h.h.m, fun i hi => ?_⟩, h.t⟩
      · rcases mem_set2 hv' with hv' | rfl
        · exact h.n.co v hv'
        · omega
      · dsimp only at hi ⊢
        rw [getD_set] at hi
        split at hi
        · rename_i hc2
          obtain ⟨rfl, _⟩ := hc2
          exact hq
        · exact h.h.s i hi
    · exact h
  · rename_i t q hq
    have := sumL_set S.dq s q (by omega)
    rw [hq, List.length_cons] at this
    have hall := qAt_all h.n.dq s
    rw [hq] at hall
    refine ⟨⟨h.l.ow, h.l.co, h.l.lk, h.l.wq, by simp [h2], ?_⟩, ⟨h.n.ow, h.n.co, h.n.lk, h.n.wq, set_all h.n.dq (fun v hv => hall v (by simp [hv]))⟩, ⟨h.h.m, fun i hi => ?_⟩, ?_⟩
    · dsimp only; have := h.l.tot; omega
    · dsimp only at hi ⊢
      rw [qAt_sets]
      split
      · rename_i hc2
        obtain ⟨rfl, _⟩ := hc2
        have := h.h.s s hi
        rw [hq] at this
        cases this
      · exact h.h.s i hi
    · unfold totS; dsimp only; omega
theorem sumL_nils (n : Nat) : sumL (List.replicate n []) = 0 := by
  unfold sumL; simp
theorem qAt_nils (n i : Nat) : qAt (List.replicate n []) i = [] := by
  unfold qAt
  rw [List.getD_eq_getElem?_getD, List.getElem?_replicate]
  split <;> rfl
theorem newG (nm nw : Nat) (se : List Int) (h : ∀ v ∈ se, 0 ≤ v ∧ v ≤ 1073741824) : LkG nm nw se.length 0 (newS nm nw se) := by
  have hr : ∀ (n : Nat) (L : List Int), L ∈ List.replicate n ([] : List Int) → ∀ v ∈ L, (0 : Int) ≤ v := fun n L hL v hv => by
    rw [(List.mem_replicate.1 hL).2] at hv; cases hv
  refine ⟨⟨List.length_replicate .., rfl, List.length_replicate .., List.length_replicate .., List.length_replicate .., ?_⟩, ⟨fun v hv => ?_, h, hr _, hr _, hr _⟩, ⟨fun i _ => qAt_nils _ _, fun i _ => qAt_nils _ _⟩, ?_⟩
  · show sumL (List.replicate nm []) + sumL (List.replicate nw []) + sumL (List.replicate se.length []) ≤ 1000
    rw [sumL_nils, sumL_nils, sumL_nils]; omega
  · rw [(List.mem_replicate.1 hv).2]; omega
  · show sumL (List.replicate nm []) + sumL (List.replicate nw []) + sumL (List.replicate se.length []) ≤ 0
    rw [sumL_nils, sumL_nils, sumL_nils]; omega
end Go.Proofs.Ytaplihoeephbeaa.V
end
