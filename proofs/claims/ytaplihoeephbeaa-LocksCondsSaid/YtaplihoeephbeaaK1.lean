/- K1: a text of a symbolic executor that is proved sound, and contracts that are proved with it. -/
import Derived.Test.YtaplihoeephbeaaR5
import Derived.Laws.Bits64
set_option linter.unusedVariables false
set_option linter.unusedSimpArgs false
namespace Go.Proofs.Ytaplihoeephbeaa.V
open Go Go.Proofs
set_option maxRecDepth 100000
set_option maxHeartbeats 40000000
theorem wrapu {n : Int} (h0 : 0 ≤ n) (h1 : n < 18446744073709551616) : n = IntKind.u64.wrap n := by rw [IntKind.wrap_u64]; omega
theorem and32 (a : Int) (h0 : 0 ≤ a) (h1 : a < 4294967296) : a = IntKind.u64.wrap (BitVec.ofInt IntKind.u64.bits a &&& BitVec.ofInt IntKind.u64.bits 4294967295).toNat := by
  obtain ⟨n, rfl⟩ := Int.eq_ofNat_of_zero_le h0
  have hn : n < 4294967296 := by omega
  have e : (BitVec.ofInt IntKind.u64.bits (n : Int) &&& BitVec.ofInt IntKind.u64.bits 4294967295).toNat = n := by
    rw [BitVec.toNat_and]
    have e1 : (BitVec.ofInt IntKind.u64.bits (n : Int)).toNat = n := by
      rw [BitVec.toNat_ofInt]
      show ((n : Int) % ((2 ^ 64 : Nat) : Int)).toNat = n
      omega
    have e2 : (BitVec.ofInt IntKind.u64.bits 4294967295).toNat = 2 ^ 32 - 1 := by decide
    rw [e1, e2, Nat.and_two_pow_sub_one_eq_mod]
    exact Nat.mod_eq_of_lt hn
  rw [e]
  exact wrapu h0 (by omega)
theorem shr32 (a : Int) (h0 : 0 ≤ a) (h1 : a < 4294967296) : 0 = a / 2 ^ min (32 : Int).toNat IntKind.u64.bits := by
  have : min (32 : Int).toNat IntKind.u64.bits = 32 := by decide
  rw [this]
  omega
theorem mul226 (a b : Int) (ha : 0 ≤ a ∧ a ≤ 1000) (hb : 0 ≤ b ∧ b ≤ 1000) (hab : a * b ≤ 1000000 ∧ 0 ≤ a * b) : Spec Try.prog 226 [.int .u64 a, .int .u64 b] [] (fun d os' => d = .tup [.int .u64 0, .int .u64 (a * b)] ∧ os' = []) := by
  refine Spec.by Try.func226 rfl (by decide) (by decide +kernel) rfl ?_
  (refine goA ?_)
  refine Nm.mk a (and32 a (by omega) (by omega)) ?_
  (refine goA ?_)
  refine Nm.mk 0 (shr32 a (by omega) (by omega)) ?_
  (refine goA ?_)
  refine Nm.mk b (and32 b (by omega) (by omega)) ?_
  (refine goA ?_)
  refine Nm.mk 0 (shr32 b (by omega) (by omega)) ?_
  (refine goA ?_)
  refine Ar.mk (a * b) (wrapu (by omega) (by omega)) ?_
  (refine goA ?_)
  refine Ar.mk 0 (by rw [Int.zero_mul]; exact wrapu (by omega) (by omega)) ?_
  (refine goA ?_)
  refine Nm.mk 0 (shr32 (a * b) (by omega) (by omega)) ?_
  (refine goA ?_)
  refine Ar.mk 0 (wrapu (by omega) (by omega)) ?_
  (refine goA ?_)
  refine Nm.mk 0 (and32 0 (by omega) (by omega)) ?_
  (refine goA ?_)
  refine Nm.mk 0 (shr32 0 (by omega) (by omega)) ?_
  (refine goA ?_)
  refine Ar.mk 0 (by rw [Int.mul_zero]; exact wrapu (by omega) (by omega)) ?_
  (refine goA ?_)
  refine Ar.mk 0 (wrapu (by omega) (by omega)) ?_
  (refine goA ?_)
  refine Ar.mk 0 (wrapu (by omega) (by omega)) ?_
  (refine goA ?_)
  refine Ar.mk 0 (wrapu (by omega) (by omega)) ?_
  (refine goA ?_)
  refine Nm.mk 0 (shr32 0 (by omega) (by omega)) ?_
  (refine goA ?_)
  refine Ar.mk 0 (wrapu (by omega) (by omega)) ?_
  (refine goA ?_)
  refine Ar.mk (a * b) (wrapu (by omega) (by omega)) ?_
  (refine goA ?_)
  exact Ret.mk [.tmp 4, .tmp 5] rfl ⟨rfl, rfl⟩
theorem mul193 (a b : Int) (ha : 0 ≤ a ∧ a ≤ 1000) (hb : 0 ≤ b ∧ b ≤ 1000) (hab : a * b ≤ 1000000 ∧ 0 ≤ a * b) : Spec Try.prog 193 [.int .u64 a, .int .u64 b] [] (fun d os' => d = .tup [.int .u64 0, .int .u64 (a * b)] ∧ os' = []) := by
  refine Spec.by Try.func193 rfl (by decide) (by decide +kernel) rfl ?_
  (refine goA ?_)
  refine Call.mk ((mul226 a b ha hb hab).only _ rfl (by rintro d rfl; rfl)) ?_; rintro d os' ⟨rfl, rfl⟩
  (refine goA ?_)
  exact Ret.mk [.tmp 4, .tmp 5] rfl ⟨rfl, rfl⟩
/-- The first k are told. -/
def repL148 (v : Int) (n k : Nat) : List Int := List.replicate k v ++ List.replicate (n - k) 0
theorem rep148_len (v : Int) (n k : Nat) (h : k ≤ n) : (repL148 v n k).length = n := by simp [repL148]; omega
theorem rep148_splice (v : Int) (n k j : Nat) (h : k + j ≤ n) : splice ((repL148 v n k).map (D.int .i64)) k (List.replicate j (D.int .i64 v)) = (repL148 v n (k + j)).map (D.int .i64) := by
  have e1 : ((repL148 v n k).map (D.int .i64)).take k = List.replicate k (D.int .i64 v) := by
    simp only [repL148, List.map_append, List.map_replicate]
    exact List.take_left' (by simp)
  have e2 : ((repL148 v n k).map (D.int .i64)).drop (k + (List.replicate j (D.int .i64 v)).length) = List.replicate (n - (k + j)) (D.int .i64 0) := by
    simp only [repL148, List.map_append, List.map_replicate, List.length_replicate]
    rw [List.drop_append, List.drop_eq_nil_of_le (by simp)]
    simp
    omega
  rw [splice, e1, e2]
  simp only [repL148, List.map_append, List.map_replicate]
  rw [← List.append_assoc, List.replicate_append_replicate]
theorem repeat148 (v : Int) (n : Nat) (hn : n ≤ 1000) : Spec Try.prog 148 [ints [v], .int .i64 n] [] (fun d os' => d = .sl 0 0 1 0 n none ∧ os' = [rowI (List.replicate n v)]) := by
  refine Spec.by Try.func148 rfl (by decide) (by decide +kernel) rfl ?_
  (refine goA ?_)
  refine Ar.mk 1 (wrapu (by omega) (by omega)) ?_
  (refine goA ?_)
  refine Ar.mk (n : Int) (wrapu (by omega) (by omega)) ?_
  (refine goA ?_)
  refine Call.mk ((mul193 1 (n : Int) (by omega) (by omega) (by omega)).only _ rfl (by rintro d rfl; rfl)) ?_; rintro d os' ⟨rfl, rfl⟩
  rw [Int.one_mul]
  (refine goA ?_)
  rw [Int.toNat_natCast]
  refine App.own ?_
  (refine goA ?_)
  cases n with
  | zero =>
    refine Nm.mk 0 (Nat.min_zero _).symm ?_
    refine ⟨fun _ => ?_, fun h => absurd h (by decide)⟩
    (refine goA ?_)
    refine Loop.inv (A := Unit) (List.range 48) (fun _ => [(7, .sl 0 0 1 0 0 none), (8, .int .i64 0)]) (fun _ => [rowI []]) (fun _ => True) (fun _ => 0) () trivial ?_ ?_
    · exact Weak.start' rfl rfl tld
    intro _ _
    (refine goA ?_)
    exact Ret.mk [.tmp 4] rfl ⟨rfl, rfl⟩
  | succ n =>
    refine Nm.mk 1 (by show 1 = min 1 (n + 1); omega) ?_
    refine ⟨fun h => absurd h (by decide), fun _ => ?_⟩
    (refine goA ?_)
    refine Loop.inv (A := Nat) (List.range 48) (fun k => [(7, .sl 0 0 1 0 (n + 1) none), (8, .int .i64 (k : Int))]) (fun k => [rowI (repL148 v (n + 1) k)]) (fun k => 1 ≤ k ∧ k ≤ n + 1) (fun k => n + 1 - k) 1 ⟨Nat.le_refl _, by omega⟩ ?_ ?_
    · have h1 := rep148_splice v (n + 1) 0 1 (by omega)
      have e : (repL148 v (n + 1) 0).map (D.int .i64) = List.replicate (n + 1) (D.int .i64 0) := by simp [repL148]
      rw [e] at h1
      exact Weak.trans (Weak.objs (os' := [rowI (repL148 v (n + 1) 1)]) (congrArg (fun r => ([one (.row 3 1 true r)] : Objs)) h1)) (Weak.start' rfl rfl tld)
    intro k hk
    have hkl := rep148_len v (n + 1) k hk.2
    have hkm : ((repL148 v (n + 1) k).map (D.int .i64)).length = n + 1 := by rw [List.length_map]; exact hkl
    (refine goA ?_)
    refine Br.dec (fun h1 => ?_) (fun h1 => ?_)
    · (refine goA ?_)
      obtain ⟨j, hj⟩ : ∃ j, min k (n + 1 - k) = j := ⟨_, rfl⟩
      have hnews : List.take j (List.take ((k : Int).toNat - Int.toNat 0) (List.drop (0 + Int.toNat 0) ((repL148 v (n + 1) k).map (D.int .i64)))) = List.replicate j (D.int .i64 v) := by
        rw [show (k : Int).toNat - Int.toNat 0 = k by omega, show 0 + Int.toNat 0 = 0 by rfl, List.drop_zero, List.take_take, show min j k = j by omega]
        simp only [repL148, List.map_append, List.map_replicate]
        rw [List.take_append_of_le_length (by simp; omega), List.take_replicate]
        congr 1; omega
      have hmin : j = min (List.take ((k : Int).toNat - Int.toNat 0) (List.drop (0 + Int.toNat 0) ((repL148 v (n + 1) k).map (D.int .i64)))).length (((n + 1 : Nat) : Int).toNat - (k : Int).toNat) := by
        rw [List.length_take, List.length_drop, hkm]; omega
      refine Nm.mk j hmin ?_
      dsimp only
      rw [hnews]
      refine ⟨fun h => absurd h (by omega), fun _ => ?_⟩
      refine ⟨fun _ => by rw [← List.map_replicate]; exact pureL_map (fun _ => rfl) _, ?_⟩
      (refine goA ?_)
      refine ⟨_, _, _, ?_, ⟨k + j, ?_, rfl, rfl, rfl⟩, ?_⟩
      · show n + 1 - (k + j) < n + 1 - k; omega
      · exact ⟨by omega, by omega⟩
      · have h2 := rep148_splice v (n + 1) k j (by omega)
        have e0 : 0 + (k : Int).toNat = k := by omega
        refine Weak.backT 1 (by simp) ?_ (by kernel_rfl) (Nat.le_of_ble_eq_true rfl) tld (by kernel_rfl) (by kernel_rfl)
        rw [e0]
        exact congrArg (fun r => ([one (.row 3 1 true r)] : Objs)) h2
    · obtain rfl : k = n + 1 := by omega
      (refine goA ?_)
      refine Ret.mk [.tmp 4] rfl ⟨rfl, ?_⟩
      have e : repL148 v (n + 1) (n + 1) = List.replicate (n + 1) v := by simp [repL148]
      rw [e]
end Go.Proofs.Ytaplihoeephbeaa.V
