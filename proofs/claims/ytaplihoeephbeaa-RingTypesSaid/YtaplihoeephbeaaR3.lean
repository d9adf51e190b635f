/- R3: a text of a symbolic executor that is proved sound, and contracts that are proved with it. -/
import Derived.Test.YtaplihoeephbeaaR2
set_option linter.unusedVariables false
set_option linter.unusedSimpArgs false
namespace Go.Proofs.Ytaplihoeephbeaa.V
open Go Go.Proofs
set_option maxRecDepth 100000
set_option maxHeartbeats 40000000
theorem Spec.trimB {f : FuncId} {args : List D} {os0 os1 : Objs} {b : Bool} (k : Nat) (hk : os0.length ≤ k) (ho : os1.all (fun F => F.lt k) = true) (h : Spec Try.prog f args os0 (fun d os' => d = .bool b ∧ os'.take k = os1 ∧ k ≤ os'.length)) : Spec Try.prog f args os0 (fun d os' => d = .bool b ∧ os' = os1) := by
  refine Spec.weak h ?_
  rintro d os' ⟨rfl, h1, h2⟩
  refine ⟨_, _, Weak.trim k hk (by rw [h1]; exact ho) h2, rfl, h1⟩
/-- All are told, in their row. -/
theorem all58 {room a n : Int} {L c : List Int} (h : Rg room a n L c) (most : Int) (hm : I64 most) : Spec Try.prog 58 [.ptr 0 0 4 0 0, ints c, .int .i64 most] [rgC room a n L.length 1, rowI L] (fun d os' => d = .bool true ∧ os' = [rgC room a n L.length 1, rowI L]) := by
  have hcl : c.length ≤ 1024 := by have := h.cl; have := h.ll; have := h.rm; omega
  have hlm : (c.map (D.int .i64)).length = c.length := List.length_map ..
  refine Spec.trimB 2 (Nat.le_refl _) rfl ?_
  refine Spec.by Try.func58 rfl (by decide) (by decide +kernel) rfl ?_
  (refine goA ?_)
  refine Call.mk (all126 0 _) ?_
  rintro d os' ⟨rfl, rfl⟩
  (refine goA ?_)
  refine Rng.mk (f := 189) (fn := Try.f189) [(4, .ptr 2 0 1 0 0), (5, .ptr 3 0 1 0 0), (6, .ptr 4 0 1 0 0), (8, .ptr 6 0 1 0 0), (15, .fn (.func 189) [] [.ptr 5 0 1 0 0])] [rgC room a n L.length 1, rowI L, one (.row 23 1 false [ints c]), one (.row 3 1 false [.int .i64 most]), one (.row 4 1 false [.bool false]), one (.row 56 1 false [.ptr 0 0 4 0 0]), one (.row 3 1 false [.int .i64 0])] (Weak.only _ _ (by kernel_rfl) tld) tld rfl Try.func189 rfl rfl (by decide +kernel) rfl rfl (by decide) ?_
  intro gf tm df
  generalize hr : (⟨.ready, none, gf, tm, #[16, 17], _, _, df⟩ : Go.Loop) = r
  (refine goA ?_)
  refine Loop.inv (A := Nat) (List.range 25) (fun i => [(0, .yl 7 0), (1, .ptr 5 0 1 0 0), (9, .int .i64 n), (10, .int .i64 (i : Int))]) (fun i => [rgC room a n L.length 1, rowI L, one (.row 23 1 false [ints c]), one (.row 3 1 false [.int .i64 most]), one (.row 4 1 false [.bool false]), one (.row 56 1 false [.ptr 0 0 4 0 0]), one (.row 3 1 false [.int .i64 (i : Int)]), one (.loop r .ready none [(4, .ptr 2 0 1 0 0), (5, .ptr 3 0 1 0 0), (6, .ptr 4 0 1 0 0), (8, .ptr 6 0 1 0 0), (15, .fn (.func 189) [] [.ptr 5 0 1 0 0])])]) (fun i => i ≤ c.length) (fun i => c.length - i) 0 (Nat.zero_le _) ?_ ?_
  · exact Weak.start' rfl rfl tld
  rintro i hi
  (refine goA ?_)
  refine Br.dec (fun h0 => ?_) (fun h0 => ?_)
  · have hil : i < c.length := by have := h.nl; omega
    have hget : c[i]? = some c[i] := List.getElem?_eq_getElem hil
    have e1 : atV c i = c[i] := by
      unfold atV
      rw [if_pos (by omega), List.getD_eq_getElem?_getD, Int.toNat_natCast, hget]
      rfl
    have e2 : decide (0 ≤ (i : Int) ∧ (i : Int) < (c.length : Int)) = true := decide_eq_true (by omega)
    (refine goA ?_)
    refine Call.mk (Spec.rgR (at146 h i) 0 1 _ rfl rfl (by decide) rfl (by rintro d rfl; rfl)) ?_
    rintro d os' ⟨rfl, rfl⟩
    rw [e1, e2]
    (refine goA ?_)
    subst hr
    refine Yld.mk [(4, .ptr 2 0 1 0 0), (5, .ptr 3 0 1 0 0), (6, .ptr 4 0 1 0 0), (8, .ptr 6 0 1 0 0), (15, .fn (.func 189) [] [.ptr 5 0 1 0 0])] rfl rfl ?_
    (refine goA ?_)
    refine ⟨_, rfl, ?_⟩
    (refine goA ?_)
    refine Opt.of (get_map hget) ?_
    (refine goA ?_)
    refine Br.dec (fun h5 => ?_) (fun h5 => ?_)
    · (refine goA ?_)
      refine ⟨_, rfl, ?_⟩
      (refine goA ?_)
      refine After.mk 7 .done (some _) _ rfl (by decide) ?_
      (refine goA ?_)
      refine Br.dec (fun h6 => ?_) (fun h6 => ?_)
      · (refine goA ?_)
        refine Ret.mk [.cell 6 4] rfl ?_; (refine goA ?_)
        exact Nat.le_of_ble_eq_true rfl
      · (refine goA ?_)
        refine Ret.mk [.cell 6 4] rfl ?_; (refine goA ?_)
        exact Nat.le_of_ble_eq_true rfl
    · (refine goA ?_)
      refine ⟨_, rfl, ?_⟩
      (refine goA ?_)
      refine ⟨_, _, _, ?_, ⟨i + 1, ?_, rfl, rfl, rfl⟩, ?_⟩
      · show c.length - (i + 1) < c.length - i; omega
      · exact hil
      · refine Weak.backT 8 (by simp) (by first | rfl | kernel_rfl) (by kernel_rfl) (Nat.le_of_ble_eq_true rfl) tld (by kernel_rfl) (by kernel_rfl)
  · have hil : i = c.length := by have := h.nl; omega
    subst hil
    (refine goA ?_)
    refine After.mk 7 .ready none _ rfl (by decide) ?_
    (refine goA ?_)
    refine Ret.mk [.cell 6 4] rfl ?_; (refine goA ?_)
    exact Nat.le_of_ble_eq_true rfl
end Go.Proofs.Ytaplihoeephbeaa.V
