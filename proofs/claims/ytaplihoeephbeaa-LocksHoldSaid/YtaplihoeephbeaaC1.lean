/- C1: a text of a symbolic executor that is proved sound, and contracts that are proved with it. -/
import Derived.Test.YtaplihoeephbeaaVA
import Derived.Test.YtaplihoeephbeaaVB
import Derived.Test.YtaplihoeephbeaaVT
import Derived.Test.YtaplihoeephbeaaVC
import Derived.Test.YtaplihoeephbeaaC0
import Derived.ChangeArms
import Derived.ChangeSlices
import Derived.ChangeShapes
import Derived.WideShapes
import Derived.SizedLaws
import Derived.Carry
import Derived.OpenShut
import Derived.Test.YtaplihoeephbeaaRows
import Derived.WalkKit
import Derived.ProofKit
import Derived.ShutString
import Derived.ChangeOld
import Derived.Below
set_option linter.unusedVariables false
set_option linter.unusedSimpArgs false
section
namespace Go.Proofs.Ytaplihoeephbeaa.V
open Go Go.Proofs
set_option maxRecDepth 100000
set_option maxHeartbeats 40000000
theorem waits170 {nm nw ns : Nat} {S : Lk} (h : LkL nm nw ns S) (hb : nm ≤ 1000 ∧ nw ≤ 1000 ∧ ns ≤ 1000) (t : Int) : Spec Try.prog 170 [lkV S, .int .i64 t] [] (fun d os' => (∃ b, d = .bool b) ∧ os' = []) := by
  obtain ⟨h1, h2, h3, h4, h5⟩ := h.b0 hb
  have q1 := h.l1
  have q2 := h.l2
  have q3 := h.l3
  obtain ⟨W, hW⟩ : ∃ W : List (List (List Int)), W = [S.lk, S.wq, S.dq] := ⟨_, rfl⟩
  have hWl : W.length = 3 := by rw [hW]; rfl
  have hWq : ∀ A ∈ W, A.length ≤ 1000 ∧ ∀ L ∈ A, L.length ≤ 1000 := by
    intro A hA
    rw [hW] at hA
    simp at hA
    rcases hA with rfl | rfl | rfl
    · exact ⟨h3, q1⟩
    · exact ⟨h4, q2⟩
    · exact ⟨h5, q3⟩
  have hWm : (W.map lists).length = 3 := by rw [List.length_map]; exact hWl
  refine Spec.by Try.func170 rfl (by decide) (by decide +kernel) rfl ?_
  (refine goR ?_)
  ((with_reducible refine Pt.go ?_); conv => whnf)
  (refine goR ?_)
  ((with_reducible refine Pt.go ?_); conv => whnf)
  (refine goR ?_)
  refine App.only false rfl rfl ?_
  (refine goR ?_)
  have hWe : [lists S.lk, lists S.wq, lists S.dq] = W.map lists := by rw [hW]; rfl
  refine Pt.weak (Weak.on [(1, .int .i64 t), (4, .bool false), (5, .lst 1 false [lists S.lk, lists S.wq, lists S.dq])] [one (.row 93 10 false [lkV S])]) ?_
  rw [hWe]
  (refine goA ?_)
  refine Loop.inv (A := Nat) (List.range 53) (fun i => [(1, .int .i64 t), (4, .bool false), (5, .lst 1 false (W.map lists)), (6, .int .i64 (i : Int))]) (fun _ => [one (.row 93 10 false [lkV S])]) (fun i => i ≤ 3) (fun i => 3 - i) 0 (Nat.zero_le _) ?_ ?_
  · exact Weak.start' rfl rfl tld
  intro i hi
  (refine goA ?_)
  refine Br.dec (fun h0 => ?_) (fun h0 => ?_)
  · have hil : i < W.length := by omega
    obtain ⟨A, hA⟩ : ∃ A, W[i]? = some A := ⟨_, List.getElem?_eq_getElem hil⟩
    obtain ⟨hA1, hA2⟩ := hWq A (List.mem_of_getElem? hA)
    have hAm : (A.map ints).length = A.length := List.length_map ..
    (refine goA ?_)
    refine Loop.inv (A := Nat) (List.range 53) (fun k => [(1, .int .i64 t), (4, .bool false), (5, .lst 1 false (W.map lists)), (6, .int .i64 (i : Int)), (7, .int .i64 (k : Int))]) (fun _ => [one (.row 93 10 false [lkV S])]) (fun k => k ≤ A.length) (fun k => A.length - k) 0 (Nat.zero_le _) ?_ ?_
    · exact Weak.start' rfl rfl tld
    intro k hk
    (refine goA ?_)
    refine Opt.of (get_map hA) ?_
    (refine goA ?_)
    refine Br.dec (fun h6 => ?_) (fun h6 => ?_)
    · have hkl : k < A.length := by omega
      obtain ⟨L, hL⟩ : ∃ L, A[k]? = some L := ⟨_, List.getElem?_eq_getElem hkl⟩
      have hL2 := hA2 L (List.mem_of_getElem? hL)
      have hLm : (L.map (D.int .i64)).length = L.length := List.length_map ..
      (refine goA ?_)
      refine Loop.inv (A := Nat) (List.range 53) (fun j => [(1, .int .i64 t), (4, .bool false), (5, .lst 1 false (W.map lists)), (6, .int .i64 (i : Int)), (7, .int .i64 (k : Int)), (8, .int .i64 (j : Int))]) (fun _ => [one (.row 93 10 false [lkV S])]) (fun j => j ≤ L.length) (fun j => L.length - j) 0 (Nat.zero_le _) ?_ ?_
      · exact Weak.start' rfl rfl tld
      intro j hj
      (refine goA ?_)
      refine Opt.of (get_map hA) ?_
      (refine goA ?_)
      refine Opt.of (get_map hL) ?_
      (refine goA ?_)
      refine Br.dec (fun h7 => ?_) (fun h7 => ?_)
      · have hjl : j < L.length := by omega
        obtain ⟨v, hv⟩ : ∃ v, L[j]? = some v := ⟨_, List.getElem?_eq_getElem hjl⟩
        (refine goA ?_)
        refine Opt.of (get_map hA) ?_
        (refine goA ?_)
        refine Opt.of (get_map hL) ?_
        (refine goA ?_)
        refine Opt.of (get_map hv) ?_
        (refine goA ?_)
        refine Br.dec (fun h8 => ?_) (fun h8 => ?_)
        · (refine goA ?_)
          refine Ret.trim 0 (by simp) rfl (Nat.le_of_ble_eq_true rfl) ?_
          exact Ret.mk [.tmp _] rfl ⟨⟨_, rfl⟩, rfl⟩
        · (refine goA ?_)
          refine ⟨_, _, _, ?_, ⟨j + 1, ?_, rfl, rfl, rfl⟩, ?_⟩
          · show L.length - (j + 1) < L.length - j; omega
          · exact hjl
          · refine Weak.backT 1 (by simp) (by first | rfl | kernel_rfl) (by kernel_rfl) (Nat.le_of_ble_eq_true rfl) tld (by kernel_rfl) (by kernel_rfl)
      · (refine goA ?_)
        refine ⟨_, _, _, ?_, ⟨k + 1, ?_, rfl, rfl, rfl⟩, ?_⟩
        · show A.length - (k + 1) < A.length - k; omega
        · exact hkl
        · refine Weak.backT 1 (by simp) (by first | rfl | kernel_rfl) (by kernel_rfl) (Nat.le_of_ble_eq_true rfl) tld (by kernel_rfl) (by kernel_rfl)
    · (refine goA ?_)
      refine ⟨_, _, _, ?_, ⟨i + 1, ?_, rfl, rfl, rfl⟩, ?_⟩
      · show 3 - (i + 1) < 3 - i; omega
      · show i + 1 ≤ 3; omega
      · refine Weak.backT 1 (by simp) (by first | rfl | kernel_rfl) (by kernel_rfl) (Nat.le_of_ble_eq_true rfl) tld (by kernel_rfl) (by kernel_rfl)
  · (refine goA ?_)
    refine Ret.trim 0 (by simp) rfl (Nat.le_of_ble_eq_true rfl) ?_
    exact Ret.mk [.tmp _] rfl ⟨⟨_, rfl⟩, rfl⟩
/-- The state of locks, only read. -/
theorem lk_view {os : Objs} {S : Lk} {nm nw ns a b c d e : Nat} (h : LkL nm nw ns S) (ha : os.at a 0 = .row 3 1 true (S.ow.map (D.int .i64))) (hb : os.at b 0 = .row 3 1 true (S.co.map (D.int .i64)))
    (hc : os.at c 0 = .row 23 1 true (S.lk.map ints)) (hd : os.at d 0 = .row 23 1 true (S.wq.map ints)) (he : os.at e 0 = .row 23 1 true (S.dq.map ints)) :
    View allF os (.agg [.int .i64 0, .nils, .sl a 0 1 0 nm none, .sl b 0 1 0 ns none, .nils, .sl c 0 1 0 nm none, .sl d 0 1 0 nw none, .sl e 0 1 0 ns none, .nils, .nils]) (lkV S) :=
  View.agg (.cons (.same _) (.cons (.same _) (.cons (View.slAll rfl ha (by rw [List.length_map]; exact h.ow) (by simp) (ViewL.same _) (pureL_map (fun _ => rfl) _)) (.cons (View.slAll rfl hb (by rw [List.length_map]; exact h.co) (by simp) (ViewL.same _) (pureL_map (fun _ => rfl) _)) (.cons (.same _)
    (.cons (View.slAll rfl hc (by rw [List.length_map]; exact h.lk) (by simp) (ViewL.same _) (pureL_rows _)) (.cons (View.slAll rfl hd (by rw [List.length_map]; exact h.wq) (by simp) (ViewL.same _) (pureL_rows _)) (.cons (View.slAll rfl he (by rw [List.length_map]; exact h.dq) (by simp) (ViewL.same _) (pureL_rows _)) (.cons (.same _) (.cons (.same _) .nil))))))))))
@[reducible] def cZ : Fam := one (.row 93 10 false [.agg [.int .i64 0, .nils, .nils, .nils, .nils, .nils, .nils, .nils, .nils, .nils]])
theorem begin101 (x y : Int) (l : List Int) (hx : I64 x) (hy : I64 y) (hl : ∀ v ∈ l, I64 v) (hl2 : l.length ≤ 1000000000000000000) : Spec Try.prog 101 [.int .i64 x, .int .i64 y, ints l] []
    (fun d os' => ∃ nm nw ns S, (LkG nm nw ns 0 S ∧ nm ≤ 4 ∧ nw ≤ 4 ∧ ns ≤ 4) ∧ d = .tup [lkD nm nw ns, lkV S, .bool true] ∧ os' = lkR S) := by
  have hlm : (l.map (D.int .i64)).length = l.length := List.length_map ..
  refine Spec.weak (post := fun d os' => ∃ (nm nw ns : Nat) (S : Lk) (x1 x2 x3 x4 x5 : Fam), (LkG nm nw ns 0 S ∧ nm ≤ 4 ∧ nw ≤ 4 ∧ ns ≤ 4) ∧ d = .tup [.agg [.int .i64 0, .nils, .sl 3 0 1 0 nm none, .sl 4 0 1 0 ns none, .nils, .sl 5 0 1 0 nm none, .sl 6 0 1 0 nw none, .sl 7 0 1 0 ns none, .nils, .nils], lkV S, .bool true] ∧ os' = [x1, x2, one .gone, rowI S.ow, rowI S.co, rowC S.lk, rowC S.wq, rowC S.dq, x4, x5]) ?_ ?_
  rotate_left
  · rintro d os' ⟨nm, nw, ns, S, x1, x2, x3, x4, x5, hg, rfl, rfl⟩
    refine ⟨[(0, .tup [lkD nm nw ns, lkV S, .bool true])], lkR S, ?_, nm, nw, ns, S, hg, rfl, rfl⟩
    refine Weak.trans (Weak.frzK (fun i => Nat.blt i 2 || Nat.blt 7 i) [] trivial) ?_
    refine Weak.trans (Weak.on [(0, .tup [.agg [.int .i64 0, .nils, .sl 3 0 1 0 nm none, .sl 4 0 1 0 ns none, .nils, .sl 5 0 1 0 nm none, .sl 6 0 1 0 nw none, .sl 7 0 1 0 ns none, .nils, .nils], lkV S, .bool true])] [one .gone, one .gone, one .gone, rowI S.ow, rowI S.co, rowC S.lk, rowC S.wq, rowC S.dq, one .gone, one .gone]) ?_
    refine Weak.shf 3 0 (Weak.shf 4 1 ?_)
    refine Weak.trans (Weak.on [(0, .tup [.agg [.int .i64 0, .nils, .sl 0 0 1 0 nm none, .sl 1 0 1 0 ns none, .nils, .sl 5 0 1 0 nm none, .sl 6 0 1 0 nw none, .sl 7 0 1 0 ns none, .nils, .nils], lkV S, .bool true])] [rowI S.ow, rowI S.co, one .gone, one .gone, one .gone, rowC S.lk, rowC S.wq, rowC S.dq, one .gone, one .gone]) ?_
    refine Weak.shf 5 2 (Weak.shf 6 3 ?_)
    refine Weak.trans (Weak.on [(0, .tup [.agg [.int .i64 0, .nils, .sl 0 0 1 0 nm none, .sl 1 0 1 0 ns none, .nils, .sl 2 0 1 0 nm none, .sl 3 0 1 0 nw none, .sl 7 0 1 0 ns none, .nils, .nils], lkV S, .bool true])] [rowI S.ow, rowI S.co, rowC S.lk, rowC S.wq, one .gone, one .gone, one .gone, rowC S.dq, one .gone, one .gone]) ?_
    refine Weak.shf 7 4 ?_
    refine Weak.trans (Weak.on [(0, .tup [lkD nm nw ns, lkV S, .bool true])] [rowI S.ow, rowI S.co, rowC S.lk, rowC S.wq, rowC S.dq, one .gone, one .gone, one .gone, one .gone, one .gone]) ?_
    exact Weak.trim 5 (Nat.zero_le _) rfl (Nat.le_of_ble_eq_true rfl)
  refine Spec.by Try.func101 rfl (by decide) (by decide +kernel) rfl ?_
  (refine goA ?_)
  refine Call.mk ((around33 x 5 hx (by omega)).only _ rfl (by rintro d rfl; rfl)) ?_; rintro d os' ⟨rfl, rfl⟩
  have hnm := around_lt x 5 (by omega)
  obtain ⟨nm, hne⟩ : ∃ n : Nat, around x 5 = n := ⟨(around x 5).toNat, by omega⟩
  rw [hne] at hnm ⊢
  (refine goA ?_)
  refine Call.mk ((around33 y 5 hy (by omega)).only _ rfl (by rintro d rfl; rfl)) ?_; rintro d os' ⟨rfl, rfl⟩
  have hnw := around_lt y 5 (by omega)
  obtain ⟨nw, hwe⟩ : ∃ n : Nat, around y 5 = n := ⟨(around y 5).toNat, by omega⟩
  rw [hwe] at hnw ⊢
  (refine goR ?_)
  ((with_reducible refine Pt.go ?_); conv => whnf)
  (refine goR ?_)
  refine Pt.weak (Weak.trans (Weak.on [(0, .int .i64 (nm : Int)), (1, .int .i64 (nw : Int)), (2, ints l), (6, .ptr 0 0 10 0 0), (7, .ptr 1 0 10 0 0), (9, .nils)] [cZ, cZ]) (Weak.nilrow 9 rfl 3 1 true)) ?_
  (refine goA ?_)
  refine Loop.inv2 (A := Nat × List Int) 0 (List.range 48) (fun a => [(0, .int .i64 (nm : Int)), (1, .int .i64 (nw : Int)), (2, ints l), (6, .ptr 0 0 10 0 0), (7, .ptr 1 0 10 0 0), (9, .sl 2 0 1 0 a.2.length none), (10, .int .i64 (a.1 : Int))]) (fun a => [cZ, cZ, rowI a.2])
    (fun a => a.1 ≤ 4 ∧ a.1 ≤ l.length ∧ a.2.length = a.1 ∧ ∀ v ∈ a.2, 0 ≤ v ∧ v ≤ 3) (fun a => a.2.length ≤ 4 ∧ ∀ v ∈ a.2, 0 ≤ v ∧ v ≤ 3) (fun a => 4 - a.1) (0, []) ⟨Nat.zero_le _, Nat.zero_le _, rfl, by simp⟩ ?_ ?_ ?_
  · exact Weak.start' rfl rfl tld
  · intro cont
    rintro ⟨i, s⟩ ⟨hi, hil, hsl, hs⟩
    dsimp only at hi hil hsl hs ⊢
    have hsm : (s.map (D.int .i64)).length = s.length := List.length_map ..
    (refine goA ?_)
    refine Br.dec (fun h0 => ?_) (fun h0 => ?_)
    · (refine goA ?_)
      refine Br.dec (fun h6 => ?_) (fun h6 => ?_)
      · have hlt : i < l.length := by omega
        obtain ⟨v, hv⟩ : ∃ v, l[i]? = some v := ⟨_, List.getElem?_eq_getElem hlt⟩
        have hv64 := hl v (List.mem_of_getElem? hv)
        have hva := around_lt v 4 (by omega)
        (refine goA ?_)
        refine Opt.of (get_map hv) ?_
        (refine goA ?_)
        refine Call.mk ((around33 v 4 hv64 (by omega)).only _ rfl (by rintro d rfl; rfl)) ?_; rintro d os' ⟨rfl, rfl⟩
        (refine goA ?_)
        refine App.only false rfl rfl ?_
        (refine goA ?_)
        refine ⟨_, _, _, ?_, ⟨(i + 1, s ++ [around v 4]), ?_, rfl, rfl, rfl⟩, ?_⟩
        · show 4 - (i + 1) < 4 - i; omega
        · refine ⟨by omega, hlt, by rw [List.length_append, List.length_singleton, hsl], fun u hu => ?_⟩
          rcases List.mem_append.1 hu with hu | hu
          · exact hs u hu
          · simp at hu; omega
        · refine Weak.trans (Weak.on [(0, .int .i64 (nm : Int)), (1, .int .i64 (nw : Int)), (2, ints l), (6, .ptr 0 0 10 0 0), (7, .ptr 1 0 10 0 0), (9, .sl 3 0 1 0 (s.length + 1) none), (10, .int .i64 ((i : Int) + 1))] [cZ, cZ, one .gone, one (.row 3 1 true (s.map (D.int .i64) ++ [D.int .i64 (around v 4)]))]) ?_
          rw [map_snoc, show s.length + 1 = (s ++ [around v 4]).length by rw [List.length_append, List.length_singleton]]
          refine Weak.trans (Weak.shift 3 2 (by decide) (by simp) (Nat.le_of_ble_eq_true rfl) (Nat.le_of_ble_eq_true rfl) (fun j => by cases j <;> rfl) rfl) ?_
          refine Weak.backT 3 (by simp) (by first | rfl | kernel_rfl) (by kernel_rfl) (Nat.le_of_ble_eq_true rfl) tld (by kernel_rfl) (by kernel_rfl)
      · (refine goR ?_)
        refine Pt.weak ?_ (cont.h ((i, s)) ?_)
        · refine Weak.backT 3 (by simp) (by first | rfl | kernel_rfl) (by kernel_rfl) (Nat.le_of_ble_eq_true rfl) tld (by kernel_rfl) (by kernel_rfl)
        · exact ⟨by show s.length ≤ 4; omega, hs⟩
    · (refine goR ?_)
      refine Pt.weak ?_ (cont.h ((i, s)) ?_)
      · refine Weak.backT 3 (by simp) (by first | rfl | kernel_rfl) (by kernel_rfl) (Nat.le_of_ble_eq_true rfl) tld (by kernel_rfl) (by kernel_rfl)
      · exact ⟨by show s.length ≤ 4; omega, hs⟩
  · rintro ⟨i, s⟩ ⟨hs4, hs⟩
    dsimp only at hs4 hs ⊢
    have hsm : (s.map (D.int .i64)).length = s.length := List.length_map ..
    have hg := newG nm nw s (fun v hv => by have := hs v hv; omega)
    (refine goR ?_)
    refine Pt.frz (fun i => Nat.beq i 2) [(9, ints s)] ⟨View.slAll rfl rfl hsm (by simp) (ViewL.same _) (pureL_map (fun _ => rfl) _), trivial⟩ ?_
    (refine goA ?_)
    refine Call.mk ((new66 nm nw s (by omega) (by omega) (by omega)).onto _ rfl) ?_
    rintro d os' ⟨d1, os1, ⟨rfl, rfl⟩, rfl, rfl⟩
    (refine goA ?_)
    refine Call.mk ((new169 nm nw s (by omega) (by omega) (by omega)).only _ rfl (by rintro d rfl; rfl)) ?_; rintro d os' ⟨rfl, rfl⟩
    (refine goA ?_)
    refine Call.mk ((same103 hg.l (by omega)).read (.cons (lk_view hg.l rfl rfl rfl rfl rfl) (.cons (.same _) .nil)) rfl (by rintro d rfl; exact ⟨rfl, rfl⟩)) ?_
    rintro d os' ⟨rfl, rfl⟩
    (refine goA ?_)
    refine Ret.mk [.cell 6 93, .cell 7 93, .tmp 8] rfl ?_
    exact ⟨nm, nw, s.length, newS nm nw s, _, _, one .gone, _, _, ⟨hg, by omega, by omega, hs4⟩, rfl, rfl⟩
end Go.Proofs.Ytaplihoeephbeaa.V
end
section
namespace Go.Proofs.Ytaplihoeephbeaa.V
open Go Go.Proofs
set_option maxRecDepth 100000
set_option maxHeartbeats 40000000
@[reducible] def dlD (kd t x : Int) : D := .agg [.int .i64 kd, .int .i64 t, .int .i64 x]
theorem tupb {a : D} {p : Prop} [i : Decidable p] (h : p) : D.tup [a, .bool (decide p)] = D.tup [a, .bool true] := by rw [decide_eq_true h]
/-- What a deed comes to. -/
@[reducible] def dlPost (nm nw ns k : Nat) : D → Objs → Prop := fun d os' => ∃ S', (d = .tup [lkV S', .bool true] ∧ LkG nm nw ns (k + 1) S') ∧ os' = lkO nm nw ns S' []
theorem Spec.lkTrim {f : FuncId} {args : List D} {nm nw ns k : Nat} {S : Lk} (h : Spec Try.prog f args (lkO nm nw ns S []) (fun d os' => ∃ S' r, (d = .tup [lkV S', .bool true] ∧ LkG nm nw ns (k + 1) S') ∧ os' = lkO nm nw ns S' r)) : Spec Try.prog f args (lkO nm nw ns S []) (dlPost nm nw ns k) := by
  refine Spec.weak h ?_
  rintro d os' ⟨S', r, ⟨rfl, hg⟩, rfl⟩
  exact ⟨_, _, Weak.trim 6 (Nat.le_refl _) rfl (Nat.le_add_left 6 r.length), S', ⟨rfl, hg⟩, rfl⟩
theorem mutexes171 {nm nw ns k : Nat} {S : Lk} (h : LkG nm nw ns k S) (hk : k ≤ 999) (hb : (1 ≤ nm ∧ nm ≤ 4) ∧ nw ≤ 4 ∧ ns ≤ 4) (kd T x t : Int) (hx : I64 x) (ht : 0 ≤ t) : Spec Try.prog 171 [lkP, lkV S, dlD kd T x, .int .i64 t] (lkO nm nw ns S []) (dlPost nm nw ns k) := by
  refine Spec.lkTrim ?_
  have hb' : nm ≤ 1000 ∧ nw ≤ 1000 ∧ ns ≤ 1000 := by omega
  have hom : (S.ow.map (D.int .i64)).length = nm := by rw [List.length_map]; exact h.l.ow
  have hwm : (S.wq.map ints).length = nw := by rw [List.length_map]; exact h.l.wq
  have up : ∀ {S' : Lk}, LkG nm nw ns k S' → LkG nm nw ns (k + 1) S' := fun g => ⟨g.l, g.n, g.h, Nat.le_succ_of_le g.t⟩
  have ebb : ∀ b : Bool, (b == b) = true := fun b => by cases b <;> rfl
  refine Spec.by Try.func171 rfl (by decide) (by decide +kernel) rfl ?_
  (refine goA ?_)
  refine Call.mk ((around33 x ((S.ow.map (D.int .i64)).length : Nat) hx (by rw [hom]; omega)).only _ rfl (by rintro d rfl; rfl)) ?_; rintro d os' ⟨rfl, rfl⟩
  rw [hom]
  have hma := around_lt x nm (by omega)
  obtain ⟨m, hme⟩ : ∃ n : Nat, around x nm = n := ⟨(around x nm).toNat, by omega⟩
  rw [hme] at hma ⊢
  have hm : m < nm := by omega
  (refine goA ?_)
  refine Br.dec (fun h0 => ?_) (fun h0 => ?_)
  · (refine goA ?_)
    refine Call.mk ((lock213 h.l h.n hb' m hm t).only _ rfl (by rintro d rfl; rfl)) ?_; rintro d os' ⟨rfl, rfl⟩
    (refine goA ?_)
    refine Call.mk (lock67 h.l m hm t _) ?_
    rintro d os' ⟨rfl, rfl⟩
    (refine goA ?_)
    rw [ebb]
    exact Ret.mk [.cell 8 93, .tmp 9] rfl ⟨_, _, ⟨rfl, lockG h hk hm ht⟩, rfl⟩
  (refine goA ?_)
  refine Br.dec (fun h1 => ?_) (fun h1 => ?_)
  · (refine goA ?_)
    refine Call.mk ((unlock214 h.l hb' m hm t).only _ rfl (by rintro d rfl; rfl)) ?_; rintro d os' ⟨rfl, rfl⟩
    (refine goA ?_)
    refine Call.mk (unlock68 h.l m hm t _) ?_
    rintro d os' ⟨rfl, rfl⟩
    (refine goA ?_)
    exact Ret.mk [.cell 8 93, .tmp 9] rfl ⟨_, _, ⟨tupb rfl, up (unlockG h hm t)⟩, rfl⟩
  (refine goA ?_)
  refine Br.dec (fun h2 => ?_) (fun h2 => ?_)
  · (refine goA ?_)
    exact Ret.mk [.cell 8 93, .tmp 9] rfl ⟨_, _, ⟨rfl, up h⟩, rfl⟩
  (refine goA ?_)
  refine Call.mk ((around33 x ((S.wq.map ints).length : Nat) hx (by omega)).only _ rfl (by rintro d rfl; rfl)) ?_; rintro d os' ⟨rfl, rfl⟩
  rw [hwm]
  have hca := around_lt x nw (by omega)
  obtain ⟨c, hce⟩ : ∃ n : Nat, around x nw = n := ⟨(around x nw).toNat, by omega⟩
  rw [hce] at hca ⊢
  have hc : c < nw := by omega
  have e10 : (c : Int).tmod (((S.ow.map (D.int .i64)).length : Nat) : Int) = ((c % nm : Nat) : Int) := by rw [hom, Int.tmod_eq_emod_of_nonneg (by omega)]; omega
  have hm2 : c % nm < nm := Nat.mod_lt _ (by omega)
  obtain ⟨m2, hme2⟩ : ∃ n : Nat, c % nm = n := ⟨_, rfl⟩
  rw [hme2] at e10 hm2
  (refine goA ?_)
  refine Br.dec (fun h3 => ?_) (fun h3 => ?_)
  · (refine goA ?_)
    rw [e10]
    refine Call.mk ((wait215 h.l hb' c m2 hc hm2 t).only _ rfl (by rintro d rfl; rfl)) ?_; rintro d os' ⟨rfl, rfl⟩
    (refine goA ?_)
    refine Call.mk (wait89 h.l c m2 hc hm2 t _) ?_
    rintro d os' ⟨rfl, rfl⟩
    (refine goA ?_)
    exact Ret.mk [.cell 8 93, .tmp 9] rfl ⟨_, _, ⟨tupb rfl, waitG h hk hc hm2 ht⟩, rfl⟩
  (refine goA ?_)
  refine Br.dec (fun h4 => ?_) (fun h4 => ?_)
  · (refine goA ?_)
    rw [e10]
    refine Call.mk ((signal216 h.l h.n hb' c m2 hc hm2).only _ rfl (by rintro d rfl; rfl)) ?_; rintro d os' ⟨rfl, rfl⟩
    (refine goA ?_)
    refine Call.mk (signal90 h.l h.n c m2 hc hm2 _) ?_
    rintro d os' ⟨rfl, rfl⟩
    (refine goA ?_)
    rw [ebb]
    exact Ret.mk [.cell 8 93, .tmp 9] rfl ⟨_, _, ⟨rfl, up (signalG h hc hm2)⟩, rfl⟩
  (refine goA ?_)
  rw [e10]
  refine Call.mk ((broad217 h.l h.n hb' c m2 hc hm2).only _ rfl (by rintro d rfl; rfl)) ?_; rintro d os' ⟨rfl, rfl⟩
  (refine goA ?_)
  refine Call.mk (broad91 h.l h.n c m2 hc hm2 _) ?_
  rintro d os' ⟨rfl, rfl⟩
  (refine goA ?_)
  refine Call.mk ((same50 (broadS S c m2).2.1 (broadS S c m2).2.1 (by have := broad_len h.l (c := c) (m := m2) hc; omega)).only _ rfl (by rintro d rfl; rfl)) ?_; rintro d os' ⟨rfl, rfl⟩
  rw [decide_eq_true (rfl : (broadS S c m2).2.1 = (broadS S c m2).2.1)]
  (refine goA ?_)
  exact Ret.mk [.cell 8 93, .tmp 9] rfl ⟨_, _, ⟨tupb rfl, up (broadG h hc hm2)⟩, rfl⟩
end Go.Proofs.Ytaplihoeephbeaa.V
end
section
namespace Go.Proofs.Ytaplihoeephbeaa.V
open Go Go.Proofs
set_option maxRecDepth 100000
set_option maxHeartbeats 40000000
theorem mutexes171o {nm nw ns k : Nat} {S : Lk} (h : LkG nm nw ns k S) (hk : k ≤ 999) (hb : (1 ≤ nm ∧ nm ≤ 4) ∧ nw ≤ 4 ∧ ns ≤ 4) (kd T x t : Int) (hx : I64 x) (ht : 0 ≤ t) (r : Objs) : Spec Try.prog 171 [lkP, lkV S, dlD kd T x, .int .i64 t] (lkO nm nw ns S r)
    (fun d os' => ∃ S', (d = .tup [lkV S', .bool true] ∧ LkG nm nw ns (k + 1) S') ∧ os' = lkO nm nw ns S' r) :=
  lk_frame (mutexes171 h hk hb kd T x t hx ht) rfl (by rintro d S' ⟨rfl, _⟩; rfl) r
theorem does102 {nm nw ns k : Nat} {S : Lk} (h : LkG nm nw ns k S) (hk : k ≤ 999) (hb : nm ≤ 4 ∧ nw ≤ 4 ∧ ns ≤ 4) (kd T x : Int) (hT : I64 T) (hx : I64 x) : Spec Try.prog 102 [lkP, lkV S, dlD kd T x] (lkO nm nw ns S []) (dlPost nm nw ns k) := by
  refine Spec.lkTrim ?_
  have hb' : nm ≤ 1000 ∧ nw ≤ 1000 ∧ ns ≤ 1000 := by omega
  have hom : (S.ow.map (D.int .i64)).length = nm := by rw [List.length_map]; exact h.l.ow
  have hcm : (S.co.map (D.int .i64)).length = ns := by rw [List.length_map]; exact h.l.co
  have up : ∀ {S' : Lk}, LkG nm nw ns k S' → LkG nm nw ns (k + 1) S' := fun g => ⟨g.l, g.n, g.h, Nat.le_succ_of_le g.t⟩
  have ebb : ∀ b : Bool, (b == b) = true := fun b => by cases b <;> rfl
  refine Spec.by Try.func102 rfl (by decide) (by decide +kernel) rfl ?_
  (refine goA ?_)
  refine Call.mk ((around33 T 8 hT (by omega)).only _ rfl (by rintro d rfl; rfl)) ?_; rintro d os' ⟨rfl, rfl⟩
  have hta := around_lt T 8 (by omega)
  obtain ⟨t, hte⟩ : ∃ t, around T 8 = t := ⟨_, rfl⟩
  rw [hte] at hta ⊢
  have ht := hta.1
  (refine goA ?_)
  refine Call.mk ((waits170 h.l hb' t).only _ rfl (by rintro d ⟨b, rfl⟩; rfl)) ?_
  rintro d os' ⟨⟨b, rfl⟩, rfl⟩
  cases b with
  | true =>
    (refine goA ?_)
    exact Ret.mk [.cell 6 93, .tmp 7] rfl ⟨_, _, ⟨rfl, up h⟩, rfl⟩
  | false =>
    (refine goR ?_)
    apply cutG (A := Unit) (n0 := 6) (fun _ => [(0, lkP), (4, .ptr 6 0 10 0 0), (5, .ptr 7 0 3 0 0), (6, .ptr 8 0 10 0 0), (8, .int .i64 t)]) (fun _ => lkO nm nw ns S [one (.row 93 10 false [lkV S]), one (.row 153 3 false [dlD kd T x]), cZ]) (fun _ => True)
    · intro key
      (refine goA ?_)
      refine Br.dec (fun h0 => ?_) (fun h0 => ?_)
      · (refine goA ?_)
        refine Br.dec (fun h4 => ?_) (fun h4 => ?_)
        · (refine goA ?_)
          refine Br.dec (fun h5 => ?_) (fun h5 => ?_)
          · (refine goA ?_)
            exact Ret.mk [.cell 6 93, .tmp 7] rfl ⟨_, _, ⟨rfl, up h⟩, rfl⟩
          · (refine goA ?_)
            refine Call.mk (mutexes171o h hk (by omega) kd T x t hx ht _) ?_
            rintro d os' ⟨S', ⟨rfl, hg⟩, rfl⟩
            (refine goA ?_)
            exact Ret.mk [.cell 6 93, .tmp 7] rfl ⟨_, _, ⟨rfl, hg⟩, rfl⟩
        · (refine goR ?_)
          exact Pt.weak (Weak.on _ _ (by kernel_rfl) tld) (key () trivial)
      · (refine goR ?_)
        exact Pt.weak (Weak.on _ _ (by kernel_rfl) tld) (key () trivial)
    · rintro _ _
      ((with_reducible refine Pt.go ?_); conv => whnf)
      (refine goA ?_)
      refine Br.dec (fun h5 => ?_) (fun h5 => ?_)
      · (refine goA ?_)
        exact Ret.mk [.cell 6 93, .tmp 7] rfl ⟨_, _, ⟨rfl, up h⟩, rfl⟩
      (refine goA ?_)
      refine Call.mk ((around33 x ((S.co.map (D.int .i64)).length : Nat) hx (by omega)).only _ rfl (by rintro d rfl; rfl)) ?_; rintro d os' ⟨rfl, rfl⟩
      rw [hcm]
      have hma := around_lt x ns (by omega)
      obtain ⟨m, hme⟩ : ∃ n : Nat, around x ns = n := ⟨(around x ns).toNat, by omega⟩
      rw [hme] at hma ⊢
      have hm : m < ns := by omega
      (refine goA ?_)
      refine Br.dec (fun h6 => ?_) (fun h6 => ?_)
      · (refine goA ?_)
        refine Call.mk ((down172 h.l h.n hb' m hm t).only _ rfl (by rintro d rfl; rfl)) ?_; rintro d os' ⟨rfl, rfl⟩
        (refine goA ?_)
        refine Call.mk (down71 h.l h.n m hm t _) ?_
        rintro d os' ⟨rfl, rfl⟩
        (refine goA ?_)
        rw [ebb]
        exact Ret.mk [.cell 6 93, .tmp 7] rfl ⟨_, _, ⟨rfl, downG h hk hm ht⟩, rfl⟩
      · (refine goA ?_)
        refine Call.mk ((up173 h.l h.n hb' m hm).only _ rfl (by rintro d rfl; rfl)) ?_; rintro d os' ⟨rfl, rfl⟩
        (refine goA ?_)
        refine Call.mk (up72 h.l h.n m hm _) ?_
        rintro d os' ⟨rfl, rfl⟩
        (refine goA ?_)
        exact Ret.mk [.cell 6 93, .tmp 7] rfl ⟨_, _, ⟨tupb rfl, up (upG h hm)⟩, rfl⟩
theorem does102o {nm nw ns k : Nat} {S : Lk} (h : LkG nm nw ns k S) (hk : k ≤ 999) (hb : nm ≤ 4 ∧ nw ≤ 4 ∧ ns ≤ 4) (kd T x : Int) (hT : I64 T) (hx : I64 x) (r : Objs) : Spec Try.prog 102 [lkP, lkV S, dlD kd T x] (lkO nm nw ns S r)
    (fun d os' => ∃ S', (d = .tup [lkV S', .bool true] ∧ LkG nm nw ns (k + 1) S') ∧ os' = lkO nm nw ns S' r) :=
  lk_frame (does102 h hk hb kd T x hT hx) rfl (by rintro d S' ⟨rfl, _⟩; rfl) r
end Go.Proofs.Ytaplihoeephbeaa.V
end
section
namespace Go.Proofs.Ytaplihoeephbeaa.V
open Go Go.Proofs
set_option maxRecDepth 100000
set_option maxHeartbeats 40000000
@[reducible] def dlT (x : Int × Int × Int) : D := dlD x.1 x.2.1 x.2.2
@[reducible] def dls (l : List (Int × Int × Int)) : D := .lst 3 false (l.map dlT)
def dlok (l : List (Int × Int × Int)) : Prop := l.length * 24 ≤ 140737488351232 ∧ ∀ x ∈ l, I64 x.1 ∧ I64 x.2.1 ∧ I64 x.2.2
end Go.Proofs.Ytaplihoeephbeaa.V
end
section
namespace Go.Proofs.Ytaplihoeephbeaa.V
open Go Go.Proofs
set_option maxRecDepth 100000
set_option maxHeartbeats 40000000
theorem law27 (x y : Int) (se : List Int) (l : List (Int × Int × Int)) (hx : I64 x) (hy : I64 y) (hse : lok se) (hl : dlok l) : Spec Try.prog 27 [.int .i64 x, .int .i64 y, ints se, dls l] [] (fun d _ => d = .bool true) := by
  have hlm : (l.map dlT).length = l.length := List.length_map ..
  have hl1 := hl.1
  have hs1 := hse.1
  refine Spec.by Try.func27 rfl (by decide) (by decide +kernel) rfl ?_
  (refine goA ?_)
  refine Call.mk (begin101 x y se hx hy hse.2 (by omega)) ?_
  rintro d os' ⟨nm, nw, ns, S, ⟨hg, b1, b2, b3⟩, rfl, rfl⟩
  (refine goA ?_)
  refine Loop.inv (A := Nat × Lk) (List.range 120) (fun a => [(3, dls l), (9, lkP), (10, .ptr 6 0 10 0 0), (12, .int .i64 (a.1 : Int))]) (fun a => lkO nm nw ns a.2 [one (.row 93 10 false [lkV a.2])]) (fun a => a.1 ≤ 60 ∧ a.1 ≤ l.length ∧ LkG nm nw ns a.1 a.2) (fun a => 60 - a.1) (0, S) ⟨Nat.zero_le _, Nat.zero_le _, hg⟩ ?_ ?_
  · exact Weak.start' rfl rfl tld
  rintro ⟨i, S⟩ ⟨hi, hil, hg⟩
  dsimp only at hi hil hg ⊢
  (refine goA ?_)
  refine Br.dec (fun h0 => ?_) (fun h0 => ?_)
  · (refine goA ?_)
    refine Br.dec (fun h6 => ?_) (fun h6 => ?_)
    · have hlt : i < l.length := by omega
      obtain ⟨v, hv⟩ : ∃ v, l[i]? = some v := ⟨_, List.getElem?_eq_getElem hlt⟩
      have hv64 := hl.2 v (List.mem_of_getElem? hv)
      (refine goA ?_)
      refine Opt.of (get_map hv) ?_
      (refine goA ?_)
      refine Call.mk (does102o hg (by omega) ⟨b1, b2, b3⟩ v.1 v.2.1 v.2.2 hv64.2.1 hv64.2.2 _) ?_
      rintro d os' ⟨S', ⟨rfl, hg'⟩, rfl⟩
      have hol := hg'.l.ow
      have hcl := hg'.l.co
      have hll := hg'.l.lk
      have hdl := hg'.l.dq
      (refine goA ?_)
      refine Loop.inv (A := Nat) (List.range 120) (fun m => [(3, dls l), (9, lkP), (10, .ptr 6 0 10 0 0), (12, .int .i64 (i : Int)), (15, .int .i64 (m : Int))]) (fun m => lkO nm nw ns S' [one (.row 93 10 false [lkV S'])]) (fun m => m ≤ nm) (fun m => nm - m) 0 (Nat.zero_le _) ?_ ?_
      · refine Weak.trans (Weak.trim 7 (Nat.zero_le _) rfl (Nat.le_of_ble_eq_true rfl)) ?_
        exact Weak.start' rfl rfl tld
      intro m hm
      (refine goA ?_)
      refine Br.dec (fun h7 => ?_) (fun h7 => ?_)
      · have hmo : m < S'.ow.length := by omega
        have hml : m < S'.lk.length := by omega
        have hge := hg'.n.ow _ (getD_mem hmo)
        have hh := hg'.h.m m
        (refine goA ?_)
        refine Opt.of (rowI_at S'.ow m hmo) ?_
        (refine goA ?_)
        refine Br.dec (fun h8 => ?_) (fun h8 => ?_)
        · have hq := hh (by omega)
          have hrc := rowC_at S'.lk m hml
          rw [hq] at hrc
          (refine goA ?_)
          refine Opt.of hrc ?_
          (refine goA ?_)
          refine ⟨_, _, _, ?_, ⟨m + 1, ?_, rfl, rfl, rfl⟩, ?_⟩
          · show nm - (m + 1) < nm - m; omega
          · show m + 1 ≤ nm; omega
          · refine Weak.backT 7 (by simp) (by first | rfl | kernel_rfl) (by kernel_rfl) (Nat.le_of_ble_eq_true rfl) tld (by kernel_rfl) (by kernel_rfl)
        · (refine goA ?_)
          refine ⟨_, _, _, ?_, ⟨m + 1, ?_, rfl, rfl, rfl⟩, ?_⟩
          · show nm - (m + 1) < nm - m; omega
          · show m + 1 ≤ nm; omega
          · refine Weak.backT 7 (by simp) (by first | rfl | kernel_rfl) (by kernel_rfl) (Nat.le_of_ble_eq_true rfl) tld (by kernel_rfl) (by kernel_rfl)
      · (refine goA ?_)
        refine Loop.inv (A := Nat) (List.range 120) (fun s => [(3, dls l), (9, lkP), (10, .ptr 6 0 10 0 0), (12, .int .i64 (i : Int)), (16, .int .i64 (s : Int))]) (fun s => lkO nm nw ns S' [one (.row 93 10 false [lkV S'])]) (fun s => s ≤ ns) (fun s => ns - s) 0 (Nat.zero_le _) ?_ ?_
        · exact Weak.start' rfl rfl tld
        intro s hs
        (refine goA ?_)
        refine Br.dec (fun h9 => ?_) (fun h9 => ?_)
        · have hmo : s < S'.co.length := by omega
          have hml : s < S'.dq.length := by omega
          have hge := hg'.n.co _ (getD_mem hmo)
          have hh := hg'.h.s s
          (refine goA ?_)
          refine Opt.of (rowI_at S'.co s hmo) ?_
          (refine goA ?_)
          refine Opt.of (rowI_at S'.co s hmo) ?_
          (refine goA ?_)
          refine Br.dec (fun h8 => ?_) (fun h8 => ?_)
          · have hq := hh (by omega)
            have hrc := rowC_at S'.dq s hml
            rw [hq] at hrc
            (refine goA ?_)
            refine Opt.of hrc ?_
            (refine goA ?_)
            refine ⟨_, _, _, ?_, ⟨s + 1, ?_, rfl, rfl, rfl⟩, ?_⟩
            · show ns - (s + 1) < ns - s; omega
            · show s + 1 ≤ ns; omega
            · refine Weak.backT 7 (by simp) (by first | rfl | kernel_rfl) (by kernel_rfl) (Nat.le_of_ble_eq_true rfl) tld (by kernel_rfl) (by kernel_rfl)
          · (refine goA ?_)
            refine ⟨_, _, _, ?_, ⟨s + 1, ?_, rfl, rfl, rfl⟩, ?_⟩
            · show ns - (s + 1) < ns - s; omega
            · show s + 1 ≤ ns; omega
            · refine Weak.backT 7 (by simp) (by first | rfl | kernel_rfl) (by kernel_rfl) (Nat.le_of_ble_eq_true rfl) tld (by kernel_rfl) (by kernel_rfl)
        · (refine goA ?_)
          refine ⟨_, _, _, ?_, ⟨(i + 1, S'), ?_, rfl, rfl, rfl⟩, ?_⟩
          · show 60 - (i + 1) < 60 - i; omega
          · exact ⟨by show i + 1 ≤ 60; omega, hlt, hg'⟩
          · refine Weak.backT 7 (by simp) (by first | rfl | kernel_rfl) (by kernel_rfl) (Nat.le_of_ble_eq_true rfl) tld (by kernel_rfl) (by kernel_rfl)
    · (refine goA ?_)
      refine Call.mk ((lives70).only _ rfl (by rintro d rfl; rfl)) ?_; rintro d os' ⟨rfl, rfl⟩
      (refine goA ?_)
      exact Ret.mk [.tmp _] rfl rfl
  · (refine goA ?_)
    refine Call.mk ((lives70).only _ rfl (by rintro d rfl; rfl)) ?_; rintro d os' ⟨rfl, rfl⟩
    (refine goA ?_)
    exact Ret.mk [.tmp _] rfl rfl
end Go.Proofs.Ytaplihoeephbeaa.V
end
section
namespace Go.Proofs.Ytaplihoeephbeaa.V
open Go Go.RowKit Go.ChangeShapes Go.WideShapes

/-- Whatever reads as data of type t is told by a D; J: what else is known of it. -/
def Opens {α : Type} (P : Program) (t : TypeId) (enc : α → D) (J : α → Prop) : Prop :=
  ∀ {H : Type} (en : TypeId × Value → H) (w : World) (base : Nat) (sp : Nat → Bool) (held : Bool) (fuel : Nat) (cs : List Value) (x : DataW H × List MemPlace),
    DataW.trod en P w base sp held fuel t cs = some x → (x.1.weights P t).all (· ≤ reachBytes) = true →
    ∃ a v, rep bot (heapIm w) (enc a) v ∧ enc a ≠ .junk ∧ v.cells.toList = cs ∧ (∀ c ∈ cs, c.oneCell' = true) ∧ J a
theorem opens_int {P : Program} {t : TypeId} (ht : P.underlying t = some (.int .i64)) : Opens P t (D.int .i64) (fun n => -9223372036854775808 ≤ n ∧ n ≤ 9223372036854775807) := fun en w base sp held fuel cs x h _ => by
  obtain ⟨n, rfl, rfl, hw⟩ := DataW.trod_int ht h
  refine ⟨n, .int .i64 n, by rw [rep], by simp, rfl, by simp [Value.oneCell'], ?_⟩
  simp [Lit.wf, IntKind.min, IntKind.max, IntKind.signed, IntKind.bits] at hw
  omega
theorem exists_list {α : Type} (n : Nat) (Q : Nat → α → Prop) (h : ∀ i, i < n → ∃ a, Q i a) : ∃ xs : List α, xs.length = n ∧ ∀ i a, xs[i]? = some a → Q i a := by
  induction n with
  | zero => exact ⟨[], rfl, fun i a hi => by simp at hi⟩
  | succ n ih =>
    obtain ⟨xs, hl, hx⟩ := ih (fun i hi => h i (by omega))
    obtain ⟨a, ha⟩ := h n (by omega)
    refine ⟨xs ++ [a], by simp [hl], fun i b hi => ?_⟩
    by_cases hlt : i < n
    · rw [List.getElem?_append_left (by omega)] at hi; exact hx i b hi
    · have hle : i = n := by
        have := (List.getElem?_eq_some_iff.1 hi).1
        simp at this; omega
      subst hle
      rw [List.getElem?_append_right (by omega), hl] at hi
      simp at hi
      exact hi ▸ ha
theorem weights_at {H : Type} {P : Program} {e : TypeId} : ∀ {l : List (DataW H)} {d : DataW H}, d ∈ l → (DataW.weightsAll P e l).all (· ≤ reachBytes) = true → (d.weights P e).all (· ≤ reachBytes) = true
  | y :: r, d, hd, h => by
    rw [DataW.weightsAll, List.all_append, Bool.and_eq_true] at h
    rcases List.mem_cons.1 hd with rfl | hd
    · exact h.1
    · exact weights_at hd h.2
theorem repL_of {ρ : Pl} {I : Im} : ∀ (ds : List D) (vs : List Value), ds.length = vs.length → (∀ (i : Nat) d v, ds[i]? = some d → vs[i]? = some v → rep ρ I d v) → repL ρ I ds vs
  | [], [], _, _ => repL_nil.2 rfl
  | [], _ :: _, h, _ => by simp at h
  | _ :: _, [], h, _ => by simp at h
  | d :: ds, v :: vs, hl, h => repL_cons.2 ⟨v, vs, rfl, h 0 d v rfl rfl, repL_of ds vs (by simpa using hl) (fun i d' v' h1 h2 => h (i + 1) d' v' (by simpa using h1) (by simpa using h2))⟩
/-- The cells of a row of values, each of sz. -/
theorem flat_get {sz : Nat} : ∀ {us : List Value}, (∀ u ∈ us, u.cells.size = sz) → ∀ {j : Nat} {c : Value}, (flat us)[j]? = some c → ∃ u, us[j / sz]? = some u ∧ u.cells.toList[j % sz]? = some c ∧ 0 < sz
  | [], _, j, c, h => by simp [flat] at h
  | u :: us, hu, j, c, h => by
    rw [flat_cons] at h
    have hs : u.cells.toList.length = sz := by simpa using hu u (by simp)
    by_cases hj : j < sz
    · rw [List.getElem?_append_left (by omega)] at h
      exact ⟨u, by rw [Nat.div_eq_of_lt hj]; rfl, by rw [Nat.mod_eq_of_lt hj]; exact h, by omega⟩
    · rw [List.getElem?_append_right (by omega), hs] at h
      obtain ⟨u', h1, h2, h3⟩ := flat_get (fun u hu' => hu u (List.mem_cons_of_mem _ hu')) h
      refine ⟨u', ?_, ?_, h3⟩
      · rw [show j / sz = (j - sz) / sz + 1 by
          rw [show j = (j - sz) + sz by omega, Nat.add_div_right _ h3]; simp]
        simpa using h1
      · rw [← h2]; congr 1
        conv => lhs; rw [show j = (j - sz) + sz by omega]
        simp
theorem prefix_of {cs l : List Value} (h : ∀ (j : Nat) c, cs[j]? = some c → l[j]? = some c) : cs <+: l := by
  have hl : cs.length ≤ l.length := by
    rcases Nat.eq_zero_or_pos cs.length with h0 | h0
    · omega
    · have := h (cs.length - 1) _ (List.getElem?_eq_getElem (by omega))
      have := (List.getElem?_eq_some_iff.1 this).1
      omega
  have : cs = l.take cs.length := by
    apply List.ext_getElem?
    intro j
    by_cases hj : j < cs.length
    · rw [List.getElem?_take, if_pos hj, h j _ (List.getElem?_eq_getElem hj), List.getElem?_eq_getElem hj]
    · rw [List.getElem?_eq_none (by omega), List.getElem?_take, if_neg hj]
  rw [this]; exact List.take_prefix _ _
theorem opens_slice {α : Type} {P : Program} {t e : TypeId} {enc : α → D} {J : α → Prop} {sz : Nat} (ht : P.underlying t = some (.slice e)) (he : Opens P e enc J) (hsz : P.cellsOf e = sz) (h0 : 0 < sz) :
    Opens P t (fun xs : List α => D.lst sz false (xs.map enc)) (fun xs => xs.length ≤ maxLen ∧ xs.length * P.bytesOf e ≤ 140737488351232 ∧ ∀ x ∈ xs, J x) := fun en w base sp held fuel cs x h hwt => by
  rcases DataW.trod_slice ht h with ⟨rfl, rfl⟩ | ⟨a, len, cap, elems, rest, n, rfl, rfl, rfl, hb, hl, hm, hlen, hel, _, _⟩
  · refine ⟨[], .slice none 0 0, ?_, by simp, rfl, by simp [Value.oneCell'], by simp [maxLen], by simp, by simp⟩
    rw [rep]
    exact ⟨none, 0, [], rfl, by simp, by simp [maxLen], by simp, repL_nil.2 rfl, by simp, .inl rfl⟩
  · rw [DataW.weights, ht] at hwt
    simp only [List.all_cons, List.all_append, Bool.and_eq_true, decide_eq_true_eq, List.length_map] at hwt
    obtain ⟨hw0, hw1, _⟩ := hwt
    obtain ⟨xs, hxl, hx⟩ := exists_list len (fun i (p : α × Value) => rep bot (heapIm w) (enc p.1) p.2 ∧ Value.fine p.2 sz ∧ J p.1 ∧ ∀ k c, p.2.cells.toList[k]? = some c → w.cell? (a.add (i * sz + k)) = some c) (fun i hi => by
      have hE := hel i hi
      have hi2 : i < elems.length := by omega
      rw [List.getElem?_eq_getElem hi2, Option.bind_eq_some_iff] at hE
      obtain ⟨c, hc, hy⟩ := hE
      obtain ⟨p, v, h1, h2, h3, h4, h5⟩ := he en w base sp held n c _ hy (weights_at (l := elems.map (·.1)) (List.mem_map.2 ⟨_, List.getElem_mem hi2, rfl⟩) hw1)
      obtain ⟨_, hcl, hcc⟩ := World.cells?_some hc
      rw [hsz] at hcl hcc
      refine ⟨(p, v), h1, ⟨by simpa [← h3] using hcl, fun c hc => h4 c (by rw [← h3]; exact hc)⟩, h5, fun k u hk => ?_⟩
      rw [h3] at hk
      have hkl : k < sz := by have := (List.getElem?_eq_some_iff.1 hk).1; omega
      have := (hcc k hkl).trans hk
      rw [← this]
      congr 1
      unfold Addr.add
      by_cases hm : i * sz = 0 <;> by_cases hn : k = 0 <;> simp [hm, hn, Nat.add_assoc])
    have hfine : ∀ u ∈ xs.map (·.2), Value.fine u sz := by
      intro u hu
      obtain ⟨p, hp, rfl⟩ := List.mem_map.1 hu
      obtain ⟨j, hj⟩ := List.getElem?_of_mem hp
      exact (hx j p hj).2.1
    refine ⟨xs.map (·.1), .slice (some a) len cap, ?_, by simp, rfl, by simp [Value.oneCell'], ?_, ?_, ?_⟩
    · rw [rep]
      refine ⟨some a, cap, xs.map (·.2), by simp [hxl], by simpa [hxl] using hl, hm, by simp, repL_of _ _ (by simp) ?_, hfine, ?_⟩
      · intro i d v h1 h2
        rw [List.map_map, List.getElem?_map, Option.map_eq_some_iff] at h1
        rw [List.getElem?_map, Option.map_eq_some_iff] at h2
        obtain ⟨p, hp, rfl⟩ := h1
        obtain ⟨q, hq, rfl⟩ := h2
        have : p = q := Option.some.inj (hp.symm.trans hq)
        subst this
        exact (hx i p hp).1
      · rcases Nat.eq_zero_or_pos len with hz | hz
        · left; rw [List.eq_nil_of_length_eq_zero (l := xs) (by omega)]; rfl
        · right
          have hcell : ∀ j c, (flat (xs.map (·.2)))[j]? = some c → w.cell? (a.add j) = some c := by
            intro j c hj
            obtain ⟨u, h1, h2, h3⟩ := flat_get (fun u hu => (hfine u hu).1) hj
            rw [List.getElem?_map, Option.map_eq_some_iff] at h1
            obtain ⟨p, hp, rfl⟩ := h1
            have := (hx _ p hp).2.2.2 _ c h2
            rwa [Nat.mul_comm, Nat.div_add_mod] at this
          have hfl : (flat (xs.map (·.2))).length = len * sz := by rw [flat_length (fun u hu => (hfine u hu).1)]; simp [hxl]
          have h00 := hcell 0 _ (List.getElem?_eq_getElem (by rw [hfl]; exact Nat.mul_pos hz h0))
          have ha0 : a.add 0 = a := by simp [Addr.add]
          rw [ha0] at h00
          obtain ⟨b, o, spt⟩ := a
          unfold World.cell? at h00
          split at h00
          case h_2 => simp at h00
          rename_i arr t' fz hblk
          have hsp : spt = none := by cases spt with | none => rfl | some k => simp at h00
          subst hsp
          refine ⟨b, o, arr, t', fz, rfl, hblk, prefix_of fun j c hj => ?_⟩
          have := hcell j c hj
          have ea : Addr.add ⟨b, o, none⟩ j = ⟨b, o + j, none⟩ := by unfold Addr.add; by_cases hj0 : j = 0 <;> simp [hj0]
          rw [ea] at this
          unfold World.cell? at this
          have hblk' : w.heap[b]? = some (.cells arr t' fz) := hblk
          rw [hblk'] at this
          simp at this
          rw [List.getElem?_drop, Array.getElem?_toList]; exact this
    · have hmm : maxLen = 9223372036854775807 := by decide
      simp only [List.length_map, hxl]; omega
    · have hle : (xs.map (·.1)).length ≤ elems.length + rest.length := by simp [hxl]; omega
      refine Nat.le_trans (Nat.mul_le_mul_right _ hle) (Nat.le_trans hw0 ?_)
      decide
    · intro p hp
      obtain ⟨q, hq, rfl⟩ := List.mem_map.1 hp
      obtain ⟨j, hj⟩ := List.getElem?_of_mem hq
      exact (hx j q hj).2.2.1

/-- The fields of a struct, one behind the other. -/
def Fits {H : Type} (en : TypeId × Value → H) (P : Program) (w : World) (base : Nat) (sp : Nat → Bool) (held : Bool) (fuel : Nat) : List TypeId → List Value → List (DataW H × List MemPlace) → Prop
  | [], cs, ys => cs = [] ∧ ys = []
  | t :: ts, cs, ys => ∃ y ys', ys = y :: ys' ∧ P.cellsOf t ≤ cs.length ∧ DataW.trod en P w base sp held fuel t (cs.take (P.cellsOf t)) = some y ∧ Fits en P w base sp held fuel ts (cs.drop (P.cellsOf t)) ys'
def OpensL {α : Type} (P : Program) (ts : List TypeId) (enc : α → List D) (J : α → Prop) : Prop :=
  ∀ {H : Type} (en : TypeId × Value → H) (w : World) (base : Nat) (sp : Nat → Bool) (held : Bool) (fuel : Nat) (cs : List Value) (ys : List (DataW H × List MemPlace)),
    Fits en P w base sp held fuel ts cs ys → (DataW.weightsEach P ts (ys.map (·.1))).all (· ≤ reachBytes) = true → ∃ a, repL bot (heapIm w) (enc a) cs ∧ (∀ c ∈ cs, c.oneCell' = true) ∧ J a
theorem opensL_one {α : Type} {P : Program} {t : TypeId} {enc : α → D} {J : α → Prop} (h : Opens P t enc J) : OpensL P [t] (fun a => (enc a).cells) J := fun en w base sp held fuel cs ys hf hw => by
  obtain ⟨y, ys', rfl, hle, hy, h0, rfl⟩ := hf
  have he : cs.take (P.cellsOf t) = cs := by
    apply List.take_of_length_le
    have := congrArg List.length h0
    simp at this; omega
  rw [he] at hy
  obtain ⟨a, v, h1, h2, h3, h4, h5⟩ := h en w base sp held fuel cs y hy (by simpa [DataW.weightsEach] using hw)
  exact ⟨a, by rw [← h3]; exact rep_cells h2 h1, h4, h5⟩
theorem opensL_cons {α β : Type} {P : Program} {t : TypeId} {ts : List TypeId} {enc : α → D} {enc' : β → List D} {J : α → Prop} {J' : β → Prop} (h : Opens P t enc J) (h' : OpensL P ts enc' J') :
    OpensL P (t :: ts) (fun x : α × β => (enc x.1).cells ++ enc' x.2) (fun x => J x.1 ∧ J' x.2) := fun en w base sp held fuel cs ys hf hw => by
  obtain ⟨y, ys', rfl, hle, hy, hr⟩ := hf
  simp only [List.map_cons, DataW.weightsEach, List.all_append, Bool.and_eq_true] at hw
  obtain ⟨a, v, h1, h2, h3, h4, h5⟩ := h en w base sp held fuel _ _ hy hw.1
  obtain ⟨b, k1, k2, k3⟩ := h' en w base sp held fuel _ _ hr hw.2
  refine ⟨(a, b), ?_, ?_, h5, k3⟩
  · rw [← List.take_append_drop (P.cellsOf t) cs]
    exact repL_append (by rw [← h3]; exact rep_cells h2 h1) k1
  · intro c hc
    rw [← List.take_append_drop (P.cellsOf t) cs] at hc
    exact (List.mem_append.1 hc).elim (h4 c) (k2 c)
/-- The fields lie one behind the other, from o on. -/
def rowed (P : Program) : Nat → List Field → Nat → Bool
  | o, [], n => o == n
  | o, f :: fs, n => f.offset == o && rowed P (o + P.cellsOf f.type) fs n
theorem rowed_le {P : Program} {n : Nat} : ∀ (gs : List Field) (o : Nat), rowed P o gs n = true → o ≤ n
  | [], o, h => by simp only [rowed, beq_iff_eq] at h; omega
  | g :: gs, o, h => by simp only [rowed, Bool.and_eq_true, beq_iff_eq] at h; have := rowed_le gs _ h.2; omega
theorem fits_of {H : Type} {en : TypeId × Value → H} {P : Program} {w : World} {base : Nat} {sp : Nat → Bool} {held : Bool} {fuel : Nat} {n : Nat} : ∀ (fs : List Field) (o : Nat) (cs0 cs : List Value) (ys : List (DataW H × List MemPlace)),
    rowed P o fs n = true → cs0.length = n → cs = cs0.drop o → ys.length = fs.length → (∀ (i : Nat) (f : Field), fs[i]? = some f → DataW.trod en P w base sp held fuel f.type ((cs0.drop f.offset).take (P.cellsOf f.type)) = ys[i]?) → Fits en P w base sp held fuel (fs.map (·.type)) cs ys
  | [], o, cs0, cs, ys, hr, hn, hc, hl, _ => by
    simp only [rowed, beq_iff_eq] at hr
    refine ⟨?_, List.length_eq_zero_iff.1 hl⟩
    rw [hc, hr, ← hn, List.drop_length]
  | f :: fs, o, cs0, cs, ys, hr, hn, hc, hl, h => by
    simp only [rowed, Bool.and_eq_true, beq_iff_eq] at hr
    obtain ⟨ho, hr⟩ := hr
    cases ys with
    | nil => simp at hl
    | cons y ys =>
      have h0 := h 0 f rfl
      simp only [List.getElem?_cons_zero] at h0
      have hle1 := rowed_le fs _ hr
      refine ⟨y, ys, rfl, ?_, ?_, fits_of fs (o + P.cellsOf f.type) cs0 _ ys hr hn ?_ (by simpa using hl) (fun i g hg => by simpa using h (i + 1) g (by simpa using hg))⟩
      · show P.cellsOf f.type ≤ cs.length
        rw [hc, List.length_drop]; omega
      · rw [hc, ← ho]; exact h0
      · rw [hc, List.drop_drop]
theorem opens_struct {α : Type} {P : Program} {t : TypeId} {fs : Array Field} {enc : α → List D} {J : α → Prop} (ht : P.underlying t = some (.struct fs)) (hr : rowed P 0 fs.toList (P.cellsOf t) = true) (h : OpensL P (fs.toList.map (·.type)) enc J) :
    Opens P t (fun a => .agg (enc a)) J := fun en w base sp held fuel cs x hx hw => by
  obtain ⟨xs, n, rfl, rfl, hl, hlen, hf⟩ := DataW.trod_struct ht hx
  obtain ⟨a, h1, h2, h3⟩ := h en w base sp held n cs xs (fits_of fs.toList 0 cs cs xs hr hl (by simp) (by simpa using hlen) (fun i f hi => hf i f (by simpa using hi))) (by rw [DataW.weights, ht] at hw; exact hw)
  exact ⟨a, .agg cs.toArray, by rw [rep]; exact ⟨_, rfl, by simpa using h1⟩, by simp, by simp [Value.cells], h2, h3⟩
theorem opens_iso {α β : Type} {P : Program} {t : TypeId} {enc : α → D} {enc' : β → D} {J : α → Prop} {J' : β → Prop} (h : Opens P t enc J) (g : α → β) (he : ∀ a, enc' (g a) = enc a) (hJ : ∀ a, J a → J' (g a)) : Opens P t enc' J' := fun en w base sp held fuel cs x hx hw => by
  obtain ⟨a, v, h1, h2, h3, h4, h5⟩ := h en w base sp held fuel cs x hx hw
  exact ⟨g a, v, by rw [he]; exact h1, by rw [he]; exact h2, h3, h4, hJ a h5⟩

/-! ### A row of parameters -/
def OpensA {α : Type} (P : Program) (ts : List TypeId) (enc : α → List D) (J : α → Prop) : Prop :=
  ∀ {H : Type} (en : TypeId × Value → H) (w : World) (base : Nat) (sp : Nat → Bool) (held : Bool) (r : Reach) (b0 : Nat) (args : List Value) (ds : List (DataW H)) (ps : List MemPlace),
    DataW.TrodAll en P w base sp held ts args ds ps → (∀ (j : Nat) t v, ts[j]? = some t → args[j]? = some v → Value.okWide P w r b0 t v) → (DataW.weightsEach P ts ds).all (· ≤ reachBytes) = true → ∃ a, repL bot (heapIm w) (enc a) args ∧ J a
theorem opensA_nil {P : Program} : OpensA P [] (fun _ : Unit => []) (fun _ => True) := fun en w base sp held r b0 args ds ps h _ _ => by
  obtain ⟨rfl, _⟩ := trodAll_nil h
  exact ⟨(), repL_nil.2 rfl, trivial⟩
/-- A type whose values are one kind: of one cell, or of cells in a row. -/
def kindly (P : Program) (t : TypeId) : Option Bool :=
  match P.underlying t with
  | some (.struct _) => some true
  | some (.int _) | some .bool | some (.slice _) | some .string => some false
  | _ => none
theorem okWide_kindly {P : Program} {w : World} {r : Reach} {b0 : Nat} {t : TypeId} {b : Bool} (hk : kindly P t = some b) {v u : Value} (h : Value.okWide P w r b0 t v) (hc : v.cells.toList = u.cells.toList) (hu : (∃ cs, u = .agg cs) ↔ b = true) : u = v := by
  have hc' : v.cells = u.cells := Array.ext' hc
  cases b
  · have hv : ¬ ∃ cs, v = .agg cs := by
      unfold kindly at hk
      split at hk <;> simp at hk
      · rename_i ht; obtain ⟨n, rfl⟩ := okWide_int ht h; simp
      · rename_i ht; obtain ⟨n, rfl⟩ := okWide_bool ht h; simp
      · rename_i ht; obtain ⟨a, l, c, rfl⟩ := okWide_slice ht h; simp
      · rename_i ht; obtain ⟨n, rfl⟩ := okWide_string ht h; simp
    have hu' : ¬ ∃ cs, u = .agg cs := fun h => by simpa using hu.1 h
    have e1 : ∀ x : Value, (¬ ∃ cs, x = .agg cs) → x.cells = #[x] := by
      intro x hx
      cases x <;> first | rfl | exact absurd ⟨_, rfl⟩ hx
    rw [e1 v hv, e1 u hu'] at hc'
    have := congrArg Array.toList hc'
    simpa using this.symm
  · obtain ⟨cs, rfl⟩ := hu.2 rfl
    obtain ⟨cs', rfl⟩ : ∃ cs, v = .agg cs := by
      unfold kindly at hk
      split at hk <;> simp at hk
      rename_i ht
      unfold Value.okWide at h
      rw [ht] at h
      obtain ⟨cs, hcs, _⟩ := h
      exact ⟨cs, hcs⟩
    simp only [Value.cells] at hc'
    rw [hc']
def D.isAgg : D → Bool | .agg _ => true | _ => false
theorem rep_agg {ρ : Pl} {I : Im} {d : D} {v : Value} (hj : d ≠ .junk) (h : rep ρ I d v) : (∃ cs, v = .agg cs) ↔ d.isAgg = true := by
  cases d <;> simp only [D.isAgg] <;> rw [rep] at h
  case agg cs => obtain ⟨arr, rfl, h⟩ := h; simp
  case junk => exact absurd rfl hj
  case int => subst h; simp
  case bool => subst h; simp
  case str => subst h; simp
  case nilp => subst h; simp
  case ptr => obtain ⟨p, _, _, rfl⟩ := h; simp
  case pel => obtain ⟨b, o, arr, t, fz, u, rfl, _⟩ := h; simp
  case nils => subst h; simp
  case lst => obtain ⟨A, c, us, rfl, _⟩ := h; simp
  case sl => obtain ⟨p, A, c, _, rfl, _⟩ := h; simp
  case tup => obtain ⟨arr, rfl, h⟩ := h; simp
  case fn => obtain ⟨x, y, rfl, _⟩ := h; simp
  case nilf => subst h; simp
  case mp => obtain ⟨p, _, _, rfl⟩ := h; simp
  case yl => obtain ⟨p, _, _, rfl⟩ := h; simp
theorem opensA_cons {α β : Type} {P : Program} {t : TypeId} {ts : List TypeId} {enc : α → D} {enc' : β → List D} {J : α → Prop} {J' : β → Prop} {b : Bool} (hk : kindly P t = some b) (hb : ∀ a, (enc a).isAgg = b) (h : Opens P t enc J) (h' : OpensA P ts enc' J') :
    OpensA P (t :: ts) (fun x : α × β => enc x.1 :: enc' x.2) (fun x => J x.1 ∧ J' x.2) := fun en w base sp held r b0 args ds ps hA hval hw => by
  obtain ⟨v, vs, d, ds', p, q, rfl, rfl, rfl, ⟨fuel, hf⟩, hr⟩ := trodAll_cons hA
  simp only [DataW.weightsEach, List.all_append, Bool.and_eq_true] at hw
  obtain ⟨a, u, h1, h2, h3, h4, h5⟩ := h en w base sp held fuel _ _ hf hw.1
  obtain ⟨c, k1, k2⟩ := h' en w base sp held r b0 vs ds' q hr (fun j t v ht hv => hval (j + 1) t v (by simpa using ht) (by simpa using hv)) hw.2
  have : u = v := okWide_kindly hk (hval 0 t v rfl rfl) h3.symm (by rw [rep_agg h2 h1, hb])
  subst this
  exact ⟨(a, c), repL_cons.2 ⟨_, _, rfl, h1, k1⟩, h5, k2⟩

/-! ### Behind the call -/
theorem trodAll_below {H : Type} {en : TypeId × Value → H} {P : Program} (hl : laidOutB P = true) {W W' : World} (hb : Below W.heap.size W W') : ∀ {ts : List TypeId} {vs : List Value} {ds : List (DataW H)} {ps : List MemPlace},
    (ts.all fun t => P.readableRec t && decide (t < P.types.size)) = true → DataW.TrodAll en P W 0 (fun _ => true) true ts vs ds ps → DataW.TrodAll en P W' 0 (fun b => decide (b < W.heap.size)) true ts vs ds ps
  | [], [], [], _, _, h => h
  | t :: ts, v :: vs, d :: ds, ps, ht, h => by
    simp only [List.all_cons, Bool.and_eq_true, decide_eq_true_eq] at ht
    obtain ⟨p, q, h1, h2, e⟩ := h
    have lt : ∀ x ∈ p, x.block < W.heap.size := by obtain ⟨m, hm⟩ := h1; exact DataW.trod_lt m _ _ _ hm
    exact ⟨p, q, Below.trod hl ht.1.1 ht.1.2 h1 hb lt, trodAll_below hl hb (by simpa using ht.2) h2, e⟩
  | [], _ :: _, _, _, _, h | [], [], _ :: _, _, _, h | _ :: _, [], _, _, _, h | _ :: _, _ :: _, [], _, _, h => h.elim
end Go.Proofs.Ytaplihoeephbeaa.V
end
section
namespace Go.Proofs.Ytaplihoeephbeaa.V
open Go Go.Proofs Go.RowKit Go.ChangeShapes Go.WideShapes Go.ChangeAt
set_option maxRecDepth 100000
theorem b3 : Try.prog.bytesOf 3 = 8 := by kernel_rfl
theorem opens_i : Opens Try.prog 3 (D.int .i64) I64 := by
  refine opens_iso (opens_int Try.underlying3) (fun x => x) (fun x => rfl) (fun x hx => hx)
theorem opens_is : Opens Try.prog 23 ints lok := by
  refine opens_iso (opens_slice Try.underlying23 opens_i (sz := 1) (by kernel_rfl) (by decide)) (fun x => x) (fun x => rfl) (fun x hx => ?_)
  have h1 := hx.2.1
  rw [b3] at h1
  exact ⟨h1, hx.2.2⟩
end Go.Proofs.Ytaplihoeephbeaa.V
end
section
namespace Go.Proofs.Ytaplihoeephbeaa.V
open Go Go.Proofs Go.RowKit Go.ChangeShapes Go.WideShapes Go.ChangeAt
set_option maxRecDepth 100000
theorem b153 : Try.prog.bytesOf 153 = 24 := by kernel_rfl
theorem opens_dl : Opens Try.prog 153 dlT (fun x => I64 x.1 ∧ I64 x.2.1 ∧ I64 x.2.2) := by
  refine opens_iso (opens_struct (P := Try.prog) (t := 153) Try.underlying153 (by kernel_rfl) (opensL_cons opens_i (opensL_cons opens_i (opensL_one opens_i)))) (fun x => (x.1, x.2.1, x.2.2)) (fun x => rfl) (fun x hx => hx)
theorem opens_dls : Opens Try.prog 147 dls dlok := by
  refine opens_iso (opens_slice Try.underlying147 opens_dl (sz := 3) (by kernel_rfl) (by decide)) (fun x => x) (fun x => rfl) (fun x hx => ?_)
  have h1 := hx.2.1
  rw [b153] at h1
  exact ⟨h1, hx.2.2⟩
end Go.Proofs.Ytaplihoeephbeaa.V
end
