/- C1: a text of a symbolic executor that is proved sound, and contracts that are proved with it. -/
import Derived.Test.YtaplihoeephbeaaVA
import Derived.Test.YtaplihoeephbeaaVB
import Derived.Test.YtaplihoeephbeaaVT
import Derived.Test.YtaplihoeephbeaaVC
import Derived.Test.YtaplihoeephbeaaC0
set_option linter.unusedVariables false
set_option linter.unusedSimpArgs false
section
namespace Go.Proofs.Ytaplihoeephbeaa.V
open Go Go.Proofs
set_option maxRecDepth 100000
set_option maxHeartbeats 40000000
theorem unlock214wo {nm nw ns : Nat} {S : Lk} (h : LkL nm nw ns S) (hb : nm ≤ 1000 ∧ nw ≤ 1000 ∧ ns ≤ 1000) (m : Nat) (hm : m < nm) (t : Int) (h0 : S.ow.getD m 0 = t) {X Y : List (List Int)} {W : List Int} (hx : S.wq = X ++ W :: Y) (os : Objs) : Spec Try.prog 214 [lkV S, .int .i64 m, .int .i64 t] os (fun d os' => d = .tup [.agg [.int .i64 0, .nils, .sl (os.length + 4) 0 1 0 S.ow.length none, ints S.co, .nils, .sl (os.length + 5) 0 1 0 S.lk.length none, .sl (os.length + 6) 0 1 0 S.wq.length none, lists S.dq, .nils, .nils], .int .i64 (headQ (qAt S.lk m)), .int .i64 0] ∧ os' = os ++ [one .gone, one .gone, one .gone, one .gone, rowI (S.ow.set m (headQ (qAt S.lk m))), rowC (S.lk.set m (qAt S.lk m).tail), one (.row 23 1 false (RE X W Y (os.length + 7))), rowI W]) := by
  refine ((unlock214w h hb m hm t h0 hx).onto os rfl).mono ?_
  rintro d os' ⟨d1, os1, ⟨rfl, rfl⟩, rfl, rfl⟩
  exact ⟨rfl, congrArg (fun r => os ++ [one .gone, one .gone, one .gone, one .gone, rowI (S.ow.set m (headQ (qAt S.lk m))), rowC (S.lk.set m (qAt S.lk m).tail), one (.row 23 1 false r), rowI W]) (RE_mapq X W Y os.length 7)⟩
theorem wait215 {nm nw ns : Nat} {S : Lk} (h : LkL nm nw ns S) (hb : nm ≤ 1000 ∧ nw ≤ 1000 ∧ ns ≤ 1000) (c m : Nat) (hc : c < nw) (hm : m < nm) (t : Int) : Spec Try.prog 215 [lkV S, .int .i64 c, .int .i64 m, .int .i64 t] [] (fun d os' => d = .tup [lkV (waitS S c m t).1, .int .i64 (waitS S c m t).2.1, .int .i64 (waitS S c m t).2.2] ∧ os' = []) := by
  obtain ⟨h1, h2, h3, h4, h5⟩ := h.b0 hb
  have hmw : c < S.wq.length := by have := h.wq; omega
  obtain ⟨hx, hX⟩ := split_at S.wq c hmw
  have hq := h.l2 _ (qAt_mem hmw)
  obtain ⟨X, hXe⟩ : ∃ X, S.wq.take c = X := ⟨_, rfl⟩
  obtain ⟨L, hLe⟩ : ∃ L, qAt S.wq c = L := ⟨_, rfl⟩
  obtain ⟨Y, hYe⟩ : ∃ Y, S.wq.drop (c + 1) = Y := ⟨_, rfl⟩
  rw [hXe] at hx hX
  rw [hLe] at hx hq
  rw [hYe] at hx
  have hom : ((S.ow.set m (headQ (qAt S.lk m))).map (D.int .i64)).length = S.ow.length := by simp
  have hkm : ((S.lk.set m (qAt S.lk m).tail).map ints).length = S.lk.length := by simp
  have hLm : (L.map (D.int .i64)).length = L.length := List.length_map ..
  refine Spec.frz (post' := fun d => d = .tup [lkV (waitS S c m t).1, .int .i64 (waitS S c m t).2.1, .int .i64 (waitS S c m t).2.2]) ?_
  unfold waitS handS
  rw [hLe]
  by_cases h0 : S.ow.getD m 0 = t
  · rw [if_neg (by omega)]
    refine Spec.by Try.func215 rfl (by decide) (by decide +kernel) rfl ?_
    (refine goA ?_)
    refine Call.mk (unlock214wo h hb m hm t h0 hx _) ?_
    rintro d os' ⟨rfl, rfl⟩
    (refine goA ?_)
    refine Opt.of (RE_at hX) ?_
    (refine goA ?_)
    refine App.only false rfl rfl ?_
    (refine goA ?_)
    refine And.intro ?_ ?_
    · conv => whnf
      refine Opt.of (RE_at hX) ?_
      conv => whnf
      refine And.intro rfl ?_
      conv => whnf
      refine Opt.mk ?_
      conv => whnf
      first | done | exact rfl | exact ⟨rfl, rfl⟩ | trivial
    (refine goA ?_)
    refine Opt.of (RE_at hX) ?_
    (refine goA ?_)
    refine Ret.mk [.cell 8 93, .tmp 9, .tmp 10] rfl ?_; (refine goA ?_)
    refine ⟨_, View.tup (.cons (View.agg (.cons (.same _) (.cons (.same _) (.cons (View.slAll (f := false) rfl rfl hom (by simp) (ViewL.same _) (pureL_map (fun _ => rfl) _)) (.cons (.same _) (.cons (.same _) (.cons (View.slAll (f := false) rfl rfl hkm (by simp) (ViewL.same _) (pureL_rows _)) (.cons (View.slAll (f := false) rfl (RE_setn hX (L ++ [t]) (by simp [setAll])) (RE_lenA hx) (by simp) (RE_view (pr := true) (map_snocO L t)) (pureL_rows _)) (.cons (.same _) (.cons (.same _) (.cons (.same _) .nil))))))))))) (.cons (.same _) (.cons (.same _) .nil))), rfl, ?_⟩
    rw [set_split hx hX]
  · rw [if_pos (by omega)]
    have hu : unlockS S m t = (S, -1, 10) := by unfold unlockS; rw [if_pos h0]
    have hus := unlock214 h hb m hm t
    rw [hu] at hus
    refine Spec.by Try.func215 rfl (by decide) (by decide +kernel) rfl ?_
    (refine goA ?_)
    refine Call.mk ((hus).only _ rfl (by rintro d rfl; rfl)) ?_; rintro d os' ⟨rfl, rfl⟩
    (refine goA ?_)
    refine Ret.mk [.cell 8 93, .tmp 9, .tmp 10] rfl ?_
    exact ⟨_, View.tup (.cons (.same _) (.cons (.same _) (.cons (.same _) .nil))), rfl, rfl⟩
end Go.Proofs.Ytaplihoeephbeaa.V
end
section
namespace Go.Proofs.Ytaplihoeephbeaa.V
open Go Go.Proofs
set_option maxRecDepth 100000
set_option maxHeartbeats 40000000
theorem broad217 {nm nw ns : Nat} {S : Lk} (h : LkL nm nw ns S) (hn : LkN S) (hb : nm ≤ 1000 ∧ nw ≤ 1000 ∧ ns ≤ 1000) (c m : Nat) (hc : c < nw) (hm : m < nm) : Spec Try.prog 217 [lkV S, .int .i64 c, .int .i64 m] [] (fun d os' => d = .tup [lkV (broadS S c m).1, ints (broadS S c m).2.1, .int .i64 (broadS S c m).2.2] ∧ os' = []) := by
  obtain ⟨R, hR⟩ : ∃ R, broadS S c m = R := ⟨_, rfl⟩
  rw [hR]
  refine Spec.frz (post' := fun d => d = .tup [lkV R.1, ints R.2.1, .int .i64 R.2.2]) ?_
  refine Spec.by Try.func217 rfl (by decide) (by decide +kernel) rfl ?_
  (refine goR ?_)
  ((with_reducible refine Pt.go ?_); conv => whnf)
  (refine goR ?_)
  ((with_reducible refine Pt.go ?_); conv => whnf)
  (refine goR ?_)
  refine Pt.weak (Weak.trans (Weak.only [(9, .nils), (1, .int .i64 (c : Int)), (2, .int .i64 (m : Int)), (3, .ptr 0 0 10 0 0), (6, .ptr 1 0 10 0 0) ] [one (.row 93 10 false [lkV S]), one (.row 93 10 false [.agg [.int .i64 0, .nils, .nils, .nils, .nils, .nils, .nils, .nils, .nils, .nils]])] (by kernel_rfl) tld) (Weak.nilrow 9 rfl 3 1 true)) ?_
  (refine goA ?_)
  refine Loop.inv (A := Lk × List Int × Int) (List.range 39) (fun x => [(1, .int .i64 (c : Int)), (2, .int .i64 (m : Int)), (3, .ptr 0 0 10 0 0), (6, .ptr 1 0 10 0 0), (9, .sl 2 0 1 0 x.2.1.length none), (10, .int .i64 x.2.2)]) (fun x => [one (.row 93 10 false [lkV x.1]), one (.row 93 10 false [.agg [.int .i64 0, .nils, .nils, .nils, .nils, .nils, .nils, .nils, .nils, .nils]]), rowI x.2.1])
    (fun x => LkL nm nw ns x.1 ∧ LkN x.1 ∧ bcast c m (qAt x.1.wq c).length x.1 x.2.1 x.2.2 = R ∧ x.2.1.length + (qAt x.1.wq c).length ≤ 1000) (fun x => (qAt x.1.wq c).length) (S, [], -1) ⟨h, hn, hR, by have := h.l2 _ (qAt_mem (l := S.wq) (m := c) (by have := h.wq; omega)); show ([] : List Int).length + (qAt S.wq c).length ≤ 1000; simpa using this⟩ ?_ ?_
  · exact Weak.start' rfl rfl tld
  rintro ⟨S1, all, got⟩ ⟨hl1, hn1, hR1, hb1⟩
  dsimp only at hl1 hn1 hR1 hb1 ⊢
  have hallm : (all.map (D.int .i64)).length = all.length := List.length_map ..
  have hcw : c < S1.wq.length := by have := hl1.wq; omega
  have hcc := lstC_at S1.wq c hcw
  cases hq : qAt S1.wq c with
  | nil =>
    have hRe : R = (S1, all, got) := by rw [← hR1, hq]; rfl
    rw [hRe]
    rw [hq] at hcc
    (refine goA ?_)
    refine Opt.of hcc ?_
    (refine goA ?_)
    refine Ret.mk [.cell 6 93, .tmp 7, .tmp 8] rfl ?_; (refine goA ?_)
    exact ⟨_, View.tup (.cons (.same _) (.cons (View.slAll (f := false) rfl rfl hallm (by simp) (ViewL.same _) (pureL_map (fun _ => rfl) _)) (.cons (.same _) .nil))), rfl, rfl⟩
  | cons t q =>
    obtain ⟨g1, g2⟩ := signal_ok hl1 hn1 hc hm
    obtain ⟨g3, g4⟩ := signal_wq hl1 hn1 hc hm hq
    have hRe : bcast c m q.length (signalS S1 c m).1 (all ++ [t]) (if (signalS S1 c m).2.2 then t else got) = R := by rw [← bcast_cons hq, ← hR1, hq]; rfl
    have hsp := signal216 hl1 hn1 hb c m hc hm
    rw [hq, List.length_cons] at hb1
    rw [hq] at hcc
    have htm : ((t :: q).map (D.int .i64)).length = q.length + 1 := by simp
    obtain ⟨S2, hS2⟩ : ∃ S2, (signalS S1 c m).1 = S2 := ⟨_, rfl⟩
    obtain ⟨b, hb'⟩ : ∃ b, (signalS S1 c m).2.2 = b := ⟨_, rfl⟩
    rw [hS2] at g1 g2 g3 hRe hsp
    rw [hb'] at hRe hsp
    rw [g4] at hsp
    cases b with
    | false =>
      (refine goA ?_)
      refine Opt.of hcc ?_
      (refine goA ?_)
      refine Call.mk ((hsp).only _ rfl (by rintro d rfl; rfl)) ?_; rintro d os' ⟨rfl, rfl⟩
      (refine goA ?_)
      refine App.only false rfl rfl ?_
      (refine goA ?_)
      refine ⟨_, _, _, ?_, ⟨(S2, all ++ [t], got), ?_, rfl, rfl, rfl⟩, ?_⟩
      · show (qAt S2.wq c).length < _; rw [g3, List.length_cons]; omega
      · exact ⟨g1, g2, by show bcast c m (qAt S2.wq c).length S2 (all ++ [t]) got = R; rw [g3]; exact hRe, by show (all ++ [t]).length + (qAt S2.wq c).length ≤ 1000; rw [g3, List.length_append, List.length_singleton]; omega⟩
      · refine Weak.trans (Weak.on [(1, .int .i64 (c : Int)), (2, .int .i64 (m : Int)), (3, .ptr 0 0 10 0 0), (6, .ptr 1 0 10 0 0), (9, .sl 4 0 1 0 (all.length + 1) none), (10, .int .i64 got)] [one (.row 93 10 false [lkV S2]), one (.row 93 10 false [.agg [.int .i64 0, .nils, .nils, .nils, .nils, .nils, .nils, .nils, .nils, .nils]]), one .gone, one (.row 93 10 false [lkV S2]), one (.row 3 1 true (all.map (D.int .i64) ++ [D.int .i64 t]))]) ?_
        rw [map_snoc, show all.length + 1 = (all ++ [t]).length by rw [List.length_append, List.length_singleton]]
        refine Weak.trans (Weak.shift 4 2 (by decide) (by simp) (Nat.le_of_ble_eq_true rfl) (Nat.le_of_ble_eq_true rfl) (fun j => by cases j <;> rfl) rfl) ?_
        refine Weak.backT 3 (by simp) (by first | rfl | kernel_rfl) (by kernel_rfl) (Nat.le_of_ble_eq_true rfl) tld (by kernel_rfl) (by kernel_rfl)
    | true =>
      (refine goA ?_)
      refine Opt.of hcc ?_
      (refine goA ?_)
      refine Call.mk ((hsp).only _ rfl (by rintro d rfl; rfl)) ?_; rintro d os' ⟨rfl, rfl⟩
      (refine goA ?_)
      refine App.only false rfl rfl ?_
      (refine goA ?_)
      refine ⟨_, _, _, ?_, ⟨(S2, all ++ [t], t), ?_, rfl, rfl, rfl⟩, ?_⟩
      · show (qAt S2.wq c).length < _; rw [g3, List.length_cons]; omega
      · exact ⟨g1, g2, by show bcast c m (qAt S2.wq c).length S2 (all ++ [t]) t = R; rw [g3]; exact hRe, by show (all ++ [t]).length + (qAt S2.wq c).length ≤ 1000; rw [g3, List.length_append, List.length_singleton]; omega⟩
      · refine Weak.trans (Weak.on [(1, .int .i64 (c : Int)), (2, .int .i64 (m : Int)), (3, .ptr 0 0 10 0 0), (6, .ptr 1 0 10 0 0), (9, .sl 4 0 1 0 (all.length + 1) none), (10, .int .i64 t)] [one (.row 93 10 false [lkV S2]), one (.row 93 10 false [.agg [.int .i64 0, .nils, .nils, .nils, .nils, .nils, .nils, .nils, .nils, .nils]]), one .gone, one (.row 93 10 false [lkV S2]), one (.row 3 1 true (all.map (D.int .i64) ++ [D.int .i64 t]))]) ?_
        rw [map_snoc, show all.length + 1 = (all ++ [t]).length by rw [List.length_append, List.length_singleton]]
        refine Weak.trans (Weak.shift 4 2 (by decide) (by simp) (Nat.le_of_ble_eq_true rfl) (Nat.le_of_ble_eq_true rfl) (fun j => by cases j <;> rfl) rfl) ?_
        refine Weak.backT 3 (by simp) (by first | rfl | kernel_rfl) (by kernel_rfl) (Nat.le_of_ble_eq_true rfl) tld (by kernel_rfl) (by kernel_rfl)
end Go.Proofs.Ytaplihoeephbeaa.V
end
section
namespace Go.Proofs.Ytaplihoeephbeaa.V
open Go Go.Proofs
set_option maxRecDepth 100000
set_option maxHeartbeats 40000000
def totS (S : Lk) : Nat := sumL S.lk + sumL S.wq + sumL S.dq
/-- What is no one's is not waited for. -/
structure LkH (S : Lk) : Prop where
  m : ∀ i, S.ow.getD i 0 = -1 → qAt S.lk i = []
  s : ∀ i, 0 < S.co.getD i 0 → qAt S.dq i = []
/-- All that is kept, of locks, with at most k that wait. -/
structure LkG (nm nw ns k : Nat) (S : Lk) : Prop where
  l : LkL nm nw ns S
  n : LkN S
  h : LkH S
  t : totS S ≤ k
theorem getD_set {α : Type} (l : List α) (e i : Nat) (x d : α) : (l.set e x).getD i d = if e = i ∧ e < l.length then x else l.getD i d := by
  rw [List.getD_eq_getElem?_getD, List.getD_eq_getElem?_getD, List.getElem?_set]
  by_cases h : e = i
  · subst h
    by_cases h2 : e < l.length
    · simp [h2]
    · simp [h2]
  · simp [h]
theorem qAt_sets (l : List (List Int)) (e i : Nat) (x : List Int) : qAt (l.set e x) i = if e = i ∧ e < l.length then x else qAt l i := getD_set l e i x []
theorem lockG {nm nw ns k : Nat} {S : Lk} (h : LkG nm nw ns k S) (hk : k ≤ 999) {m : Nat} (hm : m < nm) {t : Int} (ht : 0 ≤ t) : LkG nm nw ns (k + 1) (lockS S m t).1 := by
  have h0 := h.t
  unfold totS at h0
  obtain ⟨g1, g2⟩ := lock_ok h.l h.n hm ht (by omega)
  obtain ⟨a1, a2, a3, a4⟩ := lock_tot h.l m hm t
  have hlo := h.l.ow
  refine ⟨g1, g2, ⟨fun i hi => ?_, fun i hi => ?_⟩, by unfold totS; rw [a2, a3]; omega⟩
  · unfold lockS at hi ⊢
    split at hi
    · rename_i hc
      rw [if_pos hc]
      dsimp only at hi ⊢
      rw [qAt_sets, if_neg (by rintro ⟨rfl, _⟩; exact hc hi)]
      exact h.h.m i hi
    · rename_i hc
      rw [if_neg hc]
      dsimp only at hi ⊢
      rw [getD_set] at hi
      split at hi
      · omega
      · exact h.h.m i hi
  · rw [a4] at hi
    rw [a3]
    exact h.h.s i hi
theorem handG {nm nw ns k : Nat} {S : Lk} (h : LkG nm nw ns k S) {m : Nat} (hm : m < nm) : LkG nm nw ns k (handS S m) := by
  obtain ⟨g1, g2⟩ := hand_ok h.l h.n hm
  have h0 := h.t
  have h2 := h.l.lk
  have := sumL_set S.lk m (qAt S.lk m).tail (by omega)
  have ht : (qAt S.lk m).tail.length ≤ (qAt S.lk m).length := by rw [List.length_tail]; omega
  refine ⟨g1, g2, ⟨fun i hi => ?_, h.h.s⟩, ?_⟩
  · unfold handS at hi ⊢
    dsimp only at hi ⊢
    have hlo := h.l.ow
    rw [getD_set] at hi
    rw [qAt_sets]
    split at hi
    · rename_i hc
      obtain ⟨rfl, _⟩ := hc
      rw [if_pos ⟨rfl, by omega⟩]
      have hall := qAt_all h.n.lk m
      cases hq : qAt S.lk m with
      | nil => rfl
      | cons a q => rw [hq] at hall hi; have := hall a (by simp); exact absurd (show a = -1 from hi) (by omega)
    · rename_i hc
      rw [if_neg (by rintro ⟨rfl, _⟩; exact hc ⟨rfl, by omega⟩)]
      exact h.h.m i hi
  · unfold totS handS at *
    dsimp only
    omega
theorem unlockG {nm nw ns k : Nat} {S : Lk} (h : LkG nm nw ns k S) {m : Nat} (hm : m < nm) (t : Int) : LkG nm nw ns k (unlockS S m t).1 := by
  unfold unlockS
  split
  · exact h
  · exact handG h hm
theorem pushwG {nm nw ns k : Nat} {S : Lk} (h : LkG nm nw ns k S) (hk : k ≤ 999) {c : Nat} (hc : c < nw) {t : Int} (ht : 0 ≤ t) : LkG nm nw ns (k + 1) { S with wq := S.wq.set c (qAt S.wq c ++ [t]) } := by
  have h0 := h.t
  unfold totS at h0
  have h2 := h.l.wq
  have := sumL_set S.wq c (qAt S.wq c ++ [t]) (by omega)
  rw [List.length_append, List.length_singleton] at this
  refine ⟨⟨h.l.ow, h.l.co, h.l.lk, by simp [h2], h.l.dq, ?_⟩, ⟨h.n.ow, h.n.co, h.n.lk, ?_, h.n.dq⟩, ⟨h.h.m, h.h.s⟩, ?_⟩
  · dsimp only; omega
  · exact set_all h.n.wq (fun v hv => by
      rcases List.mem_append.1 hv with hv | hv
      · exact qAt_all h.n.wq c v hv
      · simp at hv; omega)
  · unfold totS; dsimp only; omega
theorem waitG {nm nw ns k : Nat} {S : Lk} (h : LkG nm nw ns k S) (hk : k ≤ 999) {c m : Nat} (hc : c < nw) (hm : m < nm) {t : Int} (ht : 0 ≤ t) : LkG nm nw ns (k + 1) (waitS S c m t).1 := by
  unfold waitS
  split
  · exact ⟨h.l, h.n, h.h, Nat.le_succ_of_le h.t⟩
  · exact pushwG (handG h hm) hk hc ht
theorem signalG {nm nw ns k : Nat} {S : Lk} (h : LkG nm nw ns k S) {c m : Nat} (hc : c < nw) (hm : m < nm) : LkG nm nw ns k (signalS S c m).1 := by
  unfold signalS
  split
  · exact h
  · rename_i t q hq
    obtain ⟨g1, g2, g3, g4⟩ := sigq_ok h.l h.n hc hq
    have h0 := h.t
    have h2 := h.l.wq
    have := sumL_set S.wq c q (by omega)
    rw [hq, List.length_cons] at this
    unfold totS at h0
    have ht := h.l.tot
    have g5 : LkG nm nw ns (totS { S with wq := S.wq.set c q }) { S with wq := S.wq.set c q } := ⟨g1, g2, ⟨h.h.m, h.h.s⟩, Nat.le_refl _⟩
    have e : totS { S with wq := S.wq.set c q } + 1 = totS S := by unfold totS; dsimp only; omega
    have g6 := lockG g5 (by unfold totS at e ⊢; dsimp only at e ⊢; omega) hm g3
    exact ⟨g6.l, g6.n, g6.h, Nat.le_trans g6.t (by rw [e]; exact h.t)⟩
theorem bcastG {nm nw ns k : Nat} {c m : Nat} (hc : c < nw) (hm : m < nm) : ∀ (n : Nat) (S : Lk) (all : List Int) (got : Int), LkG nm nw ns k S → LkG nm nw ns k (bcast c m n S all got).1
  | 0, S, all, got, h => h
  | n + 1, S, all, got, h => by
    unfold bcast
    split
    · exact h
    · exact bcastG hc hm n _ _ _ (signalG h hc hm)
theorem broadG {nm nw ns k : Nat} {S : Lk} (h : LkG nm nw ns k S) {c m : Nat} (hc : c < nw) (hm : m < nm) : LkG nm nw ns k (broadS S c m).1 := bcastG hc hm _ _ _ _ h
theorem bcast_len (c m : Nat) : ∀ (n : Nat) (S : Lk) (all : List Int) (got : Int), (bcast c m n S all got).2.1.length ≤ all.length + n
  | 0, S, all, got => Nat.le_refl _
  | n + 1, S, all, got => by
    unfold bcast
    split
    · show all.length ≤ _; omega
    · refine Nat.le_trans (bcast_len c m n _ _ _) ?_
      rw [List.length_append, List.length_singleton]; omega
theorem broad_len {nm nw ns : Nat} {S : Lk} (h : LkL nm nw ns S) {c m : Nat} (hc : c < nw) : (broadS S c m).2.1.length ≤ 1000 := by
  have h1 := bcast_len c m (qAt S.wq c).length S [] (-1)
  have h2 := h.l2 _ (qAt_mem (l := S.wq) (m := c) (by have := h.wq; omega))
  unfold broadS
  rw [List.length_nil] at h1
  omega
theorem downG {nm nw ns k : Nat} {S : Lk} (h : LkG nm nw ns k S) (hk : k ≤ 999) {s : Nat} (hs : s < ns) {t : Int} (ht : 0 ≤ t) : LkG nm nw ns (k + 1) (downS S s t).1 := by
  have h0 := h.t
  unfold totS at h0
  have h2 := h.l.dq
  have h3 := h.l.co
  have hv := h.n.co _ (getD_mem (l := S.co) (e := s) (by omega))
  have := sumL_set S.dq s (qAt S.dq s ++ [t]) (by omega)
  rw [List.length_append, List.length_singleton] at this
  unfold downS
  split
  · rename_i hc
    refine ⟨⟨h.l.ow, h.l.co, h.l.lk, h.l.wq, by simp [h2], ?_⟩, ⟨h.n.ow, h.n.co, h.n.lk, h.n.wq, ?_⟩, ⟨h.h.m, fun i hi => ?_⟩, ?_⟩
    · dsimp only; omega
    · exact set_all h.n.dq (fun v hv => by
        rcases List.mem_append.1 hv with hv | hv
        · exact qAt_all h.n.dq s v hv
        · simp at hv; omega)
    · dsimp only at hi ⊢
      rw [qAt_sets, if_neg (by rintro ⟨rfl, _⟩; omega)]
      exact h.h.s i hi
    · unfold totS; dsimp only; omega
  · rename_i hc
    refine ⟨⟨h.l.ow, by simp [h3], h.l.lk, h.l.wq, h.l.dq, h.l.tot⟩, ⟨h.n.ow, fun v hv' => ?_, h.n.lk, h.n.wq, h.n.dq⟩, ⟨h.h.m, fun i hi => ?_⟩, by unfold totS; dsimp only; omega⟩
    · rcases mem_set2 hv' with hv' | rfl
      · exact h.n.co v hv'
      · omega
    · dsimp only at hi ⊢
      rw [getD_set] at hi
      split at hi
      · rename_i hc2
        obtain ⟨rfl, _⟩ := hc2
        exact h.h.s s (by omega)
      · exact h.h.s i hi
theorem upG {nm nw ns k : Nat} {S : Lk} (h : LkG nm nw ns k S) {s : Nat} (hs : s < ns) : LkG nm nw ns k (upS S s).1 := by
  have h0 := h.t
  unfold totS at h0
  have h2 := h.l.dq
  have h3 := h.l.co
  have hv := h.n.co _ (getD_mem (l := S.co) (e := s) (by omega))
  unfold upS
  split
  · rename_i hq
    split
    · refine ⟨⟨h.l.ow, by simp [h3], h.l.lk, h.l.wq, h.l.dq, h.l.tot⟩, ⟨h.n.ow, fun v hv' => ?_, h.n.lk, h.n.wq, h.n.dq⟩, ⟨h.h.m, fun i hi => ?_⟩, h.t⟩
      · rcases mem_set2 hv' with hv' | rfl
        · exact h.n.co v hv'
        · omega
      · dsimp only at hi ⊢
        rw [getD_set] at hi
        split at hi
        · rename_i hc2
          obtain ⟨rfl, _⟩ := hc2
          exact hq
        · exact h.h.s i hi
    · exact h
  · rename_i t q hq
    have := sumL_set S.dq s q (by omega)
    rw [hq, List.length_cons] at this
    have hall := qAt_all h.n.dq s
    rw [hq] at hall
    refine ⟨⟨h.l.ow, h.l.co, h.l.lk, h.l.wq, by simp [h2], ?_⟩, ⟨h.n.ow, h.n.co, h.n.lk, h.n.wq, set_all h.n.dq (fun v hv => hall v (by simp [hv]))⟩, ⟨h.h.m, fun i hi => ?_⟩, ?_⟩
    · dsimp only; have := h.l.tot; omega
    · dsimp only at hi ⊢
      rw [qAt_sets]
      split
      · rename_i hc2
        obtain ⟨rfl, _⟩ := hc2
        have := h.h.s s hi
        rw [hq] at this
        cases this
      · exact h.h.s i hi
    · unfold totS; dsimp only; omega
theorem sumL_nils (n : Nat) : sumL (List.replicate n []) = 0 := by
  unfold sumL; simp
theorem qAt_nils (n i : Nat) : qAt (List.replicate n []) i = [] := by
  unfold qAt
  rw [List.getD_eq_getElem?_getD, List.getElem?_replicate]
  split <;> rfl
theorem newG (nm nw : Nat) (se : List Int) (h : ∀ v ∈ se, 0 ≤ v ∧ v ≤ 1073741824) : LkG nm nw se.length 0 (newS nm nw se) := by
  have hr : ∀ (n : Nat) (L : List Int), L ∈ List.replicate n ([] : List Int) → ∀ v ∈ L, (0 : Int) ≤ v := fun n L hL v hv => by
    rw [(List.mem_replicate.1 hL).2] at hv; cases hv
  refine ⟨⟨List.length_replicate .., rfl, List.length_replicate .., List.length_replicate .., List.length_replicate .., ?_⟩, ⟨fun v hv => ?_, h, hr _, hr _, hr _⟩, ⟨fun i _ => qAt_nils _ _, fun i _ => qAt_nils _ _⟩, ?_⟩
  · show sumL (List.replicate nm []) + sumL (List.replicate nw []) + sumL (List.replicate se.length []) ≤ 1000
    rw [sumL_nils, sumL_nils, sumL_nils]; omega
  · rw [(List.mem_replicate.1 hv).2]; omega
  · show sumL (List.replicate nm []) + sumL (List.replicate nw []) + sumL (List.replicate se.length []) ≤ 0
    rw [sumL_nils, sumL_nils, sumL_nils]; omega
end Go.Proofs.Ytaplihoeephbeaa.V
end
section
namespace Go.Proofs.Ytaplihoeephbeaa.V
open Go Go.Proofs
set_option maxRecDepth 100000
set_option maxHeartbeats 40000000
theorem waits170 {nm nw ns : Nat} {S : Lk} (h : LkL nm nw ns S) (hb : nm ≤ 1000 ∧ nw ≤ 1000 ∧ ns ≤ 1000) (t : Int) : Spec Try.prog 170 [lkV S, .int .i64 t] [] (fun d os' => (∃ b, d = .bool b) ∧ os' = []) := by
  obtain ⟨h1, h2, h3, h4, h5⟩ := h.b0 hb
  have q1 := h.l1
  have q2 := h.l2
  have q3 := h.l3
  obtain ⟨W, hW⟩ : ∃ W : List (List (List Int)), W = [S.lk, S.wq, S.dq] := ⟨_, rfl⟩
  have hWl : W.length = 3 := by rw [hW]; rfl
  have hWq : ∀ A ∈ W, A.length ≤ 1000 ∧ ∀ L ∈ A, L.length ≤ 1000 := by
    intro A hA
    rw [hW] at hA
    simp at hA
    rcases hA with rfl | rfl | rfl
    · exact ⟨h3, q1⟩
    · exact ⟨h4, q2⟩
    · exact ⟨h5, q3⟩
  have hWm : (W.map lists).length = 3 := by rw [List.length_map]; exact hWl
  refine Spec.by Try.func170 rfl (by decide) (by decide +kernel) rfl ?_
  (refine goR ?_)
  ((with_reducible refine Pt.go ?_); conv => whnf)
  (refine goR ?_)
  ((with_reducible refine Pt.go ?_); conv => whnf)
  (refine goR ?_)
  refine App.only false rfl rfl ?_
  (refine goR ?_)
  have hWe : [lists S.lk, lists S.wq, lists S.dq] = W.map lists := by rw [hW]; rfl
  refine Pt.weak (Weak.on [(1, .int .i64 t), (4, .bool false), (5, .lst 1 false [lists S.lk, lists S.wq, lists S.dq])] [one (.row 93 10 false [lkV S])]) ?_
  rw [hWe]
  (refine goA ?_)
  refine Loop.inv (A := Nat) (List.range 53) (fun i => [(1, .int .i64 t), (4, .bool false), (5, .lst 1 false (W.map lists)), (6, .int .i64 (i : Int))]) (fun _ => [one (.row 93 10 false [lkV S])]) (fun i => i ≤ 3) (fun i => 3 - i) 0 (Nat.zero_le _) ?_ ?_
  · exact Weak.start' rfl rfl tld
  intro i hi
  (refine goA ?_)
  refine Br.dec (fun h0 => ?_) (fun h0 => ?_)
  · have hil : i < W.length := by omega
    obtain ⟨A, hA⟩ : ∃ A, W[i]? = some A := ⟨_, List.getElem?_eq_getElem hil⟩
    obtain ⟨hA1, hA2⟩ := hWq A (List.mem_of_getElem? hA)
    have hAm : (A.map ints).length = A.length := List.length_map ..
    (refine goA ?_)
    refine Loop.inv (A := Nat) (List.range 53) (fun k => [(1, .int .i64 t), (4, .bool false), (5, .lst 1 false (W.map lists)), (6, .int .i64 (i : Int)), (7, .int .i64 (k : Int))]) (fun _ => [one (.row 93 10 false [lkV S])]) (fun k => k ≤ A.length) (fun k => A.length - k) 0 (Nat.zero_le _) ?_ ?_
    · exact Weak.start' rfl rfl tld
    intro k hk
    (refine goA ?_)
    refine Opt.of (get_map hA) ?_
    (refine goA ?_)
    refine Br.dec (fun h6 => ?_) (fun h6 => ?_)
    · have hkl : k < A.length := by omega
      obtain ⟨L, hL⟩ : ∃ L, A[k]? = some L := ⟨_, List.getElem?_eq_getElem hkl⟩
      have hL2 := hA2 L (List.mem_of_getElem? hL)
      have hLm : (L.map (D.int .i64)).length = L.length := List.length_map ..
      (refine goA ?_)
      refine Loop.inv (A := Nat) (List.range 53) (fun j => [(1, .int .i64 t), (4, .bool false), (5, .lst 1 false (W.map lists)), (6, .int .i64 (i : Int)), (7, .int .i64 (k : Int)), (8, .int .i64 (j : Int))]) (fun _ => [one (.row 93 10 false [lkV S])]) (fun j => j ≤ L.length) (fun j => L.length - j) 0 (Nat.zero_le _) ?_ ?_
      · exact Weak.start' rfl rfl tld
      intro j hj
      (refine goA ?_)
      refine Opt.of (get_map hA) ?_
      (refine goA ?_)
      refine Opt.of (get_map hL) ?_
      (refine goA ?_)
      refine Br.dec (fun h7 => ?_) (fun h7 => ?_)
      · have hjl : j < L.length := by omega
        obtain ⟨v, hv⟩ : ∃ v, L[j]? = some v := ⟨_, List.getElem?_eq_getElem hjl⟩
        (refine goA ?_)
        refine Opt.of (get_map hA) ?_
        (refine goA ?_)
        refine Opt.of (get_map hL) ?_
        (refine goA ?_)
        refine Opt.of (get_map hv) ?_
        (refine goA ?_)
        refine Br.dec (fun h8 => ?_) (fun h8 => ?_)
        · (refine goA ?_)
          refine Ret.trim 0 (by simp) rfl (Nat.le_of_ble_eq_true rfl) ?_
          exact Ret.mk [.tmp _] rfl ⟨⟨_, rfl⟩, rfl⟩
        · (refine goA ?_)
          refine ⟨_, _, _, ?_, ⟨j + 1, ?_, rfl, rfl, rfl⟩, ?_⟩
          · show L.length - (j + 1) < L.length - j; omega
          · exact hjl
          · refine Weak.backT 1 (by simp) (by first | rfl | kernel_rfl) (by kernel_rfl) (Nat.le_of_ble_eq_true rfl) tld (by kernel_rfl) (by kernel_rfl)
      · (refine goA ?_)
        refine ⟨_, _, _, ?_, ⟨k + 1, ?_, rfl, rfl, rfl⟩, ?_⟩
        · show A.length - (k + 1) < A.length - k; omega
        · exact hkl
        · refine Weak.backT 1 (by simp) (by first | rfl | kernel_rfl) (by kernel_rfl) (Nat.le_of_ble_eq_true rfl) tld (by kernel_rfl) (by kernel_rfl)
    · (refine goA ?_)
      refine ⟨_, _, _, ?_, ⟨i + 1, ?_, rfl, rfl, rfl⟩, ?_⟩
      · show 3 - (i + 1) < 3 - i; omega
      · show i + 1 ≤ 3; omega
      · refine Weak.backT 1 (by simp) (by first | rfl | kernel_rfl) (by kernel_rfl) (Nat.le_of_ble_eq_true rfl) tld (by kernel_rfl) (by kernel_rfl)
  · (refine goA ?_)
    refine Ret.trim 0 (by simp) rfl (Nat.le_of_ble_eq_true rfl) ?_
    exact Ret.mk [.tmp _] rfl ⟨⟨_, rfl⟩, rfl⟩
/-- The state of locks, only read. -/
theorem lk_view {os : Objs} {S : Lk} {nm nw ns a b c d e : Nat} (h : LkL nm nw ns S) (ha : os.at a 0 = .row 3 1 true (S.ow.map (D.int .i64))) (hb : os.at b 0 = .row 3 1 true (S.co.map (D.int .i64)))
    (hc : os.at c 0 = .row 23 1 true (S.lk.map ints)) (hd : os.at d 0 = .row 23 1 true (S.wq.map ints)) (he : os.at e 0 = .row 23 1 true (S.dq.map ints)) :
    View allF os (.agg [.int .i64 0, .nils, .sl a 0 1 0 nm none, .sl b 0 1 0 ns none, .nils, .sl c 0 1 0 nm none, .sl d 0 1 0 nw none, .sl e 0 1 0 ns none, .nils, .nils]) (lkV S) :=
  View.agg (.cons (.same _) (.cons (.same _) (.cons (View.slAll rfl ha (by rw [List.length_map]; exact h.ow) (by simp) (ViewL.same _) (pureL_map (fun _ => rfl) _)) (.cons (View.slAll rfl hb (by rw [List.length_map]; exact h.co) (by simp) (ViewL.same _) (pureL_map (fun _ => rfl) _)) (.cons (.same _)
    (.cons (View.slAll rfl hc (by rw [List.length_map]; exact h.lk) (by simp) (ViewL.same _) (pureL_rows _)) (.cons (View.slAll rfl hd (by rw [List.length_map]; exact h.wq) (by simp) (ViewL.same _) (pureL_rows _)) (.cons (View.slAll rfl he (by rw [List.length_map]; exact h.dq) (by simp) (ViewL.same _) (pureL_rows _)) (.cons (.same _) (.cons (.same _) .nil))))))))))
@[reducible] def cZ : Fam := one (.row 93 10 false [.agg [.int .i64 0, .nils, .nils, .nils, .nils, .nils, .nils, .nils, .nils, .nils]])
theorem begin101 (x y : Int) (l : List Int) (hx : I64 x) (hy : I64 y) (hl : ∀ v ∈ l, I64 v) (hl2 : l.length ≤ 1000000000000000000) : Spec Try.prog 101 [.int .i64 x, .int .i64 y, ints l] []
    (fun d os' => ∃ nm nw ns S, (LkG nm nw ns 0 S ∧ nm ≤ 4 ∧ nw ≤ 4 ∧ ns ≤ 4) ∧ d = .tup [lkD nm nw ns, lkV S, .bool true] ∧ os' = lkR S) := by
  have hlm : (l.map (D.int .i64)).length = l.length := List.length_map ..
  refine Spec.weak (post := fun d os' => ∃ (nm nw ns : Nat) (S : Lk) (x1 x2 x3 x4 x5 : Fam), (LkG nm nw ns 0 S ∧ nm ≤ 4 ∧ nw ≤ 4 ∧ ns ≤ 4) ∧ d = .tup [.agg [.int .i64 0, .nils, .sl 3 0 1 0 nm none, .sl 4 0 1 0 ns none, .nils, .sl 5 0 1 0 nm none, .sl 6 0 1 0 nw none, .sl 7 0 1 0 ns none, .nils, .nils], lkV S, .bool true] ∧ os' = [x1, x2, one .gone, rowI S.ow, rowI S.co, rowC S.lk, rowC S.wq, rowC S.dq, x4, x5]) ?_ ?_
  rotate_left
  · rintro d os' ⟨nm, nw, ns, S, x1, x2, x3, x4, x5, hg, rfl, rfl⟩
    refine ⟨[(0, .tup [lkD nm nw ns, lkV S, .bool true])], lkR S, ?_, nm, nw, ns, S, hg, rfl, rfl⟩
    refine Weak.trans (Weak.frzK (fun i => Nat.blt i 2 || Nat.blt 7 i) [] trivial) ?_
    refine Weak.trans (Weak.on [(0, .tup [.agg [.int .i64 0, .nils, .sl 3 0 1 0 nm none, .sl 4 0 1 0 ns none, .nils, .sl 5 0 1 0 nm none, .sl 6 0 1 0 nw none, .sl 7 0 1 0 ns none, .nils, .nils], lkV S, .bool true])] [one .gone, one .gone, one .gone, rowI S.ow, rowI S.co, rowC S.lk, rowC S.wq, rowC S.dq, one .gone, one .gone]) ?_
    refine Weak.shf 3 0 (Weak.shf 4 1 ?_)
    refine Weak.trans (Weak.on [(0, .tup [.agg [.int .i64 0, .nils, .sl 0 0 1 0 nm none, .sl 1 0 1 0 ns none, .nils, .sl 5 0 1 0 nm none, .sl 6 0 1 0 nw none, .sl 7 0 1 0 ns none, .nils, .nils], lkV S, .bool true])] [rowI S.ow, rowI S.co, one .gone, one .gone, one .gone, rowC S.lk, rowC S.wq, rowC S.dq, one .gone, one .gone]) ?_
    refine Weak.shf 5 2 (Weak.shf 6 3 ?_)
    refine Weak.trans (Weak.on [(0, .tup [.agg [.int .i64 0, .nils, .sl 0 0 1 0 nm none, .sl 1 0 1 0 ns none, .nils, .sl 2 0 1 0 nm none, .sl 3 0 1 0 nw none, .sl 7 0 1 0 ns none, .nils, .nils], lkV S, .bool true])] [rowI S.ow, rowI S.co, rowC S.lk, rowC S.wq, one .gone, one .gone, one .gone, rowC S.dq, one .gone, one .gone]) ?_
    refine Weak.shf 7 4 ?_
    refine Weak.trans (Weak.on [(0, .tup [lkD nm nw ns, lkV S, .bool true])] [rowI S.ow, rowI S.co, rowC S.lk, rowC S.wq, rowC S.dq, one .gone, one .gone, one .gone, one .gone, one .gone]) ?_
    exact Weak.trim 5 (Nat.zero_le _) rfl (Nat.le_of_ble_eq_true rfl)
  refine Spec.by Try.func101 rfl (by decide) (by decide +kernel) rfl ?_
  (refine goA ?_)
  refine Call.mk ((around33 x 5 hx (by omega)).only _ rfl (by rintro d rfl; rfl)) ?_; rintro d os' ⟨rfl, rfl⟩
  have hnm := around_lt x 5 (by omega)
  obtain ⟨nm, hne⟩ : ∃ n : Nat, around x 5 = n := ⟨(around x 5).toNat, by omega⟩
  rw [hne] at hnm ⊢
  (refine goA ?_)
  refine Call.mk ((around33 y 5 hy (by omega)).only _ rfl (by rintro d rfl; rfl)) ?_; rintro d os' ⟨rfl, rfl⟩
  have hnw := around_lt y 5 (by omega)
  obtain ⟨nw, hwe⟩ : ∃ n : Nat, around y 5 = n := ⟨(around y 5).toNat, by omega⟩
  rw [hwe] at hnw ⊢
  (refine goR ?_)
  ((with_reducible refine Pt.go ?_); conv => whnf)
  (refine goR ?_)
  refine Pt.weak (Weak.trans (Weak.on [(0, .int .i64 (nm : Int)), (1, .int .i64 (nw : Int)), (2, ints l), (6, .ptr 0 0 10 0 0), (7, .ptr 1 0 10 0 0), (9, .nils)] [cZ, cZ]) (Weak.nilrow 9 rfl 3 1 true)) ?_
  (refine goA ?_)
  refine Loop.inv2 (A := Nat × List Int) 0 (List.range 48) (fun a => [(0, .int .i64 (nm : Int)), (1, .int .i64 (nw : Int)), (2, ints l), (6, .ptr 0 0 10 0 0), (7, .ptr 1 0 10 0 0), (9, .sl 2 0 1 0 a.2.length none), (10, .int .i64 (a.1 : Int))]) (fun a => [cZ, cZ, rowI a.2])
    (fun a => a.1 ≤ 4 ∧ a.1 ≤ l.length ∧ a.2.length = a.1 ∧ ∀ v ∈ a.2, 0 ≤ v ∧ v ≤ 3) (fun a => a.2.length ≤ 4 ∧ ∀ v ∈ a.2, 0 ≤ v ∧ v ≤ 3) (fun a => 4 - a.1) (0, []) ⟨Nat.zero_le _, Nat.zero_le _, rfl, by simp⟩ ?_ ?_ ?_
  · exact Weak.start' rfl rfl tld
  · intro cont
    rintro ⟨i, s⟩ ⟨hi, hil, hsl, hs⟩
    dsimp only at hi hil hsl hs ⊢
    have hsm : (s.map (D.int .i64)).length = s.length := List.length_map ..
    (refine goA ?_)
    refine Br.dec (fun h0 => ?_) (fun h0 => ?_)
    · (refine goA ?_)
      refine Br.dec (fun h6 => ?_) (fun h6 => ?_)
      · have hlt : i < l.length := by omega
        obtain ⟨v, hv⟩ : ∃ v, l[i]? = some v := ⟨_, List.getElem?_eq_getElem hlt⟩
        have hv64 := hl v (List.mem_of_getElem? hv)
        have hva := around_lt v 4 (by omega)
        (refine goA ?_)
        refine Opt.of (get_map hv) ?_
        (refine goA ?_)
        refine Call.mk ((around33 v 4 hv64 (by omega)).only _ rfl (by rintro d rfl; rfl)) ?_; rintro d os' ⟨rfl, rfl⟩
        (refine goA ?_)
        refine App.only false rfl rfl ?_
        (refine goA ?_)
        refine ⟨_, _, _, ?_, ⟨(i + 1, s ++ [around v 4]), ?_, rfl, rfl, rfl⟩, ?_⟩
        · show 4 - (i + 1) < 4 - i; omega
        · refine ⟨by omega, hlt, by rw [List.length_append, List.length_singleton, hsl], fun u hu => ?_⟩
          rcases List.mem_append.1 hu with hu | hu
          · exact hs u hu
          · simp at hu; omega
        · refine Weak.trans (Weak.on [(0, .int .i64 (nm : Int)), (1, .int .i64 (nw : Int)), (2, ints l), (6, .ptr 0 0 10 0 0), (7, .ptr 1 0 10 0 0), (9, .sl 3 0 1 0 (s.length + 1) none), (10, .int .i64 ((i : Int) + 1))] [cZ, cZ, one .gone, one (.row 3 1 true (s.map (D.int .i64) ++ [D.int .i64 (around v 4)]))]) ?_
          rw [map_snoc, show s.length + 1 = (s ++ [around v 4]).length by rw [List.length_append, List.length_singleton]]
          refine Weak.trans (Weak.shift 3 2 (by decide) (by simp) (Nat.le_of_ble_eq_true rfl) (Nat.le_of_ble_eq_true rfl) (fun j => by cases j <;> rfl) rfl) ?_
          refine Weak.backT 3 (by simp) (by first | rfl | kernel_rfl) (by kernel_rfl) (Nat.le_of_ble_eq_true rfl) tld (by kernel_rfl) (by kernel_rfl)
      · (refine goR ?_)
        refine Pt.weak ?_ (cont.h ((i, s)) ?_)
        · refine Weak.backT 3 (by simp) (by first | rfl | kernel_rfl) (by kernel_rfl) (Nat.le_of_ble_eq_true rfl) tld (by kernel_rfl) (by kernel_rfl)
        · exact ⟨by show s.length ≤ 4; omega, hs⟩
    · (refine goR ?_)
      refine Pt.weak ?_ (cont.h ((i, s)) ?_)
      · refine Weak.backT 3 (by simp) (by first | rfl | kernel_rfl) (by kernel_rfl) (Nat.le_of_ble_eq_true rfl) tld (by kernel_rfl) (by kernel_rfl)
      · exact ⟨by show s.length ≤ 4; omega, hs⟩
  · rintro ⟨i, s⟩ ⟨hs4, hs⟩
    dsimp only at hs4 hs ⊢
    have hsm : (s.map (D.int .i64)).length = s.length := List.length_map ..
    have hg := newG nm nw s (fun v hv => by have := hs v hv; omega)
    (refine goR ?_)
    refine Pt.frz (fun i => Nat.beq i 2) [(9, ints s)] ⟨View.slAll rfl rfl hsm (by simp) (ViewL.same _) (pureL_map (fun _ => rfl) _), trivial⟩ ?_
    (refine goA ?_)
    refine Call.mk ((new66 nm nw s (by omega) (by omega) (by omega)).onto _ rfl) ?_
    rintro d os' ⟨d1, os1, ⟨rfl, rfl⟩, rfl, rfl⟩
    (refine goA ?_)
    refine Call.mk ((new169 nm nw s (by omega) (by omega) (by omega)).only _ rfl (by rintro d rfl; rfl)) ?_; rintro d os' ⟨rfl, rfl⟩
    (refine goA ?_)
    refine Call.mk ((same103 hg.l (by omega)).read (.cons (lk_view hg.l rfl rfl rfl rfl rfl) (.cons (.same _) .nil)) rfl (by rintro d rfl; exact ⟨rfl, rfl⟩)) ?_
    rintro d os' ⟨rfl, rfl⟩
    (refine goA ?_)
    refine Ret.mk [.cell 6 93, .cell 7 93, .tmp 8] rfl ?_
    exact ⟨nm, nw, s.length, newS nm nw s, _, _, one .gone, _, _, ⟨hg, by omega, by omega, hs4⟩, rfl, rfl⟩
end Go.Proofs.Ytaplihoeephbeaa.V
end
section
namespace Go.Proofs.Ytaplihoeephbeaa.V
open Go Go.Proofs
set_option maxRecDepth 100000
set_option maxHeartbeats 40000000
@[reducible] def dlD (kd t x : Int) : D := .agg [.int .i64 kd, .int .i64 t, .int .i64 x]
theorem tupb {a : D} {p : Prop} [i : Decidable p] (h : p) : D.tup [a, .bool (decide p)] = D.tup [a, .bool true] := by rw [decide_eq_true h]
/-- What a deed comes to. -/
@[reducible] def dlPost (nm nw ns k : Nat) : D → Objs → Prop := fun d os' => ∃ S', (d = .tup [lkV S', .bool true] ∧ LkG nm nw ns (k + 1) S') ∧ os' = lkO nm nw ns S' []
theorem Spec.lkTrim {f : FuncId} {args : List D} {nm nw ns k : Nat} {S : Lk} (h : Spec Try.prog f args (lkO nm nw ns S []) (fun d os' => ∃ S' r, (d = .tup [lkV S', .bool true] ∧ LkG nm nw ns (k + 1) S') ∧ os' = lkO nm nw ns S' r)) : Spec Try.prog f args (lkO nm nw ns S []) (dlPost nm nw ns k) := by
  refine Spec.weak h ?_
  rintro d os' ⟨S', r, ⟨rfl, hg⟩, rfl⟩
  exact ⟨_, _, Weak.trim 6 (Nat.le_refl _) rfl (Nat.le_add_left 6 r.length), S', ⟨rfl, hg⟩, rfl⟩
theorem mutexes171 {nm nw ns k : Nat} {S : Lk} (h : LkG nm nw ns k S) (hk : k ≤ 999) (hb : (1 ≤ nm ∧ nm ≤ 4) ∧ nw ≤ 4 ∧ ns ≤ 4) (kd T x t : Int) (hx : I64 x) (ht : 0 ≤ t) : Spec Try.prog 171 [lkP, lkV S, dlD kd T x, .int .i64 t] (lkO nm nw ns S []) (dlPost nm nw ns k) := by
  refine Spec.lkTrim ?_
  have hb' : nm ≤ 1000 ∧ nw ≤ 1000 ∧ ns ≤ 1000 := by omega
  have hom : (S.ow.map (D.int .i64)).length = nm := by rw [List.length_map]; exact h.l.ow
  have hwm : (S.wq.map ints).length = nw := by rw [List.length_map]; exact h.l.wq
  have up : ∀ {S' : Lk}, LkG nm nw ns k S' → LkG nm nw ns (k + 1) S' := fun g => ⟨g.l, g.n, g.h, Nat.le_succ_of_le g.t⟩
  have ebb : ∀ b : Bool, (b == b) = true := fun b => by cases b <;> rfl
  refine Spec.by Try.func171 rfl (by decide) (by decide +kernel) rfl ?_
  (refine goA ?_)
  refine Call.mk ((around33 x ((S.ow.map (D.int .i64)).length : Nat) hx (by rw [hom]; omega)).only _ rfl (by rintro d rfl; rfl)) ?_; rintro d os' ⟨rfl, rfl⟩
  rw [hom]
  have hma := around_lt x nm (by omega)
  obtain ⟨m, hme⟩ : ∃ n : Nat, around x nm = n := ⟨(around x nm).toNat, by omega⟩
  rw [hme] at hma ⊢
  have hm : m < nm := by omega
  (refine goA ?_)
  refine Br.dec (fun h0 => ?_) (fun h0 => ?_)
  · (refine goA ?_)
    refine Call.mk ((lock213 h.l h.n hb' m hm t).only _ rfl (by rintro d rfl; rfl)) ?_; rintro d os' ⟨rfl, rfl⟩
    (refine goA ?_)
    refine Call.mk (lock67 h.l m hm t _) ?_
    rintro d os' ⟨rfl, rfl⟩
    (refine goA ?_)
    rw [ebb]
    exact Ret.mk [.cell 8 93, .tmp 9] rfl ⟨_, _, ⟨rfl, lockG h hk hm ht⟩, rfl⟩
  (refine goA ?_)
  refine Br.dec (fun h1 => ?_) (fun h1 => ?_)
  · (refine goA ?_)
    refine Call.mk ((unlock214 h.l hb' m hm t).only _ rfl (by rintro d rfl; rfl)) ?_; rintro d os' ⟨rfl, rfl⟩
    (refine goA ?_)
    refine Call.mk (unlock68 h.l m hm t _) ?_
    rintro d os' ⟨rfl, rfl⟩
    (refine goA ?_)
    exact Ret.mk [.cell 8 93, .tmp 9] rfl ⟨_, _, ⟨tupb rfl, up (unlockG h hm t)⟩, rfl⟩
  (refine goA ?_)
  refine Br.dec (fun h2 => ?_) (fun h2 => ?_)
  · (refine goA ?_)
    exact Ret.mk [.cell 8 93, .tmp 9] rfl ⟨_, _, ⟨rfl, up h⟩, rfl⟩
  (refine goA ?_)
  refine Call.mk ((around33 x ((S.wq.map ints).length : Nat) hx (by omega)).only _ rfl (by rintro d rfl; rfl)) ?_; rintro d os' ⟨rfl, rfl⟩
  rw [hwm]
  have hca := around_lt x nw (by omega)
  obtain ⟨c, hce⟩ : ∃ n : Nat, around x nw = n := ⟨(around x nw).toNat, by omega⟩
  rw [hce] at hca ⊢
  have hc : c < nw := by omega
  have e10 : (c : Int).tmod (((S.ow.map (D.int .i64)).length : Nat) : Int) = ((c % nm : Nat) : Int) := by rw [hom, Int.tmod_eq_emod_of_nonneg (by omega)]; omega
  have hm2 : c % nm < nm := Nat.mod_lt _ (by omega)
  obtain ⟨m2, hme2⟩ : ∃ n : Nat, c % nm = n := ⟨_, rfl⟩
  rw [hme2] at e10 hm2
  (refine goA ?_)
  refine Br.dec (fun h3 => ?_) (fun h3 => ?_)
  · (refine goA ?_)
    rw [e10]
    refine Call.mk ((wait215 h.l hb' c m2 hc hm2 t).only _ rfl (by rintro d rfl; rfl)) ?_; rintro d os' ⟨rfl, rfl⟩
    (refine goA ?_)
    refine Call.mk (wait89 h.l c m2 hc hm2 t _) ?_
    rintro d os' ⟨rfl, rfl⟩
    (refine goA ?_)
    exact Ret.mk [.cell 8 93, .tmp 9] rfl ⟨_, _, ⟨tupb rfl, waitG h hk hc hm2 ht⟩, rfl⟩
  (refine goA ?_)
  refine Br.dec (fun h4 => ?_) (fun h4 => ?_)
  · (refine goA ?_)
    rw [e10]
    refine Call.mk ((signal216 h.l h.n hb' c m2 hc hm2).only _ rfl (by rintro d rfl; rfl)) ?_; rintro d os' ⟨rfl, rfl⟩
    (refine goA ?_)
    refine Call.mk (signal90 h.l h.n c m2 hc hm2 _) ?_
    rintro d os' ⟨rfl, rfl⟩
    (refine goA ?_)
    rw [ebb]
    exact Ret.mk [.cell 8 93, .tmp 9] rfl ⟨_, _, ⟨rfl, up (signalG h hc hm2)⟩, rfl⟩
  (refine goA ?_)
  rw [e10]
  refine Call.mk ((broad217 h.l h.n hb' c m2 hc hm2).only _ rfl (by rintro d rfl; rfl)) ?_; rintro d os' ⟨rfl, rfl⟩
  (refine goA ?_)
  refine Call.mk (broad91 h.l h.n c m2 hc hm2 _) ?_
  rintro d os' ⟨rfl, rfl⟩
  (refine goA ?_)
  refine Call.mk ((same50 (broadS S c m2).2.1 (broadS S c m2).2.1 (by have := broad_len h.l (c := c) (m := m2) hc; omega)).only _ rfl (by rintro d rfl; rfl)) ?_; rintro d os' ⟨rfl, rfl⟩
  rw [decide_eq_true (rfl : (broadS S c m2).2.1 = (broadS S c m2).2.1)]
  (refine goA ?_)
  exact Ret.mk [.cell 8 93, .tmp 9] rfl ⟨_, _, ⟨tupb rfl, up (broadG h hc hm2)⟩, rfl⟩
end Go.Proofs.Ytaplihoeephbeaa.V
end
section
namespace Go.Proofs.Ytaplihoeephbeaa.V
open Go Go.Proofs
set_option maxRecDepth 100000
set_option maxHeartbeats 40000000
theorem mutexes171o {nm nw ns k : Nat} {S : Lk} (h : LkG nm nw ns k S) (hk : k ≤ 999) (hb : (1 ≤ nm ∧ nm ≤ 4) ∧ nw ≤ 4 ∧ ns ≤ 4) (kd T x t : Int) (hx : I64 x) (ht : 0 ≤ t) (r : Objs) : Spec Try.prog 171 [lkP, lkV S, dlD kd T x, .int .i64 t] (lkO nm nw ns S r)
    (fun d os' => ∃ S', (d = .tup [lkV S', .bool true] ∧ LkG nm nw ns (k + 1) S') ∧ os' = lkO nm nw ns S' r) :=
  lk_frame (mutexes171 h hk hb kd T x t hx ht) rfl (by rintro d S' ⟨rfl, _⟩; rfl) r
theorem does102 {nm nw ns k : Nat} {S : Lk} (h : LkG nm nw ns k S) (hk : k ≤ 999) (hb : nm ≤ 4 ∧ nw ≤ 4 ∧ ns ≤ 4) (kd T x : Int) (hT : I64 T) (hx : I64 x) : Spec Try.prog 102 [lkP, lkV S, dlD kd T x] (lkO nm nw ns S []) (dlPost nm nw ns k) := by
  refine Spec.lkTrim ?_
  have hb' : nm ≤ 1000 ∧ nw ≤ 1000 ∧ ns ≤ 1000 := by omega
  have hom : (S.ow.map (D.int .i64)).length = nm := by rw [List.length_map]; exact h.l.ow
  have hcm : (S.co.map (D.int .i64)).length = ns := by rw [List.length_map]; exact h.l.co
  have up : ∀ {S' : Lk}, LkG nm nw ns k S' → LkG nm nw ns (k + 1) S' := fun g => ⟨g.l, g.n, g.h, Nat.le_succ_of_le g.t⟩
  have ebb : ∀ b : Bool, (b == b) = true := fun b => by cases b <;> rfl
  refine Spec.by Try.func102 rfl (by decide) (by decide +kernel) rfl ?_
  (refine goA ?_)
  refine Call.mk ((around33 T 8 hT (by omega)).only _ rfl (by rintro d rfl; rfl)) ?_; rintro d os' ⟨rfl, rfl⟩
  have hta := around_lt T 8 (by omega)
  obtain ⟨t, hte⟩ : ∃ t, around T 8 = t := ⟨_, rfl⟩
  rw [hte] at hta ⊢
  have ht := hta.1
  (refine goA ?_)
  refine Call.mk ((waits170 h.l hb' t).only _ rfl (by rintro d ⟨b, rfl⟩; rfl)) ?_
  rintro d os' ⟨⟨b, rfl⟩, rfl⟩
  cases b with
  | true =>
    (refine goA ?_)
    exact Ret.mk [.cell 6 93, .tmp 7] rfl ⟨_, _, ⟨rfl, up h⟩, rfl⟩
  | false =>
    (refine goR ?_)
    apply cutG (A := Unit) (n0 := 6) (fun _ => [(0, lkP), (4, .ptr 6 0 10 0 0), (5, .ptr 7 0 3 0 0), (6, .ptr 8 0 10 0 0), (8, .int .i64 t)]) (fun _ => lkO nm nw ns S [one (.row 93 10 false [lkV S]), one (.row 153 3 false [dlD kd T x]), cZ]) (fun _ => True)
    · intro key
      (refine goA ?_)
      refine Br.dec (fun h0 => ?_) (fun h0 => ?_)
      · (refine goA ?_)
        refine Br.dec (fun h4 => ?_) (fun h4 => ?_)
        · (refine goA ?_)
          refine Br.dec (fun h5 => ?_) (fun h5 => ?_)
          · (refine goA ?_)
            exact Ret.mk [.cell 6 93, .tmp 7] rfl ⟨_, _, ⟨rfl, up h⟩, rfl⟩
          · (refine goA ?_)
            refine Call.mk (mutexes171o h hk (by omega) kd T x t hx ht _) ?_
            rintro d os' ⟨S', ⟨rfl, hg⟩, rfl⟩
            (refine goA ?_)
            exact Ret.mk [.cell 6 93, .tmp 7] rfl ⟨_, _, ⟨rfl, hg⟩, rfl⟩
        · (refine goR ?_)
          exact Pt.weak (Weak.on _ _ (by kernel_rfl) tld) (key () trivial)
      · (refine goR ?_)
        exact Pt.weak (Weak.on _ _ (by kernel_rfl) tld) (key () trivial)
    · rintro _ _
      ((with_reducible refine Pt.go ?_); conv => whnf)
      (refine goA ?_)
      refine Br.dec (fun h5 => ?_) (fun h5 => ?_)
      · (refine goA ?_)
        exact Ret.mk [.cell 6 93, .tmp 7] rfl ⟨_, _, ⟨rfl, up h⟩, rfl⟩
      (refine goA ?_)
      refine Call.mk ((around33 x ((S.co.map (D.int .i64)).length : Nat) hx (by omega)).only _ rfl (by rintro d rfl; rfl)) ?_; rintro d os' ⟨rfl, rfl⟩
      rw [hcm]
      have hma := around_lt x ns (by omega)
      obtain ⟨m, hme⟩ : ∃ n : Nat, around x ns = n := ⟨(around x ns).toNat, by omega⟩
      rw [hme] at hma ⊢
      have hm : m < ns := by omega
      (refine goA ?_)
      refine Br.dec (fun h6 => ?_) (fun h6 => ?_)
      · (refine goA ?_)
        refine Call.mk ((down172 h.l h.n hb' m hm t).only _ rfl (by rintro d rfl; rfl)) ?_; rintro d os' ⟨rfl, rfl⟩
        (refine goA ?_)
        refine Call.mk (down71 h.l h.n m hm t _) ?_
        rintro d os' ⟨rfl, rfl⟩
        (refine goA ?_)
        rw [ebb]
        exact Ret.mk [.cell 6 93, .tmp 7] rfl ⟨_, _, ⟨rfl, downG h hk hm ht⟩, rfl⟩
      · (refine goA ?_)
        refine Call.mk ((up173 h.l h.n hb' m hm).only _ rfl (by rintro d rfl; rfl)) ?_; rintro d os' ⟨rfl, rfl⟩
        (refine goA ?_)
        refine Call.mk (up72 h.l h.n m hm _) ?_
        rintro d os' ⟨rfl, rfl⟩
        (refine goA ?_)
        exact Ret.mk [.cell 6 93, .tmp 7] rfl ⟨_, _, ⟨tupb rfl, up (upG h hm)⟩, rfl⟩
theorem does102o {nm nw ns k : Nat} {S : Lk} (h : LkG nm nw ns k S) (hk : k ≤ 999) (hb : nm ≤ 4 ∧ nw ≤ 4 ∧ ns ≤ 4) (kd T x : Int) (hT : I64 T) (hx : I64 x) (r : Objs) : Spec Try.prog 102 [lkP, lkV S, dlD kd T x] (lkO nm nw ns S r)
    (fun d os' => ∃ S', (d = .tup [lkV S', .bool true] ∧ LkG nm nw ns (k + 1) S') ∧ os' = lkO nm nw ns S' r) :=
  lk_frame (does102 h hk hb kd T x hT hx) rfl (by rintro d S' ⟨rfl, _⟩; rfl) r
end Go.Proofs.Ytaplihoeephbeaa.V
end
section
namespace Go.Proofs.Ytaplihoeephbeaa.V
open Go Go.Proofs Go.RowKit
theorem at_r (A r : Objs) {i : Nat} (j : Nat) (h : A.length ≤ i) : Objs.at (A ++ r) i j = r.at (i - A.length) j := by
  unfold Objs.at
  simp only [List.getD_eq_getElem?_getD]
  rw [List.getElem?_append_right h]
/-- A callee that keeps to the first objects (families, too) and leaves no other ones, among others behind them. -/
theorem Spec.behind {P : Program} {f : FuncId} {args : List D} {A : Objs} {post : D → Objs → Prop} (h : Spec P f args A post) (r : Objs) (hargs : D.ltL A.length args = true) (hA : ∀ i j, (A.at i j).lt A.length = true)
    (hp : ∀ d os', post d os' → os'.length = A.length) : Spec P f args (A ++ r) (fun d os' => ∃ os1, post d os1 ∧ os' = os1 ++ r) := by
  refine ⟨h.1, fun ρ I w vs sat hr => ?_⟩
  obtain ⟨ρ1, hρ1⟩ : ∃ ρ1 : Pl, ρ1 = fun i j => if i < A.length then ρ i j else none := ⟨_, rfl⟩
  have e1 : ∀ i j, i < A.length → ρ1 i j = ρ i j := fun i j hi => by rw [hρ1]; simp [hi]
  have e0 : ∀ i j, A.length ≤ i → ρ1 i j = none := fun i j hi => by rw [hρ1]; simp [Nat.not_lt.2 hi]
  have ea : ∀ i j, i < A.length → (A ++ r).at i j = A.at i j := fun i j hi => at_lt _ _ _ hi
  have sat1 : Sat ρ1 I A w := by
    refine ⟨sat.im, fun i j hne => ?_, fun i j i' j' p p' hne hne' hp hp' hpos hpos' he => ?_, ?_, fun i j hi => e0 i j hi⟩
    · have hi := lt_of_at hne
      obtain ⟨p, hp, hok⟩ := sat.ok i j (by rw [ea i j hi]; exact hne)
      rw [ea i j hi] at hok
      exact ⟨p, by rw [e1 i j hi]; exact hp, objOk_lt' e1 (hA i j) hok⟩
    · have hi := lt_of_at hne
      have hi' := lt_of_at hne'
      rw [e1 _ _ hi] at hp
      rw [e1 _ _ hi'] at hp'
      exact sat.inj i j i' j' p p' (by rw [ea i j hi]; exact hne) (by rw [ea i' j' hi']; exact hne') hp hp' hpos hpos' he
    · rintro b ⟨i, j, p, hne, hp, hpos, rfl⟩
      have hi := lt_of_at hne
      rw [e1 _ _ hi] at hp
      exact sat.apart _ ⟨i, j, p, by rw [ea i j hi]; exact hne, hp, hpos, rfl⟩
  have hfoot1 : ∀ b, foot ρ1 A b → foot ρ (A ++ r) b := by
    rintro b ⟨i, j, p, hne, hp, hpos, rfl⟩
    have hi := lt_of_at hne
    rw [e1 _ _ hi] at hp
    exact ⟨i, j, p, by rw [ea i j hi]; exact hne, hp, hpos, rfl⟩
  have hr1 : repL ρ1 I args vs := repL_lt e1 args vs hargs hr
  refine (h.2 ρ1 I w vs sat1 hr1).mono ?_
  rintro e w' ⟨v, d, os1, ρ2, I', rfl, hpost, sat2, fr2, hrv⟩
  have hlen := hp _ _ hpost
  have hle : ρ2.le ρ := by
    intro i j p hp
    rcases Nat.lt_or_ge i A.length with hi | hi
    · rw [fr2.same i j hi, e1 i j hi] at hp; exact hp
    · rw [sat2.dom i j (by omega)] at hp; cases hp
  have ea2 : ∀ i j, i < A.length → (os1 ++ r).at i j = os1.at i j := fun i j hi => at_lt _ _ _ (by omega)
  have er2 : ∀ i j, A.length ≤ i → (os1 ++ r).at i j = (A ++ r).at i j := fun i j hi => by rw [at_r _ _ _ (by omega), at_r _ _ _ hi, hlen]
  have e2 : ∀ i j, i < A.length → ρ i j = ρ2 i j := fun i j hi => by rw [fr2.same i j hi, e1 i j hi]
  have nofoot : ∀ i j p, A.length ≤ i → (A ++ r).at i j ≠ .gone → ρ i j = some p → 0 < p.2 → ¬ foot ρ1 A p.1 := by
    rintro i j p hi hne hp hpos ⟨i', j', p', hne', hp', hpos', he⟩
    have hi' := lt_of_at hne'
    rw [e1 _ _ hi'] at hp'
    have := sat.inj i' j' i j p' p (by rw [ea i' j' hi']; exact hne') hne hp' hp hpos' hpos he
    omega
  have cross : ∀ i j p i' j' p', i < A.length → os1.at i j ≠ .gone → ρ i j = some p → 0 < p.2 → A.length ≤ i' → (A ++ r).at i' j' ≠ .gone → ρ i' j' = some p' → 0 < p'.2 → p.1 = p'.1 → False := by
    intro i j p i' j' p' hi hne hp hpos hi' hne' hp' hpos' he
    rcases fr2.obnew p.1 ⟨i, j, p, hne, by rw [← e2 i j hi]; exact hp, hpos, rfl⟩ with h' | h'
    · exact nofoot i' j' p' hi' hne' hp' hpos' (he ▸ h')
    · have := sat.foot_lt ⟨i', j', p', hne', hp', hpos', rfl⟩
      omega
  have sat' : Sat ρ I' (os1 ++ r) w' := by
    refine ⟨sat2.im, fun i j hne => ?_, fun i j i' j' p p' hne hne' hp hp' hpos hpos' he => ?_, ?_, fun i j hi => ?_⟩
    · rcases Nat.lt_or_ge i A.length with hi | hi
      · rw [ea2 i j hi] at hne ⊢
        obtain ⟨p, hp, hok⟩ := sat2.ok i j hne
        exact ⟨p, hle _ _ _ hp, objOk_mono hle (Im.le_refl _) (fun _ => rfl) hok⟩
      · rw [er2 i j hi] at hne ⊢
        obtain ⟨p, hp, hok⟩ := sat.ok i j hne
        exact ⟨p, hp, objOk_mono (Pl.le_refl _) fr2.imle (fun hpos => fr2.kept p.1 (objOk_lt hne hpos hok) (nofoot i j p hi hne hp hpos)) hok⟩
    · rcases Nat.lt_or_ge i A.length with hi | hi <;> rcases Nat.lt_or_ge i' A.length with hi' | hi'
      · rw [ea2 i j hi] at hne
        rw [ea2 i' j' hi'] at hne'
        exact sat2.inj i j i' j' p p' hne hne' (by rw [← e2 i j hi]; exact hp) (by rw [← e2 i' j' hi']; exact hp') hpos hpos' he
      · rw [ea2 i j hi] at hne
        rw [er2 i' j' hi'] at hne'
        exact (cross i j p i' j' p' hi hne hp hpos hi' hne' hp' hpos' he).elim
      · rw [er2 i j hi] at hne
        rw [ea2 i' j' hi'] at hne'
        exact (cross i' j' p' i j p hi' hne' hp' hpos' hi hne hp hpos he.symm).elim
      · rw [er2 i j hi] at hne
        rw [er2 i' j' hi'] at hne'
        exact sat.inj i j i' j' p p' hne hne' hp hp' hpos hpos' he
    · rintro b ⟨i, j, p, hne, hp, hpos, rfl⟩
      rcases Nat.lt_or_ge i A.length with hi | hi
      · rw [ea2 i j hi] at hne
        exact sat2.apart _ ⟨i, j, p, hne, by rw [← e2 i j hi]; exact hp, hpos, rfl⟩
      · rw [er2 i j hi] at hne
        have hfa : foot ρ (A ++ r) p.1 := ⟨i, j, p, hne, hp, hpos, rfl⟩
        cases hb : I' p.1 with
        | none => rfl
        | some o =>
          exfalso
          rcases fr2.imnew p.1 (by rw [hb]; simp) with h' | h' | h'
          · exact h' (sat.apart _ hfa)
          · exact nofoot i j p hi hne hp hpos h'
          · have := sat.foot_lt hfa
            omega
    · exact sat.dom i j (by rw [List.length_append] at hi ⊢; omega)
  refine ⟨v, d, os1 ++ r, ρ, I', rfl, ⟨os1, hpost, rfl⟩, sat', ⟨fr2.wos, fr2.tape, fr2.output, fr2.size, fun b hb hf => fr2.kept b hb (fun h' => hf (hfoot1 b h')), by rw [List.length_append, List.length_append]; omega, fun _ _ _ => rfl, fr2.imle, fun b hb => ?_, fun b hb => ?_⟩, rep_mono hle (Im.le_refl _) d v hrv⟩
  · rcases fr2.imnew b hb with h' | h' | h'
    · exact .inl h'
    · exact .inr (.inl (hfoot1 b h'))
    · exact .inr (.inr h')
  · obtain ⟨i, j, p, hne, hp, hpos, rfl⟩ := hb
    rcases Nat.lt_or_ge i A.length with hi | hi
    · rw [ea2 i j hi] at hne
      rcases fr2.obnew p.1 ⟨i, j, p, hne, by rw [← e2 i j hi]; exact hp, hpos, rfl⟩ with h' | h'
      · exact .inl (hfoot1 _ h')
      · exact .inr h'
    · rw [er2 i j hi] at hne
      exact .inl ⟨i, j, p, hne, hp, hpos, rfl⟩
end Go.Proofs.Ytaplihoeephbeaa.V
end
section
namespace Go.Proofs.Ytaplihoeephbeaa.V
open Go Go.Proofs
set_option maxRecDepth 100000
set_option maxHeartbeats 40000000
@[reducible] def dlT (x : Int × Int × Int) : D := dlD x.1 x.2.1 x.2.2
@[reducible] def dls (l : List (Int × Int × Int)) : D := .lst 3 false (l.map dlT)
def dlok (l : List (Int × Int × Int)) : Prop := l.length * 24 ≤ 140737488351232 ∧ ∀ x ∈ l, I64 x.1 ∧ I64 x.2.1 ∧ I64 x.2.2
theorem free69o {nm nw ns : Nat} {S : Lk} (h : LkL nm nw ns S) (hb : nm ≤ 1000 ∧ nw ≤ 1000 ∧ ns ≤ 1000) (r : Objs) : Spec Try.prog 69 [lkD nm nw ns] (lkO nm nw ns S r) (fun d os' => d = .bool (freeS S) ∧ os' = lkO nm nw ns S r) := by
  have := (free69' h hb).behind r rfl (fun i j => by
    match i, j with
    | 0, 0 | 1, 0 | 2, 0 | 3, 0 | 4, 0 | 5, 0 => rfl
    | 0, j + 1 | 1, j + 1 | 2, j + 1 | 3, j + 1 | 4, j + 1 | 5, j + 1 => rfl
    | i + 6, j => rfl) (by rintro d os' ⟨rfl, rfl⟩; rfl)
  refine this.mono ?_
  rintro d os' ⟨os1, ⟨rfl, rfl⟩, rfl⟩
  exact ⟨rfl, rfl⟩
theorem law26 (x y : Int) (se : List Int) (l : List (Int × Int × Int)) (hx : I64 x) (hy : I64 y) (hse : lok se) (hl : dlok l) : Spec Try.prog 26 [.int .i64 x, .int .i64 y, ints se, dls l] [] (fun d _ => d = .bool true) := by
  have hlm : (l.map dlT).length = l.length := List.length_map ..
  have ebb : ∀ b : Bool, (b == b) = true := fun b => by cases b <;> rfl
  have hl1 := hl.1
  have hs1 := hse.1
  refine Spec.by Try.func26 rfl (by decide) (by decide +kernel) rfl ?_
  (refine goA ?_)
  refine Call.mk (begin101 x y se hx hy hse.2 (by omega)) ?_
  rintro d os' ⟨nm, nw, ns, S, ⟨hg, b1, b2, b3⟩, rfl, rfl⟩
  have hb' : nm ≤ 1000 ∧ nw ≤ 1000 ∧ ns ≤ 1000 := by omega
  (refine goA ?_)
  refine Loop.inv (A := Nat × Lk) (List.range 61) (fun a => [(3, dls l), (9, lkP), (10, .ptr 6 0 10 0 0), (12, .int .i64 (a.1 : Int))]) (fun a => lkO nm nw ns a.2 [one (.row 93 10 false [lkV a.2])]) (fun a => a.1 ≤ 60 ∧ a.1 ≤ l.length ∧ LkG nm nw ns a.1 a.2) (fun a => 60 - a.1) (0, S) ⟨Nat.zero_le _, Nat.zero_le _, hg⟩ ?_ ?_
  · exact Weak.start' rfl rfl tld
  rintro ⟨i, S⟩ ⟨hi, hil, hg⟩
  dsimp only at hi hil hg ⊢
  (refine goA ?_)
  refine Br.dec (fun h0 => ?_) (fun h0 => ?_)
  · (refine goA ?_)
    refine Br.dec (fun h6 => ?_) (fun h6 => ?_)
    · have hlt : i < l.length := by omega
      obtain ⟨v, hv⟩ : ∃ v, l[i]? = some v := ⟨_, List.getElem?_eq_getElem hlt⟩
      have hv64 := hl.2 v (List.mem_of_getElem? hv)
      (refine goA ?_)
      refine Opt.of (get_map hv) ?_
      (refine goA ?_)
      refine Call.mk (does102o hg (by omega) ⟨b1, b2, b3⟩ v.1 v.2.1 v.2.2 hv64.2.1 hv64.2.2 _) ?_
      rintro d os' ⟨S', ⟨rfl, hg'⟩, rfl⟩
      (refine goA ?_)
      refine Call.mk ((same103 hg'.l hb').read (.cons (lk_view hg'.l rfl rfl rfl rfl rfl) (.cons (.same _) .nil)) rfl (by rintro d rfl; exact ⟨rfl, rfl⟩)) ?_
      rintro d os' ⟨rfl, rfl⟩
      (refine goA ?_)
      refine Call.mk (free69o hg'.l hb' _) ?_
      rintro d os' ⟨rfl, rfl⟩
      (refine goA ?_)
      refine Call.mk ((free104 hg'.l hg'.n hb').only _ rfl (by rintro d rfl; rfl)) ?_; rintro d os' ⟨rfl, rfl⟩
      (refine goA ?_)
      refine ⟨_, _, _, ?_, ⟨(i + 1, S'), ?_, rfl, rfl, rfl⟩, ?_⟩
      · show 60 - (i + 1) < 60 - i; omega
      · exact ⟨by show i + 1 ≤ 60; omega, hlt, hg'⟩
      · refine Weak.backT 7 (by simp) (by first | rfl | kernel_rfl) (by kernel_rfl) (Nat.le_of_ble_eq_true rfl) tld (by kernel_rfl) (by kernel_rfl)
    · (refine goA ?_)
      refine Call.mk ((lives70).only _ rfl (by rintro d rfl; rfl)) ?_; rintro d os' ⟨rfl, rfl⟩
      (refine goA ?_)
      exact Ret.mk [.tmp _] rfl rfl
  · (refine goA ?_)
    refine Call.mk ((lives70).only _ rfl (by rintro d rfl; rfl)) ?_; rintro d os' ⟨rfl, rfl⟩
    (refine goA ?_)
    exact Ret.mk [.tmp _] rfl rfl
end Go.Proofs.Ytaplihoeephbeaa.V
end
section
namespace Go.Proofs.Ytaplihoeephbeaa.V
open Go Go.Proofs Go.RowKit Go.ChangeShapes Go.WideShapes Go.ChangeAt
set_option maxRecDepth 100000
theorem b153 : Try.prog.bytesOf 153 = 24 := by kernel_rfl
theorem opens_dl : Opens Try.prog 153 dlT (fun x => I64 x.1 ∧ I64 x.2.1 ∧ I64 x.2.2) := by
  refine opens_iso (opens_struct (P := Try.prog) (t := 153) Try.underlying153 (by kernel_rfl) (opensL_cons opens_i (opensL_cons opens_i (opensL_one opens_i)))) (fun x => (x.1, x.2.1, x.2.2)) (fun x => rfl) (fun x hx => hx)
theorem opens_dls : Opens Try.prog 147 dls dlok := by
  refine opens_iso (opens_slice Try.underlying147 opens_dl (sz := 3) (by kernel_rfl) (by decide)) (fun x => x) (fun x => rfl) (fun x hx => ?_)
  have h1 := hx.2.1
  rw [b153] at h1
  exact ⟨h1, hx.2.2⟩
end Go.Proofs.Ytaplihoeephbeaa.V
end
