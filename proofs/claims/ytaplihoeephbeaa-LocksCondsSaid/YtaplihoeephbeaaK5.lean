/- K5: a text of a symbolic executor that is proved sound, and contracts that are proved with it. -/
import Derived.Test.YtaplihoeephbeaaK4
set_option linter.unusedVariables false
set_option linter.unusedSimpArgs false
namespace Go.Proofs.Ytaplihoeephbeaa.V
open Go Go.Proofs
set_option maxRecDepth 100000
set_option maxHeartbeats 40000000
def downS (S : Lk) (s : Nat) (t : Int) : Lk × Bool := if S.co.getD s 0 = 0 then ({ S with dq := S.dq.set s (qAt S.dq s ++ [t]) }, false) else ({ S with co := S.co.set s (S.co.getD s 0 - 1) }, true)
def upS (S : Lk) (s : Nat) : Lk × Int := match qAt S.dq s with
  | [] => (if S.co.getD s 0 < 1073741824 then { S with co := S.co.set s (S.co.getD s 0 + 1) } else S, -1)
  | t :: q => ({ S with dq := S.dq.set s q }, t)
def waitS (S : Lk) (c m : Nat) (t : Int) : Lk × Int × Int := if S.ow.getD m 0 ≠ t then (S, -1, 10) else ({ handS S m with wq := S.wq.set c (qAt S.wq c ++ [t]) }, headQ (qAt S.lk m), 0)
theorem getD_mem {l : List Int} {e : Nat} (h : e < l.length) : l.getD e 0 ∈ l := by
  rw [List.getD_eq_getElem?_getD, List.getElem?_eq_getElem h]; exact List.getElem_mem h
theorem down71 {nm nw ns : Nat} {S : Lk} (h : LkL nm nw ns S) (hn : LkN S) (s : Nat) (hs : s < ns) (t : Int) (r : Objs) : Spec Try.prog 71 [lkP, .int .i64 s, .int .i64 t] (lkO nm nw ns S r) (fun d os' => d = .bool (downS S s t).2 ∧ os' = lkO nm nw ns (downS S s t).1 r) := by
  have h1 := h.co
  have h2 := h.dq
  have h1m : (S.co.map (D.int .i64)).length = ns := by rw [List.length_map]; exact h1
  have h2m : (S.dq.map ints).length = ns := by rw [List.length_map]; exact h2
  have hg := rowI_at S.co s (by omega)
  have hv := hn.co _ (getD_mem (l := S.co) (e := s) (by omega))
  have he : (S.co.map (D.int .i64)).set (0 + (s : Int).toNat) (D.int .i64 (S.co.getD s 0 - 1)) = (S.co.set s (S.co.getD s 0 - 1)).map (D.int .i64) := by rw [show 0 + (s : Int).toNat = s by omega, List.map_set]
  unfold downS
  by_cases hc : S.co.getD s 0 = 0
  · rw [if_pos hc]
    refine Spec.by Try.func71 rfl (by decide) (by decide +kernel) rfl ?_
    (refine goA ?_)
    refine Opt.of hg ?_
    (refine goA ?_)
    refine Call.mk (pushK _ 4 S.dq s (by omega) h.l3 t rfl (by omega)) ?_
    rintro d os' ⟨rfl, rfl⟩
    (refine goA ?_)
    exact Ret.mk [.tmp 6] rfl ⟨rfl, rfl⟩
  · rw [if_neg hc]
    refine Spec.by Try.func71 rfl (by decide) (by decide +kernel) rfl ?_
    (refine goA ?_)
    refine Opt.of hg ?_
    (refine goA ?_)
    refine Opt.of hg ?_
    (refine goA ?_)
    refine Opt.of hg ?_
    (refine goA ?_)
    refine Ret.mk [.tmp 6] rfl ⟨rfl, ?_⟩
    exact congrArg (fun x => rowI S.ow :: one (.row 3 1 true x) :: rowC S.lk :: rowC S.wq :: rowC S.dq :: lkC nm nw ns :: r) he
theorem up72 {nm nw ns : Nat} {S : Lk} (h : LkL nm nw ns S) (hn : LkN S) (s : Nat) (hs : s < ns) (r : Objs) : Spec Try.prog 72 [lkP, .int .i64 s] (lkO nm nw ns S r) (fun d os' => d = .int .i64 (upS S s).2 ∧ os' = lkO nm nw ns (upS S s).1 r) := by
  have h1 := h.co
  have h2 := h.dq
  have h1m : (S.co.map (D.int .i64)).length = ns := by rw [List.length_map]; exact h1
  have h2m : (S.dq.map ints).length = ns := by rw [List.length_map]; exact h2
  have hg := rowI_at S.co s (by omega)
  have hv := hn.co _ (getD_mem (l := S.co) (e := s) (by omega))
  have he : (S.co.map (D.int .i64)).set (0 + (s : Int).toNat) (D.int .i64 (S.co.getD s 0 + 1)) = (S.co.set s (S.co.getD s 0 + 1)).map (D.int .i64) := by rw [show 0 + (s : Int).toNat = s by omega, List.map_set]
  have hall := qAt_all hn.dq s
  unfold upS
  cases hq : qAt S.dq s with
  | nil =>
    have e2 : S.dq.set s ([] : List Int).tail = S.dq := by have := set_qAt S.dq s (by omega); rw [hq] at this; exact this
    dsimp only
    by_cases hc : S.co.getD s 0 < 1073741824
    · rw [if_pos hc]
      refine Spec.by Try.func72 rfl (by decide) (by decide +kernel) rfl ?_
      (refine goA ?_)
      refine Call.mk (popK _ 4 S.dq s (by omega) h.l3 rfl (by omega)) ?_
      rintro d os' ⟨rfl, rfl⟩
      rw [hq, e2]
      have hh : headQ [] = -1 := rfl
      rw [hh]
      (refine goA ?_)
      refine Opt.of hg ?_
      (refine goA ?_)
      refine Opt.of hg ?_
      (refine goA ?_)
      refine Opt.of hg ?_
      (refine goA ?_)
      refine Ret.mk [.tmp 4] rfl ⟨rfl, ?_⟩
      exact congrArg (fun x => rowI S.ow :: one (.row 3 1 true x) :: rowC S.lk :: rowC S.wq :: rowC S.dq :: lkC nm nw ns :: r) he
    · rw [if_neg hc]
      refine Spec.by Try.func72 rfl (by decide) (by decide +kernel) rfl ?_
      (refine goA ?_)
      refine Call.mk (popK _ 4 S.dq s (by omega) h.l3 rfl (by omega)) ?_
      rintro d os' ⟨rfl, rfl⟩
      rw [hq, e2]
      have hh : headQ [] = -1 := rfl
      rw [hh]
      (refine goA ?_)
      refine Opt.of hg ?_
      (refine goA ?_)
      exact Ret.mk [.tmp 4] rfl ⟨rfl, rfl⟩
  | cons t q =>
    rw [hq] at hall
    have ht0 := hall t (by simp)
    dsimp only
    refine Spec.by Try.func72 rfl (by decide) (by decide +kernel) rfl ?_
    (refine goA ?_)
    refine Call.mk (popK _ 4 S.dq s (by omega) h.l3 rfl (by omega)) ?_
    rintro d os' ⟨rfl, rfl⟩
    rw [hq]
    have ht : ¬ (headQ (t :: q) = -1) := by show ¬ (t = -1); omega
    (refine goA ?_)
    exact Ret.mk [.tmp 4] rfl ⟨rfl, rfl⟩
theorem wait89 {nm nw ns : Nat} {S : Lk} (h : LkL nm nw ns S) (c m : Nat) (hc : c < nw) (hm : m < nm) (t : Int) (r : Objs) : Spec Try.prog 89 [lkP, .int .i64 c, .int .i64 m, .int .i64 t] (lkO nm nw ns S r) (fun d os' => d = .tup [.int .i64 (waitS S c m t).2.1, .int .i64 (waitS S c m t).2.2] ∧ os' = lkO nm nw ns (waitS S c m t).1 r) := by
  have h1 := h.wq
  have h1m : (S.wq.map ints).length = nw := by rw [List.length_map]; exact h1
  unfold waitS
  by_cases hcc : S.ow.getD m 0 = t
  · have e : unlockS S m t = (handS S m, headQ (qAt S.lk m), 0) := by unfold unlockS; rw [if_neg (by omega)]
    rw [if_neg (by omega)]
    refine Spec.by Try.func89 rfl (by decide) (by decide +kernel) rfl ?_
    (refine goA ?_)
    refine Call.mk (unlock68 h m hm t r) ?_
    rw [e]
    rintro d os' ⟨rfl, rfl⟩
    (refine goA ?_)
    refine Call.mk (pushK _ 3 S.wq c (by omega) h.l2 t rfl (by omega)) ?_
    rintro d os' ⟨rfl, rfl⟩
    (refine goA ?_)
    exact Ret.mk [.tmp _, .tmp _] rfl ⟨rfl, rfl⟩
  · have e : unlockS S m t = (S, -1, 10) := by unfold unlockS; rw [if_pos hcc]
    rw [if_pos hcc]
    refine Spec.by Try.func89 rfl (by decide) (by decide +kernel) rfl ?_
    (refine goA ?_)
    refine Call.mk (unlock68 h m hm t r) ?_
    rw [e]
    rintro d os' ⟨rfl, rfl⟩
    (refine goA ?_)
    exact Ret.mk [.tmp _, .tmp _] rfl ⟨rfl, rfl⟩
/-- A contract over the locks' own objects, among others. -/
theorem lk_frame {f : FuncId} {args : List D} {nm nw ns : Nat} {S : Lk} {post : D → Lk → Prop} (h : Spec Try.prog f (lkP :: args) (lkO nm nw ns S []) (fun d os' => ∃ S', post d S' ∧ os' = lkO nm nw ns S' [])) (hargs : D.pureL args = true) (hp : ∀ d S', post d S' → d.pure = true) (r : Objs) :
    Spec Try.prog f (lkP :: args) (lkO nm nw ns S r) (fun d os' => ∃ S', post d S' ∧ os' = lkO nm nw ns S' r) := by
  have := h.frame (lkO nm nw ns S r) [(0, 0), (1, 0), (2, 0), (3, 0), (4, 0), (5, 0)] rfl (by decide) (fun k p hk => by
    match k, hk with
    | 0, hk => cases hk; exact ⟨by simp, rfl, rfl, fun j hj => one_pos _ hj⟩
    | 1, hk => cases hk; exact ⟨by simp, rfl, rfl, fun j hj => one_pos _ hj⟩
    | 2, hk => cases hk; exact ⟨by simp, rfl, rfl, fun j hj => one_pos _ hj⟩
    | 3, hk => cases hk; exact ⟨by simp, rfl, rfl, fun j hj => one_pos _ hj⟩
    | 4, hk => cases hk; exact ⟨by simp, rfl, rfl, fun j hj => one_pos _ hj⟩
    | 5, hk => cases hk; exact ⟨by simp, rfl, rfl, fun j hj => one_pos _ hj⟩
    | k + 6, hk => simp at hk) (by simp [D.sglL, D.sgl, sglL_pure _ _ hargs])
  have e1 : D.mapIdL (lead [(0, 0), (1, 0), (2, 0), (3, 0), (4, 0), (5, 0)] (lkO nm nw ns S r).length) (lkP :: args) = lkP :: args := by
    simp only [D.mapIdL, D.mapId, lead, mapIdL_pure _ _ hargs]
    rfl
  rw [e1] at this
  refine this.mono ?_
  rintro d os' ⟨d1, os1, ⟨S', hy, rfl⟩, rfl, rfl⟩
  refine ⟨S', by rw [mapId_pure _ _ (hp _ _ hy)]; exact hy, ?_⟩
  show lkO nm nw ns S' (r ++ []) = _
  rw [List.append_nil]
/-- All that wait are let go, one behind the other. -/
def bcast (c m : Nat) : Nat → Lk → List Int → Int → Lk × List Int × Int
  | 0, S, all, got => (S, all, got)
  | n + 1, S, all, got => match qAt S.wq c with
    | [] => (S, all, got)
    | t :: _ => bcast c m n (signalS S c m).1 (all ++ [t]) (if (signalS S c m).2.2 then t else got)
def broadS (S : Lk) (c m : Nat) : Lk × List Int × Int := bcast c m (qAt S.wq c).length S [] (-1)
theorem bcast_cons {c m n : Nat} {S : Lk} {all : List Int} {got t : Int} {q : List Int} (hq : qAt S.wq c = t :: q) : bcast c m (n + 1) S all got = bcast c m n (signalS S c m).1 (all ++ [t]) (if (signalS S c m).2.2 then t else got) := by
  show (match qAt S.wq c with
    | [] => (S, all, got)
    | t :: _ => bcast c m n (signalS S c m).1 (all ++ [t]) (if (signalS S c m).2.2 then t else got)) = _
  rw [hq]
theorem signal_wq {nm nw ns : Nat} {S : Lk} (h : LkL nm nw ns S) (hn : LkN S) {c m : Nat} (hc : c < nw) (hm : m < nm) {t : Int} {q : List Int} (hq : qAt S.wq c = t :: q) : qAt (signalS S c m).1.wq c = q ∧ (signalS S c m).2.1 = t := by
  obtain ⟨g1, g2, g3, g4⟩ := sigq_ok h hn hc hq
  have e : signalS S c m = ((lockS { S with wq := S.wq.set c q } m t).1, t, (lockS { S with wq := S.wq.set c q } m t).2) := by unfold signalS; rw [hq]
  rw [e]
  obtain ⟨_, k2, _⟩ := lock_tot g1 m hm t
  refine ⟨?_, rfl⟩
  show qAt (lockS { S with wq := S.wq.set c q } m t).1.wq c = q
  rw [k2]
  exact qAt_set S.wq c q (by have := h.wq; omega)
theorem broad91' {nm nw ns : Nat} {S : Lk} (h : LkL nm nw ns S) (hn : LkN S) (c m : Nat) (hc : c < nw) (hm : m < nm) : Spec Try.prog 91 [lkP, .int .i64 c, .int .i64 m] (lkO nm nw ns S []) (fun d os' => ∃ S', (d = .tup [ints (broadS S c m).2.1, .int .i64 (broadS S c m).2.2] ∧ S' = (broadS S c m).1) ∧ os' = lkO nm nw ns S' []) := by
  obtain ⟨R, hR⟩ : ∃ R, broadS S c m = R := ⟨_, rfl⟩
  rw [hR]
  refine Spec.by Try.func91 rfl (by decide) (by decide +kernel) rfl ?_
  (refine goR ?_)
  ((with_reducible refine Pt.go ?_); conv => whnf)
  (refine goR ?_)
  ((with_reducible refine Pt.go ?_); conv => whnf)
  (refine goR ?_)
  refine Pt.weak (Weak.trans (Weak.on [(8, .nils), (0, lkP), (1, .int .i64 c), (2, .int .i64 m)] (lkO nm nw ns S [])) (Weak.nilrow 8 rfl 3 1 true)) ?_
  (refine goA ?_)
  refine Loop.inv (A := Lk × List Int × Int) (List.range 29) (fun x => [(8, .sl 6 0 1 0 x.2.1.length none), (0, lkP), (1, .int .i64 c), (2, .int .i64 m), (9, .int .i64 x.2.2)]) (fun x => lkO nm nw ns x.1 [rowI x.2.1])
    (fun x => LkL nm nw ns x.1 ∧ LkN x.1 ∧ bcast c m (qAt x.1.wq c).length x.1 x.2.1 x.2.2 = R ∧ x.2.1.length + (qAt x.1.wq c).length ≤ 1000) (fun x => (qAt x.1.wq c).length) (S, [], -1) ⟨h, hn, hR, by have := h.l2 _ (qAt_mem (l := S.wq) (m := c) (by have := h.wq; omega)); show ([] : List Int).length + (qAt S.wq c).length ≤ 1000; rw [List.length_nil]; omega⟩ ?_ ?_
  · exact Weak.start' rfl rfl tld
  rintro ⟨S1, all, got⟩ ⟨hl1, hn1, hR1, hb1⟩
  dsimp only at hl1 hn1 hR1 hb1 ⊢
  have hallm : (all.map (D.int .i64)).length = all.length := List.length_map ..
  cases hq : qAt S1.wq c with
  | nil =>
    have e : signalS S1 c m = (S1, -1, false) := by unfold signalS; rw [hq]
    have hRe : R = (S1, all, got) := by rw [← hR1, hq]; rfl
    rw [hRe]
    (refine goA ?_)
    refine Call.mk (signal90 hl1 hn1 c m hc hm [rowI all]) ?_
    rw [e]
    rintro d os' ⟨rfl, rfl⟩
    (refine goA ?_)
    refine Ret.frz (fun i => Nat.beq i 6) [(6, ints all)] ⟨View.slAll rfl rfl hallm (by simp) (ViewL.same _) (pureL_map (fun _ => rfl) _), trivial⟩ ?_
    refine Ret.trim 6 (by simp) rfl (Nat.le_of_ble_eq_true rfl) ?_
    exact Ret.mk [.tmp 6, .tmp 7] rfl ⟨S1, ⟨rfl, rfl⟩, rfl⟩
  | cons t q =>
    obtain ⟨g1, g2⟩ := signal_ok hl1 hn1 hc hm
    obtain ⟨g3, g4⟩ := signal_wq hl1 hn1 hc hm hq
    obtain ⟨_, _, ht0, _⟩ := sigq_ok hl1 hn1 hc hq
    have hRe : bcast c m q.length (signalS S1 c m).1 (all ++ [t]) (if (signalS S1 c m).2.2 then t else got) = R := by rw [← bcast_cons hq, ← hR1, hq]; rfl
    rw [hq, List.length_cons] at hb1
    obtain ⟨S2, hS2⟩ : ∃ S2, (signalS S1 c m).1 = S2 := ⟨_, rfl⟩
    obtain ⟨b, hb⟩ : ∃ b, (signalS S1 c m).2.2 = b := ⟨_, rfl⟩
    rw [hS2] at g1 g2 g3 hRe
    rw [hb] at hRe
    cases b with
    | false =>
      (refine goA ?_)
      refine Call.mk (signal90 hl1 hn1 c m hc hm [rowI all]) ?_
      rw [hS2, g4, hb]
      rintro d os' ⟨rfl, rfl⟩
      (refine goA ?_)
      refine App.only false rfl rfl ?_
      (refine goA ?_)
      refine ⟨_, _, _, ?_, ⟨(S2, all ++ [t], got), ?_, rfl, rfl, rfl⟩, ?_⟩
      · show (qAt S2.wq c).length < _; rw [g3, List.length_cons]; omega
      · exact ⟨g1, g2, by show bcast c m (qAt S2.wq c).length S2 (all ++ [t]) got = R; rw [g3]; exact hRe, by show (all ++ [t]).length + (qAt S2.wq c).length ≤ 1000; rw [g3, List.length_append, List.length_singleton]; omega⟩
      · refine Weak.trans (Weak.on [(8, .sl 7 0 1 0 (all.length + 1) none), (0, lkP), (1, .int .i64 c), (2, .int .i64 m), (9, .int .i64 got)] (lkO nm nw ns S2 [one .gone, one (.row 3 1 true (all.map (D.int .i64) ++ [D.int .i64 t]))])) ?_
        rw [map_snoc, show all.length + 1 = (all ++ [t]).length by rw [List.length_append, List.length_singleton]]
        refine Weak.trans (Weak.shift 7 6 (by decide) (by simp) (Nat.le_of_ble_eq_true rfl) (Nat.le_of_ble_eq_true rfl) (fun j => by cases j <;> rfl) rfl) ?_
        refine Weak.backT 7 (by simp) (by first | rfl | kernel_rfl) (by kernel_rfl) (Nat.le_of_ble_eq_true rfl) tld (by kernel_rfl) (by kernel_rfl)
    | true =>
      (refine goA ?_)
      refine Call.mk (signal90 hl1 hn1 c m hc hm [rowI all]) ?_
      rw [hS2, g4, hb]
      rintro d os' ⟨rfl, rfl⟩
      (refine goA ?_)
      refine App.only false rfl rfl ?_
      (refine goA ?_)
      refine ⟨_, _, _, ?_, ⟨(S2, all ++ [t], t), ?_, rfl, rfl, rfl⟩, ?_⟩
      · show (qAt S2.wq c).length < _; rw [g3, List.length_cons]; omega
      · exact ⟨g1, g2, by show bcast c m (qAt S2.wq c).length S2 (all ++ [t]) t = R; rw [g3]; exact hRe, by show (all ++ [t]).length + (qAt S2.wq c).length ≤ 1000; rw [g3, List.length_append, List.length_singleton]; omega⟩
      · refine Weak.trans (Weak.on [(8, .sl 7 0 1 0 (all.length + 1) none), (0, lkP), (1, .int .i64 c), (2, .int .i64 m), (9, .int .i64 t)] (lkO nm nw ns S2 [one .gone, one (.row 3 1 true (all.map (D.int .i64) ++ [D.int .i64 t]))])) ?_
        rw [map_snoc, show all.length + 1 = (all ++ [t]).length by rw [List.length_append, List.length_singleton]]
        refine Weak.trans (Weak.shift 7 6 (by decide) (by simp) (Nat.le_of_ble_eq_true rfl) (Nat.le_of_ble_eq_true rfl) (fun j => by cases j <;> rfl) rfl) ?_
        refine Weak.backT 7 (by simp) (by first | rfl | kernel_rfl) (by kernel_rfl) (Nat.le_of_ble_eq_true rfl) tld (by kernel_rfl) (by kernel_rfl)
theorem broad91 {nm nw ns : Nat} {S : Lk} (h : LkL nm nw ns S) (hn : LkN S) (c m : Nat) (hc : c < nw) (hm : m < nm) (r : Objs) : Spec Try.prog 91 [lkP, .int .i64 c, .int .i64 m] (lkO nm nw ns S r) (fun d os' => d = .tup [ints (broadS S c m).2.1, .int .i64 (broadS S c m).2.2] ∧ os' = lkO nm nw ns (broadS S c m).1 r) := by
  refine (lk_frame (broad91' h hn c m hc hm) rfl (by rintro d S' ⟨rfl, _⟩; rfl) r).mono ?_
  rintro d os' ⟨S', ⟨rfl, rfl⟩, rfl⟩
  exact ⟨rfl, rfl⟩
end Go.Proofs.Ytaplihoeephbeaa.V
