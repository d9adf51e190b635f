/- R5: a text of a symbolic executor that is proved sound, and contracts that are proved with it. -/
import Derived.Test.YtaplihoeephbeaaR4
set_option linter.unusedVariables false
set_option linter.unusedSimpArgs false
namespace Go.Proofs.Ytaplihoeephbeaa.V
open Go Go.Proofs
set_option maxRecDepth 100000
set_option maxHeartbeats 40000000
/-- All roads lead to one place. -/
theorem cutG {A : Type} {n0 : Nat} {K2 : St → Prop} {G : Prop} (S : A → List (Nat × D)) (O : A → Objs) (Q : A → Prop) (hk : (∀ a, Q a → Pt n0 { m := S a, objs := O a } K2) → G) (key : ∀ a, Q a → Pt n0 { m := S a, objs := O a } K2) : G := hk key
theorem roomI_id {n : Int} (h0 : 0 ≤ n) (h1 : n ≤ 1024) : roomI n = n := by
  unfold roomI
  split <;> split <;> omega
theorem new46n (room : Int) : Spec Try.prog 46 [.int .i64 room, .nils] [] (fun d os' => (Rg (roomI room) 0 0 [] [] ∧ d = .ptr 0 0 4 0 0) ∧ os' = [rgC (roomI room) 0 0 0 1, rowI []]) := by
  have hR := roomI_r room
  have hg : Rg (roomI room) 0 0 [] [] := ⟨hR, rfl, Nat.le_refl _, hR.1, Int.le_refl _, .inl ⟨rfl, rfl⟩, fun i hi => by cases hi⟩
  refine Spec.by Try.func46 rfl (by decide) (by decide +kernel) rfl ?_
  (refine goR ?_)
  ((with_reducible refine Pt.go ?_); conv => whnf)
  (refine goR ?_)
  ((with_reducible refine Pt.go ?_); conv => whnf)
  (refine goR ?_)
  refine Pt.weak (Weak.trans (Weak.only [(1, .nils), (4, .nilp), (5, .ptr 0 0 4 0 0)] [one (.row 176 4 false [.agg [.int .i64 (roomI room), .int .i64 0, .nils, .int .i64 0]])] (by kernel_rfl) tld) (Weak.nilO 0 1 rfl (es := [.agg [.int .i64 (roomI room), .int .i64 0, .nils, .int .i64 0]]) rfl [.agg [.int .i64 (roomI room), .int .i64 0, .sl 1 0 1 0 0 none, .int .i64 0]] rfl (.cons (.agg (.cons (.same _ _) (.cons (.same _ _) (.cons (.nils _ _) (.same _ _))))) (.same _ _)) 3 1 true)) ?_
  (refine goA ?_)
  refine Loop.inv (A := Nat) (List.range 24) (fun x => [(4, .nilp), (5, .ptr 0 0 4 0 0), (13, .nils), (14, .int .i64 0), (15, .int .i64 0)]) (fun x => [rgC (roomI room) 0 0 0 1, rowI []]) (fun x => True) (fun x => x) 0 trivial ?_ ?_
  · exact Weak.start' rfl rfl tld
  rintro _ _
  (refine goA ?_)
  exact Ret.mk [.tmp 4] rfl ⟨⟨hg, rfl⟩, rfl⟩
theorem law6 (room : Int) (hroom : I64 room) (l : List Int) (hl : lok l) (pace : Int) (hpace : I64 pace) : Spec Try.prog 6 [.int .i64 room, ints l, .int .i64 pace] [] (fun d _ => d = .bool true) := by
  have hlm : (l.map (D.int .i64)).length = l.length := List.length_map ..
  refine Spec.by Try.func6 rfl (by decide) (by decide +kernel) rfl ?_
  (refine goA ?_)
  refine Call.mk ((around33 room 10 hroom (by decide)).only _ rfl (by rintro d rfl; rfl)) ?_; rintro d os' ⟨rfl, rfl⟩
  have h10 := around_lt room 10 (by omega)
  obtain ⟨rm, hrm⟩ : ∃ rm, around room 10 = rm := ⟨_, rfl⟩
  rw [hrm] at h10 ⊢
  (refine goA ?_)
  refine Call.mk ((around33 pace 5 hpace (by decide)).only _ rfl (by rintro d rfl; rfl)) ?_; rintro d os' ⟨rfl, rfl⟩
  have h5 := around_lt pace 5 (by omega)
  obtain ⟨pc, hpc⟩ : ∃ pc, around pace 5 = pc := ⟨_, rfl⟩
  rw [hpc] at h5 ⊢
  (refine goA ?_)
  refine Call.mk (new46n (1 + rm)) ?_
  rintro d os' ⟨⟨hg0, rfl⟩, rfl⟩
  rw [roomI_id (by omega) (by omega)] at hg0 ⊢
  (refine goR ?_)
  ((with_reducible refine Pt.go ?_); conv => whnf)
  (refine goR ?_)
  ((with_reducible refine Pt.go ?_); conv => whnf)
  (refine goR ?_)
  ((with_reducible refine Pt.go ?_); conv => whnf)
  (refine goR ?_)
  refine Pt.weak (Weak.trans (Weak.only [(8, .nils), (9, .nils), (0, .int .i64 (1 + rm)), (1, ints l), (2, .int .i64 (1 + pc)), (6, .bool false), (7, .ptr 0 0 4 0 0)] [rgC (1 + rm) 0 0 0 1, rowI []] (by kernel_rfl) tld) (Weak.trans (Weak.nilrow 8 rfl 3 1 true) (Weak.nilrow 9 rfl 3 1 true))) ?_
  (refine goA ?_)
  refine Loop.inv (A := Nat × (Int × Int × List Int × List Int) × List Int × List Int) (List.range 100) (fun x => [(0, .int .i64 (1 + rm)), (1, ints l), (2, .int .i64 (1 + pc)), (6, .bool false), (7, .ptr 0 0 4 0 0), (8, .sl 2 0 1 0 x.2.2.1.length none), (9, .sl 3 0 1 0 x.2.2.2.length none), (10, .int .i64 (x.1 : Int))]) (fun x => [rgC (1 + rm) x.2.1.1 x.2.1.2.1 x.2.1.2.2.1.length 1, rowI x.2.1.2.2.1, rowI x.2.2.1, rowI x.2.2.2]) (fun x => (x.1 ≤ l.length ∧ x.1 ≤ 60) ∧ Rg (1 + rm) x.2.1.1 x.2.1.2.1 x.2.1.2.2.1 x.2.1.2.2.2 ∧ x.2.2.1 = x.2.2.2 ++ x.2.1.2.2.2 ∧ x.2.2.1.length ≤ x.1) (fun x => l.length - x.1) (0, (0, 0, [], []), [], []) ⟨⟨Nat.zero_le _, Nat.zero_le _⟩, hg0, rfl, Nat.le_refl _⟩ ?_ ?_
  · exact Weak.start' rfl rfl tld
  rintro ⟨i, ⟨a, n, L, c⟩, il, ol⟩ ⟨⟨hi, hi6⟩, hg, hio, hil0⟩
  dsimp only at hi hi6 hil0 hg hio ⊢
  (refine goA ?_)
  refine Br.dec (fun h0 => ?_) (fun h0 => ?_)
  · (refine goA ?_)
    refine Br.dec (fun h1 => ?_) (fun h1 => ?_)
    · have hil : i < l.length := by omega
      have hget : l[i]? = some l[i] := List.getElem?_eq_getElem hil
      have hilm : (il.map (D.int .i64)).length = il.length := List.length_map ..
      (refine goA ?_)
      refine Opt.of (get_map hget) ?_
      apply cutG (A := (Int × Int × List Int × List Int) × List Int) (n0 := 0) (fun x => [(0, .int .i64 (1 + rm)), (1, ints l), (2, .int .i64 (1 + pc)), (6, .bool false), (7, .ptr 0 0 4 0 0), (8, .sl 2 0 1 0 x.2.length none), (9, .sl 3 0 1 0 ol.length none), (10, .int .i64 (i : Int))]) (fun x => [rgC (1 + rm) x.1.1 x.1.2.1 x.1.2.2.1.length 1, rowI x.1.2.2.1, rowI x.2, rowI ol]) (fun x => Rg (1 + rm) x.1.1 x.1.2.1 x.1.2.2.1 x.1.2.2.2 ∧ x.2 = ol ++ x.1.2.2.2 ∧ x.2.length ≤ i + 1 ∧ x.1.2.2.2 ≠ []) 
      · intro key
        (refine goA ?_)
        by_cases hf : (c.length : Int) = 1 + rm
        · have hpu : pushC (1 + rm) c l[i] = (6, c) := by unfold pushC; rw [if_pos hf]
          refine Call.mk (Spec.rgW (push47 hg l[i]) 0 1 _ rfl rfl (by decide) rfl (by rintro d a n L ⟨rfl, _⟩; rfl)) ?_
          rintro d os' ⟨a3, n3, L3, g, ⟨rfl, hg3⟩, rfl⟩
          rw [hpu] at hg3 ⊢
          cases g with
          | true =>
            (refine goR ?_)
            refine Pt.weak (Weak.only [(0, .int .i64 (1 + rm)), (1, ints l), (2, .int .i64 (1 + pc)), (6, .bool false), (7, .ptr 0 0 4 0 0), (8, .sl 2 0 1 0 il.length none), (9, .sl 3 0 1 0 ol.length none), (10, .int .i64 (i : Int))] [rgC (1 + rm) a3 n3 L3.length 4, one .gone, rowI il, rowI ol, rowI L3] (by kernel_rfl) tld) ?_
            refine Pt.weak (Weak.shift 4 1 (by decide) (by simp) (Nat.le_of_ble_eq_true rfl) (Nat.le_of_ble_eq_true rfl) (fun j => by cases j <;> rfl) rfl) ?_
            refine Pt.weak (Weak.trim 4 (Nat.zero_le _) rfl (Nat.le_of_ble_eq_true rfl)) ?_
            exact (key ((a3, n3, L3, c), il) ⟨hg3, hio, by show il.length ≤ i + 1; omega, by rintro rfl; simp at hf; omega⟩)
          | false =>
            (refine goR ?_)
            refine Pt.weak (Weak.only [(0, .int .i64 (1 + rm)), (1, ints l), (2, .int .i64 (1 + pc)), (6, .bool false), (7, .ptr 0 0 4 0 0), (8, .sl 2 0 1 0 il.length none), (9, .sl 3 0 1 0 ol.length none), (10, .int .i64 (i : Int))] [rgC (1 + rm) a3 n3 L3.length 1, rowI L3, rowI il, rowI ol] (by kernel_rfl) tld) ?_
            exact (key ((a3, n3, L3, c), il) ⟨hg3, hio, by show il.length ≤ i + 1; omega, by rintro rfl; simp at hf; omega⟩)
        · have hpu : pushC (1 + rm) c l[i] = (0, c ++ [l[i]]) := by unfold pushC; rw [if_neg hf]
          refine Call.mk (Spec.rgW (push47 hg l[i]) 0 1 _ rfl rfl (by decide) rfl (by rintro d a n L ⟨rfl, _⟩; rfl)) ?_
          rintro d os' ⟨a3, n3, L3, g, ⟨rfl, hg3⟩, rfl⟩
          rw [hpu] at hg3 ⊢
          cases g with
          | true =>
            (refine goR ?_)
            refine Pt.weak (Weak.only [(0, .int .i64 (1 + rm)), (1, ints l), (2, .int .i64 (1 + pc)), (6, .bool false), (7, .ptr 0 0 4 0 0), (8, .sl 2 0 1 0 il.length none), (9, .sl 3 0 1 0 ol.length none), (10, .int .i64 (i : Int))] [rgC (1 + rm) a3 n3 L3.length 4, one .gone, rowI il, rowI ol, rowI L3] (by kernel_rfl) tld) ?_
            refine Pt.weak (Weak.shift 4 1 (by decide) (by simp) (Nat.le_of_ble_eq_true rfl) (Nat.le_of_ble_eq_true rfl) (fun j => by cases j <;> rfl) rfl) ?_
            refine Pt.weak (Weak.trim 4 (Nat.zero_le _) rfl (Nat.le_of_ble_eq_true rfl)) ?_
            ((with_reducible refine Pt.go ?_); conv => whnf)
            (refine goR ?_)
            refine Opt.of (get_map hget) ?_
            (refine goR ?_)
            refine App.only false rfl rfl ?_
            (refine goR ?_)
            refine Pt.weak (Weak.only [(0, .int .i64 (1 + rm)), (1, ints l), (2, .int .i64 (1 + pc)), (6, .bool false), (7, .ptr 0 0 4 0 0), (8, .sl 4 0 1 0 (il.length + 1) none), (9, .sl 3 0 1 0 ol.length none), (10, .int .i64 (i : Int))] [rgC (1 + rm) a3 n3 L3.length 1, rowI L3, one .gone, rowI ol, one (.row 3 1 true (il.map (D.int .i64) ++ [D.int .i64 l[i]]))] (by kernel_rfl) tld) ?_
            rw [map_snoc, show il.length + 1 = (il ++ [l[i]]).length by rw [List.length_append, List.length_singleton]]
            refine Pt.weak (Weak.shift 4 2 (by decide) (by simp) (Nat.le_of_ble_eq_true rfl) (Nat.le_of_ble_eq_true rfl) (fun j => by cases j <;> rfl) rfl) ?_
            refine Pt.weak (Weak.trim 4 (Nat.zero_le _) rfl (Nat.le_of_ble_eq_true rfl)) ?_
            exact key ((a3, n3, L3, c ++ [l[i]]), il ++ [l[i]]) ⟨hg3, by rw [hio]; simp, by show (il ++ [l[i]]).length ≤ i + 1; rw [List.length_append, List.length_singleton]; omega, by simp⟩
          | false =>
            (refine goR ?_)
            ((with_reducible refine Pt.go ?_); conv => whnf)
            (refine goR ?_)
            refine Opt.of (get_map hget) ?_
            (refine goR ?_)
            refine App.only false rfl rfl ?_
            (refine goR ?_)
            refine Pt.weak (Weak.only [(0, .int .i64 (1 + rm)), (1, ints l), (2, .int .i64 (1 + pc)), (6, .bool false), (7, .ptr 0 0 4 0 0), (8, .sl 4 0 1 0 (il.length + 1) none), (9, .sl 3 0 1 0 ol.length none), (10, .int .i64 (i : Int))] [rgC (1 + rm) a3 n3 L3.length 1, rowI L3, one .gone, rowI ol, one (.row 3 1 true (il.map (D.int .i64) ++ [D.int .i64 l[i]]))] (by kernel_rfl) tld) ?_
            rw [map_snoc, show il.length + 1 = (il ++ [l[i]]).length by rw [List.length_append, List.length_singleton]]
            refine Pt.weak (Weak.shift 4 2 (by decide) (by simp) (Nat.le_of_ble_eq_true rfl) (Nat.le_of_ble_eq_true rfl) (fun j => by cases j <;> rfl) rfl) ?_
            refine Pt.weak (Weak.trim 4 (Nat.zero_le _) rfl (Nat.le_of_ble_eq_true rfl)) ?_
            exact key ((a3, n3, L3, c ++ [l[i]]), il ++ [l[i]]) ⟨hg3, by rw [hio]; simp, by show (il ++ [l[i]]).length ≤ i + 1; rw [List.length_append, List.length_singleton]; omega, by simp⟩
      · rintro ⟨⟨a3, n3, L3, c3⟩, il3⟩ ⟨hg3, hio3, hil3, hne⟩
        dsimp only at hg3 hio3 hil3 hne ⊢
        obtain ⟨v, c4, rfl⟩ := List.exists_cons_of_ne_nil hne
        have holm : (ol.map (D.int .i64)).length = ol.length := List.length_map ..
        have hol : ol.length ≤ 61 := by rw [hio3] at hil3; simp at hil3; omega
        (refine goA ?_)
        refine Br.dec (fun h2 => ?_) (fun h2 => ?_)
        · (refine goA ?_)
          refine Call.mk (Spec.rgP (pop48x hg3) 0 1 _ rfl rfl (by decide) rfl (by rintro d a n L ⟨rfl, _⟩; rfl)) ?_
          rintro d os' ⟨a5, n5, L5, ⟨rfl, hg5⟩, rfl⟩
          (refine goA ?_)
          refine App.only false rfl rfl ?_
          (refine goA ?_)
          refine ⟨_, _, _, ?_, ⟨(i + 1, (a5, n5, L5, c4), il3, ol ++ [v]), ?_, rfl, rfl, rfl⟩, ?_⟩
          · show l.length - (i + 1) < l.length - i; omega
          · exact ⟨⟨by show i + 1 ≤ _; omega, by show i + 1 ≤ _; omega⟩, hg5, by rw [hio3]; simp, hil3⟩
          · refine Weak.trans (Weak.shift 4 3 (by decide) (by simp) (Nat.le_of_ble_eq_true rfl) (Nat.le_of_ble_eq_true rfl) (fun j => by cases j <;> rfl) rfl) ?_
            refine Weak.trans (Weak.objs (os' := [rgC (1 + rm) a5 n5 L5.length 1, rowI L5, rowI il3, rowI (ol ++ [v]), one .gone]) ?_) ?_
            · exact congrArg (fun r => ([rgC (1 + rm) a5 n5 L5.length 1, rowI L5, rowI il3, one (.row 3 1 true r), one .gone] : Objs)) (map_snoc _ _)
            dsimp only
            rw [List.length_append]
            refine Weak.backT 4 (by simp) (by first | rfl | kernel_rfl) (by kernel_rfl) (Nat.le_of_ble_eq_true rfl) tld (by kernel_rfl) (by kernel_rfl)
        · (refine goA ?_)
          refine ⟨_, _, _, ?_, ⟨(i + 1, (a3, n3, L3, v :: c4), il3, ol), ?_, rfl, rfl, rfl⟩, ?_⟩
          · show l.length - (i + 1) < l.length - i; omega
          · exact ⟨⟨by show i + 1 ≤ _; omega, by show i + 1 ≤ _; omega⟩, hg3, hio3, hil3⟩
          · refine Weak.backT 4 (by simp) (by first | rfl | kernel_rfl) (by kernel_rfl) (Nat.le_of_ble_eq_true rfl) tld (by kernel_rfl) (by kernel_rfl)
    · (refine goA ?_)
      refine Loop.inv (A := (Int × Int × List Int × List Int) × List Int) (List.range 100) (fun x => [(0, .int .i64 (1 + rm)), (6, .bool false), (7, .ptr 0 0 4 0 0), (8, .sl 2 0 1 0 il.length none), (9, .sl 3 0 1 0 x.2.length none)]) (fun x => [rgC (1 + rm) x.1.1 x.1.2.1 x.1.2.2.1.length 1, rowI x.1.2.2.1, rowI il, rowI x.2]) (fun x => Rg (1 + rm) x.1.1 x.1.2.1 x.1.2.2.1 x.1.2.2.2 ∧ il = x.2 ++ x.1.2.2.2) (fun x => x.1.2.2.2.length) ((a, n, L, c), ol) ⟨hg, hio⟩ ?_ ?_
      · exact Weak.start' rfl rfl tld
      rintro ⟨⟨a2, n2, L2, c2⟩, ol2⟩ ⟨hg2, hio2⟩
      dsimp only at hg2 hio2 ⊢
      have hnl := hg2.nl
      have hcl2 : c2.length ≤ 1024 := by have := hg2.cl; have := hg2.ll; have := hg2.rm; omega
      (refine goA ?_)
      refine Call.mk (Spec.rgR (len49 (1 + rm) a2 n2 L2) 0 1 _ rfl rfl (by decide) rfl (by rintro d rfl; rfl)) ?_
      rintro d os' ⟨rfl, rfl⟩
      (refine goA ?_)
      cases c2 with
      | nil =>
        have hn0 : ¬ 0 < n2 := by rw [hnl]; simp
        have hn00 : n2 = 0 := by rw [hnl]; rfl
        rw [List.append_nil] at hio2
        subst hio2
        have hrow : (il.map (D.int .i64)).length = il.length := List.length_map ..
        (refine goA ?_)
        refine Call.mk ((same50 il il (by omega)).read (.cons (View.slAll rfl rfl hrow (by simp) (ViewL.same _) (pureL_map (fun _ => rfl) _)) (.cons (View.slAll rfl rfl hrow (by simp) (ViewL.same _) (pureL_map (fun _ => rfl) _)) .nil)) rfl (by rintro d rfl; exact ⟨rfl, rfl⟩)) ?_
        rintro d os' ⟨rfl, rfl⟩
        have b1 : decide (il = il) = true := decide_eq_true rfl
        rw [b1]
        (refine goA ?_)
        refine Call.mk (Spec.rgR (len49 (1 + rm) a2 n2 L2) 0 1 _ rfl rfl (by decide) rfl (by rintro d rfl; rfl)) ?_
        rintro d os' ⟨rfl, rfl⟩
        (refine goA ?_)
        refine Call.mk (Spec.rgR (room51 (1 + rm) a2 n2 (by omega) (by omega) L2) 0 1 _ rfl rfl (by decide) rfl (by rintro d rfl; rfl)) ?_
        rintro d os' ⟨rfl, rfl⟩
        have b2 : 1 + rm - n2 = 1 + rm := by omega
        (refine goA ?_)
        refine Call.mk ((lives45).only _ rfl (by rintro d rfl; rfl)) ?_; rintro d os' ⟨rfl, rfl⟩
        (refine goA ?_)
        exact Ret.mk [.tmp _] rfl rfl
      | cons v c2 =>
        have hn0 : 0 < n2 := by rw [hnl, List.length_cons]; omega
        have hol : ol2.length < il.length := by rw [hio2]; simp
        have holi : (ol2.map (D.int .i64)).length = ol2.length := List.length_map ..
        have hil60 : il.length ≤ 60 := by omega
        (refine goA ?_)
        refine Call.mk (Spec.rgP (pop48x hg2) 0 1 _ rfl rfl (by decide) rfl (by rintro d a n L ⟨rfl, _⟩; rfl)) ?_
        rintro d os' ⟨a3, n3, L3, ⟨rfl, hg3⟩, rfl⟩
        (refine goA ?_)
        refine App.only false rfl rfl ?_
        (refine goA ?_)
        refine ⟨_, _, _, ?_, ⟨((a3, n3, L3, c2), ol2 ++ [v]), ?_, rfl, rfl, rfl⟩, ?_⟩
        · show c2.length < (v :: c2).length; simp
        · exact ⟨hg3, by rw [hio2]; simp⟩
        · refine Weak.trans (Weak.shift 4 3 (by decide) (by simp) (Nat.le_of_ble_eq_true rfl) (Nat.le_of_ble_eq_true rfl) (fun j => by cases j <;> rfl) rfl) ?_
          refine Weak.trans (Weak.objs (os' := [rgC (1 + rm) a3 n3 L3.length 1, rowI L3, rowI il, rowI (ol2 ++ [v]), one .gone]) ?_) ?_
          · exact congrArg (fun r => ([rgC (1 + rm) a3 n3 L3.length 1, rowI L3, rowI il, one (.row 3 1 true r), one .gone] : Objs)) (map_snoc _ _)
          dsimp only
          rw [List.length_append]
          refine Weak.backT 4 (by simp) (by first | rfl | kernel_rfl) (by kernel_rfl) (Nat.le_of_ble_eq_true rfl) tld (by kernel_rfl) (by kernel_rfl)
  · (refine goA ?_)
    refine Loop.inv (A := (Int × Int × List Int × List Int) × List Int) (List.range 100) (fun x => [(0, .int .i64 (1 + rm)), (6, .bool false), (7, .ptr 0 0 4 0 0), (8, .sl 2 0 1 0 il.length none), (9, .sl 3 0 1 0 x.2.length none)]) (fun x => [rgC (1 + rm) x.1.1 x.1.2.1 x.1.2.2.1.length 1, rowI x.1.2.2.1, rowI il, rowI x.2]) (fun x => Rg (1 + rm) x.1.1 x.1.2.1 x.1.2.2.1 x.1.2.2.2 ∧ il = x.2 ++ x.1.2.2.2) (fun x => x.1.2.2.2.length) ((a, n, L, c), ol) ⟨hg, hio⟩ ?_ ?_
    · exact Weak.start' rfl rfl tld
    rintro ⟨⟨a2, n2, L2, c2⟩, ol2⟩ ⟨hg2, hio2⟩
    dsimp only at hg2 hio2 ⊢
    have hnl := hg2.nl
    have hcl2 : c2.length ≤ 1024 := by have := hg2.cl; have := hg2.ll; have := hg2.rm; omega
    (refine goA ?_)
    refine Call.mk (Spec.rgR (len49 (1 + rm) a2 n2 L2) 0 1 _ rfl rfl (by decide) rfl (by rintro d rfl; rfl)) ?_
    rintro d os' ⟨rfl, rfl⟩
    (refine goA ?_)
    cases c2 with
    | nil =>
      have hn0 : ¬ 0 < n2 := by rw [hnl]; simp
      have hn00 : n2 = 0 := by rw [hnl]; rfl
      rw [List.append_nil] at hio2
      subst hio2
      have hrow : (il.map (D.int .i64)).length = il.length := List.length_map ..
      (refine goA ?_)
      refine Call.mk ((same50 il il (by omega)).read (.cons (View.slAll rfl rfl hrow (by simp) (ViewL.same _) (pureL_map (fun _ => rfl) _)) (.cons (View.slAll rfl rfl hrow (by simp) (ViewL.same _) (pureL_map (fun _ => rfl) _)) .nil)) rfl (by rintro d rfl; exact ⟨rfl, rfl⟩)) ?_
      rintro d os' ⟨rfl, rfl⟩
      have b1 : decide (il = il) = true := decide_eq_true rfl
      rw [b1]
      (refine goA ?_)
      refine Call.mk (Spec.rgR (len49 (1 + rm) a2 n2 L2) 0 1 _ rfl rfl (by decide) rfl (by rintro d rfl; rfl)) ?_
      rintro d os' ⟨rfl, rfl⟩
      (refine goA ?_)
      refine Call.mk (Spec.rgR (room51 (1 + rm) a2 n2 (by omega) (by omega) L2) 0 1 _ rfl rfl (by decide) rfl (by rintro d rfl; rfl)) ?_
      rintro d os' ⟨rfl, rfl⟩
      have b2 : 1 + rm - n2 = 1 + rm := by omega
      (refine goA ?_)
      refine Call.mk ((lives45).only _ rfl (by rintro d rfl; rfl)) ?_; rintro d os' ⟨rfl, rfl⟩
      (refine goA ?_)
      exact Ret.mk [.tmp _] rfl rfl
    | cons v c2 =>
      have hn0 : 0 < n2 := by rw [hnl, List.length_cons]; omega
      have hol : ol2.length < il.length := by rw [hio2]; simp
      have holi : (ol2.map (D.int .i64)).length = ol2.length := List.length_map ..
      have hil60 : il.length ≤ 60 := by omega
      (refine goA ?_)
      refine Call.mk (Spec.rgP (pop48x hg2) 0 1 _ rfl rfl (by decide) rfl (by rintro d a n L ⟨rfl, _⟩; rfl)) ?_
      rintro d os' ⟨a3, n3, L3, ⟨rfl, hg3⟩, rfl⟩
      (refine goA ?_)
      refine App.only false rfl rfl ?_
      (refine goA ?_)
      refine ⟨_, _, _, ?_, ⟨((a3, n3, L3, c2), ol2 ++ [v]), ?_, rfl, rfl, rfl⟩, ?_⟩
      · show c2.length < (v :: c2).length; simp
      · exact ⟨hg3, by rw [hio2]; simp⟩
      · refine Weak.trans (Weak.shift 4 3 (by decide) (by simp) (Nat.le_of_ble_eq_true rfl) (Nat.le_of_ble_eq_true rfl) (fun j => by cases j <;> rfl) rfl) ?_
        refine Weak.trans (Weak.objs (os' := [rgC (1 + rm) a3 n3 L3.length 1, rowI L3, rowI il, rowI (ol2 ++ [v]), one .gone]) ?_) ?_
        · exact congrArg (fun r => ([rgC (1 + rm) a3 n3 L3.length 1, rowI L3, rowI il, one (.row 3 1 true r), one .gone] : Objs)) (map_snoc _ _)
        dsimp only
        rw [List.length_append]
        refine Weak.backT 4 (by simp) (by first | rfl | kernel_rfl) (by kernel_rfl) (Nat.le_of_ble_eq_true rfl) tld (by kernel_rfl) (by kernel_rfl)
end Go.Proofs.Ytaplihoeephbeaa.V
