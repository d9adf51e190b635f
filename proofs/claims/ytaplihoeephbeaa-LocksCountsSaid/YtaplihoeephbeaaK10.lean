/- K10: a text of a symbolic executor that is proved sound, and contracts that are proved with it. -/
import Derived.Test.YtaplihoeephbeaaK8
set_option linter.unusedVariables false
set_option linter.unusedSimpArgs false
namespace Go.Proofs.Ytaplihoeephbeaa.V
open Go Go.Proofs
set_option maxRecDepth 100000
set_option maxHeartbeats 40000000
@[reducible] def bools (l : List Bool) : D := .lst 1 false (l.map D.bool)
def bok (l : List Bool) : Prop := l.length ≤ 140737488351232
def S14 (c : Int) (q : List Int) : Lk := ⟨[], [c], [], [], [q]⟩
theorem S14_ok (c : Int) (q : List Int) (h : q.length ≤ 1000) : LkL 0 0 1 (S14 c q) := lkL_of _ _ _ _ ⟨⟨rfl, rfl⟩, ⟨rfl, rfl⟩, rfl, by simp [S14, sumL]; exact h⟩
theorem S14_n (c : Int) (q : List Int) (h : 0 ≤ c ∧ c ≤ 1073741824) (hq : ∀ v ∈ q, 0 ≤ v) : LkN (S14 c q) := ⟨fun v hv => by simp [S14] at hv, fun v hv => by simp [S14] at hv; subst hv; exact h, fun L hL => by simp [S14] at hL, fun L hL => by simp [S14] at hL, fun L hL => by simp [S14] at hL; subst hL; exact hq⟩
theorem down14a (q : List Int) (t : Int) : downS (S14 0 q) 0 t = (S14 0 (q ++ [t]), false) := rfl
theorem down14b (c : Int) (hc : c ≠ 0) (q : List Int) (t : Int) : downS (S14 c q) 0 t = (S14 (c - 1) q, true) := by
  have e : (S14 c q).co.getD 0 0 = c := rfl
  unfold downS
  rw [e, if_neg hc]
  rfl
theorem up14a (c : Int) (hc : c < 1073741824) : upS (S14 c []) 0 = (S14 (c + 1) [], -1) := by
  have e : (S14 c []).co.getD 0 0 = c := rfl
  have e2 : qAt (S14 c []).dq 0 = [] := rfl
  unfold upS
  rw [e2]
  dsimp only
  rw [e, if_pos hc]
  rfl
theorem up14b (c t : Int) (q : List Int) : upS (S14 c (t :: q)) 0 = (S14 c q, t) := rfl
theorem law14 (x : Int) (hx : I64 x) (l : List Bool) (hl : bok l) : Spec Try.prog 14 [.int .i64 x, bools l] [] (fun d _ => d = .bool true) := by
  have hlm : (l.map D.bool).length = l.length := List.length_map ..
  have hl2 : l.length ≤ 140737488351232 := hl
  refine Spec.by Try.func14 rfl (by decide) (by decide +kernel) rfl ?_
  (refine goA ?_)
  refine Call.mk ((around33 x 11 hx (by omega)).only _ rfl (by rintro d rfl; rfl)) ?_; rintro d os' ⟨rfl, rfl⟩
  have hf := around_lt x 11 (by omega)
  obtain ⟨f, hfe⟩ : ∃ f, around x 11 = f := ⟨_, rfl⟩
  rw [hfe] at hf ⊢
  (refine goA ?_)
  refine App.only false rfl rfl ?_
  (refine goA ?_)
  refine Call.mk (new66 0 0 [f] (by omega) (by omega) (by simp)) ?_
  rintro d os' ⟨rfl, rfl⟩
  (refine goA ?_)
  refine Loop.inv (A := Nat × (Nat × Nat × Nat) × Int × List Int) (List.range 80) (fun a => [(0, .int .i64 f), (1, bools l), (5, lkP), (6, .int .i64 (a.2.1.1 : Int)), (7, .int .i64 (a.2.1.2.1 : Int)), (8, .int .i64 (a.2.1.2.2 : Int)), (9, .int .i64 (a.1 : Int))]) (fun a => lkO 0 0 1 (S14 a.2.2.1 a.2.2.2) [])
    (fun a => (a.1 ≤ l.length ∧ a.1 ≤ 60) ∧ (a.2.1.1 + a.2.2.2.length = a.2.1.2.1 ∧ (a.2.1.1 : Int) + a.2.2.1 = f + (a.2.1.2.2 : Int)) ∧ (0 ≤ a.2.2.1 ∧ (a.2.2.1 ≠ 0 → a.2.2.2 = [])) ∧ (a.2.1.2.1 ≤ a.1 ∧ a.2.1.2.2 ≤ a.1) ∧ ∀ v ∈ a.2.2.2, 0 ≤ v) (fun a => l.length - a.1) (0, (0, 0, 0), f, []) ⟨⟨Nat.zero_le _, Nat.zero_le _⟩, ⟨rfl, by show ((0 : Nat) : Int) + f = f + ((0 : Nat) : Int); omega⟩, ⟨hf.1, fun _ => rfl⟩, ⟨Nat.le_refl _, Nat.le_refl _⟩, fun v hv => by cases hv⟩ ?_ ?_
  · exact Weak.start' rfl rfl tld
  rintro ⟨i, ⟨th, dn, up⟩, c, q⟩ ⟨⟨hi, hi60⟩, ⟨hq1, hq2⟩, ⟨hc0, hcq⟩, ⟨hdn, hup⟩, hqv⟩
  dsimp only at hi hi60 hq1 hq2 hc0 hcq hdn hup hqv ⊢
  have hqm : (q.map (D.int .i64)).length = q.length := List.length_map ..
  have hok := S14_ok c q (by omega)
  have hnn := S14_n c q ⟨hc0, by omega⟩ hqv
  by_cases hlim : i < l.length ∧ i < 60
  · obtain ⟨hil, hi6⟩ := hlim
    obtain ⟨b, hb⟩ : ∃ b, l[i] = b := ⟨_, rfl⟩
    have hget : l[i]? = some b := by rw [← hb]; exact List.getElem?_eq_getElem hil
    cases b with
    | true =>
      by_cases hc : c = 0
      · subst hc
        have e := down14a q (dn : Int)
        have hqm2 : ((q ++ [(dn : Int)]).map (D.int .i64)).length = q.length + 1 := by rw [List.length_map, List.length_append, List.length_singleton]
        (refine goA ?_)
        refine Opt.of (get_map hget) ?_
        (refine goA ?_)
        refine Call.mk (down71 hok hnn 0 (by omega) (dn : Int) []) ?_
        rw [e]
        rintro d os' ⟨rfl, rfl⟩
        (refine goA ?_)
        refine ⟨_, _, _, ?_, ⟨(i + 1, (th, dn + 1, up), 0, q ++ [(dn : Int)]), ?_, rfl, rfl, rfl⟩, ?_⟩
        · show l.length - (i + 1) < l.length - i; omega
        · refine ⟨⟨by show i + 1 ≤ _; omega, by show i + 1 ≤ _; omega⟩, ⟨by show th + (q ++ [(dn : Int)]).length = dn + 1; rw [List.length_append, List.length_singleton]; omega, hq2⟩, ⟨hc0, fun h => absurd rfl h⟩, ⟨by show dn + 1 ≤ i + 1; omega, by show up ≤ i + 1; omega⟩, fun v hv => ?_⟩
          rcases List.mem_append.1 hv with hv | hv
          · exact hqv v hv
          · simp at hv; omega
        · refine Weak.backT 6 (by simp) (by first | rfl | kernel_rfl) (by kernel_rfl) (Nat.le_of_ble_eq_true rfl) tld (by kernel_rfl) (by kernel_rfl)
      · have e := down14b c hc q (dn : Int)
        (refine goA ?_)
        refine Opt.of (get_map hget) ?_
        (refine goA ?_)
        refine Call.mk (down71 hok hnn 0 (by omega) (dn : Int) []) ?_
        rw [e]
        rintro d os' ⟨rfl, rfl⟩
        have hq0 := hcq hc
        have hql : q.length = 0 := by rw [hq0]; rfl
        (refine goA ?_)
        refine ⟨_, _, _, ?_, ⟨(i + 1, (th + 1, dn + 1, up), c - 1, q), ?_, rfl, rfl, rfl⟩, ?_⟩
        · show l.length - (i + 1) < l.length - i; omega
        · exact ⟨⟨by show i + 1 ≤ _; omega, by show i + 1 ≤ _; omega⟩, ⟨by show th + 1 + q.length = dn + 1; omega, by show ((th + 1 : Nat) : Int) + (c - 1) = f + (up : Int); omega⟩, ⟨by show 0 ≤ c - 1; omega, fun _ => hq0⟩, ⟨by show dn + 1 ≤ i + 1; omega, by show up ≤ i + 1; omega⟩, hqv⟩
        · refine Weak.backT 6 (by simp) (by first | rfl | kernel_rfl) (by kernel_rfl) (Nat.le_of_ble_eq_true rfl) tld (by kernel_rfl) (by kernel_rfl)
    | false =>
      cases q with
      | nil =>
        have e := up14a c (by omega)
        (refine goA ?_)
        refine Opt.of (get_map hget) ?_
        (refine goA ?_)
        refine Call.mk (up72 hok hnn 0 (by omega) []) ?_
        rw [e]
        rintro d os' ⟨rfl, rfl⟩
        (refine goA ?_)
        refine ⟨_, _, _, ?_, ⟨(i + 1, (th, dn, up + 1), c + 1, []), ?_, rfl, rfl, rfl⟩, ?_⟩
        · show l.length - (i + 1) < l.length - i; omega
        · exact ⟨⟨by show i + 1 ≤ _; omega, by show i + 1 ≤ _; omega⟩, ⟨hq1, by show (th : Int) + (c + 1) = f + ((up + 1 : Nat) : Int); omega⟩, ⟨by show 0 ≤ c + 1; omega, fun _ => rfl⟩, ⟨by show dn ≤ i + 1; omega, by show up + 1 ≤ i + 1; omega⟩, hqv⟩
        · refine Weak.backT 6 (by simp) (by first | rfl | kernel_rfl) (by kernel_rfl) (Nat.le_of_ble_eq_true rfl) tld (by kernel_rfl) (by kernel_rfl)
      | cons t q =>
        have e := up14b c t q
        have ht := hqv t (by simp)
        have hc : c = 0 := by
          by_cases h : c = 0
          · exact h
          · exact absurd (hcq h) (by simp)
        rw [List.length_cons] at hq1
        have hqm3 : (q.map (D.int .i64)).length = q.length := List.length_map ..
        (refine goA ?_)
        refine Opt.of (get_map hget) ?_
        (refine goA ?_)
        refine Call.mk (up72 hok hnn 0 (by omega) []) ?_
        rw [e]
        rintro d os' ⟨rfl, rfl⟩
        (refine goA ?_)
        refine ⟨_, _, _, ?_, ⟨(i + 1, (th + 1, dn, up + 1), c, q), ?_, rfl, rfl, rfl⟩, ?_⟩
        · show l.length - (i + 1) < l.length - i; omega
        · exact ⟨⟨by show i + 1 ≤ _; omega, by show i + 1 ≤ _; omega⟩, ⟨by show th + 1 + q.length = dn; omega, by show ((th + 1 : Nat) : Int) + c = f + ((up + 1 : Nat) : Int); omega⟩, ⟨hc0, fun h => absurd hc h⟩, ⟨by show dn ≤ i + 1; omega, by show up + 1 ≤ i + 1; omega⟩, fun v hv => hqv v (by simp [hv])⟩
        · refine Weak.backT 6 (by simp) (by first | rfl | kernel_rfl) (by kernel_rfl) (Nat.le_of_ble_eq_true rfl) tld (by kernel_rfl) (by kernel_rfl)
  · by_cases h1 : (i : Int) < (l.length : Int)
    · have h2 : ¬ ((i : Int) < 60) := by omega
      (refine goA ?_)
      refine Call.mk ((lives70).only _ rfl (by rintro d rfl; rfl)) ?_; rintro d os' ⟨rfl, rfl⟩
      (refine goA ?_)
      exact Ret.mk [.tmp _] rfl rfl
    · (refine goA ?_)
      refine Call.mk ((lives70).only _ rfl (by rintro d rfl; rfl)) ?_; rintro d os' ⟨rfl, rfl⟩
      (refine goA ?_)
      exact Ret.mk [.tmp _] rfl rfl
end Go.Proofs.Ytaplihoeephbeaa.V
