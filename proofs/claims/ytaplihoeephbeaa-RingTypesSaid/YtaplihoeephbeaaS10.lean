/- S10: a text of a symbolic executor that is proved sound, and contracts that are proved with it. -/
import Derived.Test.YtaplihoeephbeaaS9
import Derived.Test.YtaplihoeephbeaaVC
set_option linter.unusedVariables false
set_option linter.unusedSimpArgs false
namespace Go.Proofs.Ytaplihoeephbeaa.V
open Go Go.Proofs
set_option maxRecDepth 100000
set_option maxHeartbeats 4000000
def I64 (n : Int) : Prop := -9223372036854775808 ≤ n ∧ n ≤ 9223372036854775807
/-- The first four numbers, each made from 0 to one. -/
def small (to : Int) (l : List Int) : Prop := l.length ≤ 4 ∧ ∀ v ∈ l, 0 ≤ v ∧ v ≤ to
theorem map_snoc (l : List Int) (v : Int) : l.map (D.int .i64) ++ [D.int .i64 v] = (l ++ [v]).map (D.int .i64) := by simp
theorem things108 (xs : List Int) (to : Int) (hx : ∀ v ∈ xs, I64 v) (hl : xs.length ≤ 9223372036854775806) (ht : -1 ≤ to ∧ to ≤ 1000) : Spec Try.prog 108 [ints xs, .int .i64 to] [] (fun d os' => (∃ l, small to l ∧ d = ints l) ∧ os' = []) := by
  refine Spec.frz (post' := fun d => ∃ l, small to l ∧ d = ints l) ?_
  refine Spec.by Try.func108 rfl (by decide) (by decide +kernel) rfl ?_
  (refine goA ?_)
  refine Loop.inv (A := Nat × List Int) [] (fun a => [(6, .int .i64 (a.1 : Int)), (5, .sl 0 0 1 0 a.2.length none)]) (fun a => [rowI a.2]) (fun a => a.1 ≤ xs.length ∧ a.1 ≤ 4 ∧ a.2.length = a.1 ∧ ∀ v ∈ a.2, 0 ≤ v ∧ v ≤ to) (fun a => 4 - a.1) (0, []) ⟨Nat.zero_le _, by omega, rfl, by simp⟩ ?_ ?_
  · refine Weak.trans (Weak.nilrow 5 rfl 3 1 true) ?_
    exact Weak.start' rfl rfl ⟨rfl, rfl, trivial⟩
  rintro ⟨i, l⟩ ⟨hi, h4, hil, hl4⟩
  dsimp only at hi h4 hil hl4 ⊢
  (refine goA ?_)
  refine Br.dec (fun h => ?_) (fun h => ?_)
  · (refine goR ?_)
    refine Br.dec (fun h2 => ?_) (fun h2 => ?_)
    · (refine goR ?_)
      refine Br.dec (fun h3 => ?_) (fun h3 => ?_)
      · simp only [List.length_map] at h
        (refine goA ?_)
        refine Opt.of (get_map (List.getElem?_eq_getElem (l := xs) (i := i) (by omega))) ?_
        (refine goR ?_)
        refine Call.mk ((around33 xs[i] (to + 1) (hx _ (List.getElem_mem _)) (by omega)).only _ rfl (by rintro d rfl; rfl)) ?_
        rintro d os' ⟨rfl, rfl⟩
        have hr := around_lt xs[i] (to + 1) (by omega)
        (refine goR ?_)
        refine App.only false rfl rfl ?_
        (refine goA ?_)
        refine ⟨_, _, _, ?_, ⟨(i + 1, l ++ [around xs[i] (to + 1)]), ?_, rfl, rfl, rfl⟩, ?_⟩
        · show 4 - (i + 1) < 4 - i
          omega
        · refine ⟨by show i + 1 ≤ _; omega, by show i + 1 ≤ _; omega, by simp [hil], ?_⟩
          intro v hv
          rcases List.mem_append.1 hv with hv | hv
          · exact hl4 v hv
          · simp at hv; subst hv; omega
        refine Weak.trans (Weak.shift 1 0 (by decide) (by simp) (Nat.le_of_ble_eq_true rfl) (Nat.le_of_ble_eq_true rfl) (fun j => by cases j <;> rfl) rfl) ?_
        refine Weak.backT 1 (by simp) ?_ (by kernel_rfl) (Nat.le_of_ble_eq_true rfl) ?_ (by kernel_rfl) (by kernel_rfl)
        · exact congrArg (fun r => ([one (.row 3 1 true r)] : Objs)) (map_snoc _ _)
        · refine ⟨rfl, ?_, trivial⟩
          show D.sl 0 0 1 0 (l ++ [around xs[i] (to + 1)]).length none = D.sl 0 0 1 0 (l.length + 1) none
          simp
      · (refine goA ?_)
        refine Ret.mk [.tmp 4] rfl ?_; (refine goA ?_)
        exact ⟨ints l, View.slAll rfl rfl (by simp) (by simp) (ViewL.same _) (pureL_map (fun _ => rfl) _), rfl, l, ⟨by omega, hl4⟩, rfl⟩
    · (refine goA ?_)
      refine Ret.mk [.tmp 4] rfl ?_; (refine goA ?_)
      exact ⟨ints l, View.slAll rfl rfl (by simp) (by simp) (ViewL.same _) (pureL_map (fun _ => rfl) _), rfl, l, ⟨by omega, hl4⟩, rfl⟩
  · (refine goA ?_)
    refine Ret.mk [.tmp 4] rfl ?_; (refine goA ?_)
    exact ⟨ints l, View.slAll rfl rfl (by simp) (by simp) (ViewL.same _) (pureL_map (fun _ => rfl) _), rfl, l, ⟨by omega, hl4⟩, rfl⟩
def asksB (op : Int) : Bool := decide (op = 0) || (decide (5 ≤ op) && decide (op ≤ 9)) || decide (op = 11) || (decide (15 ≤ op) && decide (op ≤ 24))
theorem asks184 (op : Int) : Spec Try.prog 184 [.int .i64 op] [] (fun d os' => d = .bool (asksB op) ∧ os' = []) := by
  refine Spec.by Try.func184 rfl (by decide) (by decide +kernel) rfl ?_
  (refine goA ?_)
  repeat' (refine Br.dec (fun _ => ?_) (fun _ => ?_) <;> ((refine goA ?_)))
  all_goals (refine Ret.mk [.tmp _] rfl (And.intro (congrArg D.bool ?_) rfl); simp [asksB, *] <;> omega)
def mostF (g : Pg) (loc : Int) (cl : Nat) (op : Int) : Int :=
  if op = 0 then 1073741825 else if op = 5 ∨ op = 6 then loc else if op = 7 ∨ op = 8 then cl + 1 else if op = 9 ∨ op = 11 then g.fu.length else if op = 15 ∨ op = 16 then g.mu
  else if op = 17 ∨ op = 18 ∨ op = 19 then g.co.length else if op = 20 ∨ op = 21 then g.se.length else if op = 22 ∨ op = 23 then g.ch.length else if op = 24 then g.cs.length else 0
theorem most183 (g : Pg) (f : Fu) (op : Int) (hc : f.code.length ≤ 9223372036854775806) : Spec Try.prog 183 [pgD g, fuD f, .int .i64 op] [] (fun d os' => d = .int .i64 (mostF g f.loc f.code.length op) ∧ os' = []) := by
  have hc' : (f.code.map inD).length ≤ 9223372036854775806 := by rw [List.length_map]; exact hc
  refine Spec.by Try.func183 rfl (by decide) (by decide +kernel) rfl ?_
  (refine goA ?_)
  repeat' (refine Br.dec (fun _ => ?_) (fun _ => ?_) <;> ((refine goA ?_)))
  all_goals (refine Ret.trim 0 (by simp) rfl (Nat.le_of_ble_eq_true rfl) ?_; refine Ret.mk [.tmp _] rfl (And.intro (congrArg (D.int .i64) ?_) rfl); simp [mostF, *])
/-- An instruction that may be: nf functions, mu mutexes .. -/
def inOk (nf : Nat) (g : Pg) (loc : Int) (cl : Nat) (x : Int × Int) : Prop :=
  (0 ≤ x.1 ∧ x.1 ≤ 26) ∧ (-1073741824 ≤ x.2 ∧ x.2 ≤ 1073741824) ∧ (x.1 = 5 ∨ x.1 = 6 → 0 ≤ x.2 ∧ x.2 < loc) ∧ (x.1 = 7 ∨ x.1 = 8 → 0 ≤ x.2 ∧ x.2 ≤ cl) ∧ (x.1 = 9 ∨ x.1 = 11 → 0 ≤ x.2 ∧ x.2 < nf) ∧
  (x.1 = 15 ∨ x.1 = 16 → 0 ≤ x.2 ∧ x.2 < g.mu) ∧ (x.1 = 17 ∨ x.1 = 18 ∨ x.1 = 19 → 0 ≤ x.2 ∧ x.2 < g.co.length) ∧ (x.1 = 20 ∨ x.1 = 21 → 0 ≤ x.2 ∧ x.2 < g.se.length) ∧ (x.1 = 22 ∨ x.1 = 23 → 0 ≤ x.2 ∧ x.2 < g.ch.length) ∧ (x.1 = 24 → 0 ≤ x.2 ∧ x.2 < g.cs.length) ∧
  (x.1 = 1 ∨ x.1 = 2 ∨ x.1 = 3 ∨ x.1 = 4 ∨ x.1 = 10 ∨ x.1 = 12 ∨ x.1 = 13 ∨ x.1 = 14 ∨ x.1 = 25 ∨ x.1 = 26 → x.2 = 0)
/-- The sizes of a program that is made. -/
structure Szs (g : Pg) : Prop where
  fu : 1 ≤ g.fu.length ∧ g.fu.length ≤ 4
  mu : 0 ≤ g.mu ∧ g.mu ≤ 3
  co : g.co.length ≤ 4
  se : g.se.length ≤ 4
  ch : g.ch.length ≤ 4
  cs : g.cs.length ≤ 4
theorem mostF_le (g : Pg) (hg : Szs g) (loc : Int) (hl : 0 ≤ loc ∧ loc ≤ 3) (cl : Nat) (hc : cl ≤ 24) (op : Int) : 0 ≤ mostF g loc cl op ∧ mostF g loc cl op ≤ 1073741825 := by
  obtain ⟨h1, h2, h3, h4, h5, h6⟩ := hg
  unfold mostF
  repeat' split
  all_goals omega
theorem instr_plain (g : Pg) (loc : Int) (cl : Nat) (op : Int) (ho : 0 ≤ op ∧ op < 27) (h : asksB op = false) : inOk g.fu.length g loc cl (op, 0) := by
  simp [asksB] at h
  unfold inOk
  dsimp only
  refine ⟨by omega, by omega, ?_, ?_, ?_, ?_, ?_, ?_, ?_, ?_, ?_⟩ <;> omega
theorem instr_twelve (g : Pg) (loc : Int) (cl : Nat) : inOk g.fu.length g loc cl (12, 0) := by
  unfold inOk
  dsimp only
  refine ⟨by omega, by omega, ?_, ?_, ?_, ?_, ?_, ?_, ?_, ?_, ?_⟩ <;> omega
theorem instr_zero (g : Pg) (loc : Int) (cl : Nat) (a : Int) : inOk g.fu.length g loc cl (0, a.tmod 1000) := by
  have h := Int.tmod_lt_of_pos a (show (0 : Int) < 1000 by omega)
  have h' : -1000 < a.tmod 1000 := Int.lt_tmod_of_pos a (by omega)
  unfold inOk
  dsimp only
  refine ⟨by omega, by omega, ?_, ?_, ?_, ?_, ?_, ?_, ?_, ?_, ?_⟩ <;> omega
theorem instr_most (g : Pg) (hg : Szs g) (loc : Int) (hl : 0 ≤ loc ∧ loc ≤ 3) (cl : Nat) (hc : cl ≤ 24) (op a : Int) (ho : 0 ≤ op ∧ op < 27) (h0 : op ≠ 0) (hk : asksB op = true) (hm : mostF g loc cl op ≠ 0) : inOk g.fu.length g loc cl (op, around a (mostF g loc cl op)) := by
  have hle := mostF_le g hg loc hl cl hc op
  have hr := around_lt a (mostF g loc cl op) (by omega)
  generalize around a (mostF g loc cl op) = v at hr ⊢
  obtain ⟨h1, h2, h3, h4, h5, h6⟩ := hg
  simp [asksB] at hk
  unfold inOk
  dsimp only
  unfold mostF at hr hle hm
  refine ⟨by omega, by omega, ?_, ?_, ?_, ?_, ?_, ?_, ?_, ?_, ?_⟩ <;> intro ho' <;> (repeat' (split at hr)) <;> omega
theorem instr109 (g : Pg) (hg : Szs g) (f : Fu) (x : Int × Int) (hl : 0 ≤ f.loc ∧ f.loc ≤ 3) (hc : f.code.length ≤ 24) (hx : I64 x.1 ∧ I64 x.2) : Spec Try.prog 109 [pgD g, fuD f, inD x] [] (fun d os' => (∃ y, inOk g.fu.length g f.loc f.code.length y ∧ d = inD y) ∧ os' = []) := by
  refine Spec.frz (post' := fun d => ∃ y, inOk g.fu.length g f.loc f.code.length y ∧ d = inD y) ?_
  refine Spec.by Try.func109 rfl (by decide) (by decide +kernel) rfl ?_
  (refine goA ?_)
  refine Call.mk ((around33 x.1 27 hx.1 (by omega)).only _ rfl (by rintro d rfl; rfl)) ?_
  rintro d os' ⟨rfl, rfl⟩
  have ho := around_lt x.1 27 (by omega)
  generalize around x.1 27 = op at ho ⊢
  (refine goA ?_)
  refine Call.mk ((most183 g f op (by omega)).only _ rfl (by rintro d rfl; rfl)) ?_
  rintro d os' ⟨rfl, rfl⟩
  have hle := mostF_le g hg f.loc hl f.code.length hc op
  (refine goA ?_)
  refine Call.mk ((asks184 op).only _ rfl (by rintro d rfl; rfl)) ?_
  rintro d os' ⟨rfl, rfl⟩
  (refine goA ?_)
  refine Br.cs (fun h1_ => ?_) (fun h1_ => ?_) <;> have h1 := h1_ <;> simp at h1
  · (refine goA ?_)
    refine Ret.mk [.cell 6 139] rfl ?_; (refine goA ?_)
    exact ⟨inD (op, 0), View.same _, rfl, _, instr_plain g _ _ op ho h1, rfl⟩
  (refine goA ?_)
  refine Br.dec (fun h2 => ?_) (fun h2 => ?_)
  · (refine goA ?_)
    refine Ret.mk [.cell 6 139] rfl ?_; (refine goA ?_)
    exact ⟨inD (12, 0), View.same _, rfl, _, instr_twelve g _ _, rfl⟩
  (refine goA ?_)
  refine Br.dec (fun h3 => ?_) (fun h3 => ?_)
  · (refine goA ?_)
    refine Ret.mk [.cell 6 139] rfl ?_; (refine goA ?_)
    exact ⟨inD (0, x.2.tmod 1000), View.same _, rfl, _, instr_zero g _ _ _, rfl⟩
  (refine goA ?_)
  refine Call.mk ((around33 x.2 (mostF g f.loc f.code.length op) hx.2 (by omega)).only _ rfl (by rintro d rfl; rfl)) ?_
  rintro d os' ⟨rfl, rfl⟩
  (refine goA ?_)
  refine Ret.mk [.cell 6 139] rfl ?_; (refine goA ?_)
  exact ⟨inD (op, around x.2 (mostF g f.loc f.code.length op)), View.same _, rfl, _, instr_most g hg f.loc hl f.code.length hc op x.2 ho h3 h1 h2, rfl⟩
end Go.Proofs.Ytaplihoeephbeaa.V
