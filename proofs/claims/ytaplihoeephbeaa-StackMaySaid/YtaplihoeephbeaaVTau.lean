/- VTau: a text of a symbolic executor that is proved sound, and contracts that are proved with it. -/
import Derived.Test.YtaplihoeephbeaaVCode2
namespace Go.Proofs.Ytaplihoeephbeaa.V
open Go Go.RowKit
set_option linter.unusedVariables false

def kOf : TypeDesc → TK
  | .int k => .int k
  | .bool => .bool
  | .string => .str
  | .pointer _ => .ptr
  | .slice e => .slice e
  | .struct F => .struct (F.toList.map fun f => (f.offset, f.type))
  | .array n e => .arr n e
  | .map k e => .map k e
  | .func _ _ _ => .func
  | _ => .other
def zOf (size : Nat) : Option Value → D
  | some z => if z.cells.size = size ∧ z.cells.toList.all (·.oneCell') = true then dOf z else .junk
  | none => .junk
def tauP (P : Program) (t : TypeId) : Option TI :=
  match P.info? t, P.underlying t with
  | some i, some d => some { k := kOf d, size := i.size, bytes := i.bytes, zero := zOf i.size i.zero }
  | _, _ => none
theorem tauP_ok (P : Program) : TauOk P (tauP P) := by
  intro t ti h
  unfold tauP at h
  split at h
  case h_2 => simp at h
  rename_i i d hi hd
  simp at h
  subst h
  refine ⟨i, d, hi, hd, rfl, rfl, ?_, ?_⟩
  · cases d <;> simp [kOf, kindOk]
  · cases hz : i.zero with
    | none => exact .inl rfl
    | some z =>
      by_cases hc : z.cells.size = i.size ∧ z.cells.toList.all (·.oneCell') = true
      · right
        refine ⟨z, rfl, fun ρ I => ?_, hc.1, fun c hcm => List.all_eq_true.1 hc.2 c hcm⟩
        simp only [zOf, if_pos hc]
        exact rep_dOf ρ I z
      · left; simp only [zOf, if_neg hc]
def tabAt : List (Option TI) → Nat → Option TI
  | [], _ => none
  | x :: _, 0 => x
  | _ :: l, n + 1 => tabAt l n
theorem tab_ok {P : Program} {tab : List (Option TI)} (h : (List.range tab.length).map (tauP P) = tab) : TauOk P (tabAt tab) := by
  intro t ti ht
  have e : ∀ (l : List (Option TI)) (n : Nat), tabAt l n = (l[n]?).join := by
    intro l
    induction l with
    | nil => intro n; rfl
    | cons x l ih => intro n; cases n <;> simp [tabAt, ih]
  rw [e] at ht
  rcases Nat.lt_or_ge t tab.length with hlt | hge
  · rw [← h, List.getElem?_map, List.getElem?_range hlt] at ht
    exact tauP_ok P t ti (by simpa using ht)
  · rw [List.getElem?_eq_none hge] at ht; simp at ht

/-- A table in pieces of sixteen. -/
def tab2 (tab : List (List (Option TI))) (t : Nat) : Option TI :=
  match tabAt' tab (t / 16) with
  | some l => tabAt l (t % 16)
  | none => none
where tabAt' : List (List (Option TI)) → Nat → Option (List (Option TI))
  | [], _ => none
  | x :: _, 0 => some x
  | _ :: l, n + 1 => tabAt' l n
def pieces (P : Program) (n : Nat) : List (List (Option TI)) := (List.range n).map fun i => (List.range 16).map fun j => tauP P (16 * i + j)
theorem tab2_ok {P : Program} {tab : List (List (Option TI))} (h : pieces P tab.length = tab) : TauOk P (tab2 tab) := by
  intro t ti ht
  have e1 : ∀ (l : List (Option TI)) (n : Nat), tabAt l n = (l[n]?).join := by
    intro l
    induction l with
    | nil => intro n; rfl
    | cons x l ih => intro n; cases n <;> simp [tabAt, ih]
  have e2 : ∀ (l : List (List (Option TI))) (n : Nat), tab2.tabAt' l n = l[n]? := by
    intro l
    induction l with
    | nil => intro n; rfl
    | cons x l ih => intro n; cases n <;> simp [tab2.tabAt', ih]
  unfold tab2 at ht
  rw [e2] at ht
  rcases Nat.lt_or_ge (t / 16) tab.length with hlt | hge
  · rw [← h, pieces, List.getElem?_map, List.getElem?_range hlt] at ht
    simp only [Option.map_some] at ht
    rw [e1, List.getElem?_map, List.getElem?_range (Nat.mod_lt _ (by omega))] at ht
    simp only [Option.map_some, Option.join_some] at ht
    rw [Nat.div_add_mod] at ht
    exact tauP_ok P t ti ht
  · rw [List.getElem?_eq_none hge] at ht; simp at ht
end Go.Proofs.Ytaplihoeephbeaa.V
