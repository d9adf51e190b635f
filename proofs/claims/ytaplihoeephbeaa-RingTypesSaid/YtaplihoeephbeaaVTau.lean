/- VTau: a text of a symbolic executor that is proved sound, and contracts that are proved with it. -/
import Derived.Test.YtaplihoeephbeaaVB
set_option linter.unusedVariables false
set_option linter.unusedSimpArgs false
namespace Go.Proofs.Ytaplihoeephbeaa.V
open Go Go.RowKit

def kOf : TypeDesc → TK
  | .int k => .int k
  | .bool => .bool
  | .string => .str
  | .pointer _ => .ptr
  | .slice e => .slice e
  | .struct F => .struct (F.toList.map fun f => (f.offset, f.type))
  | .array n e => .arr n e
  | .map k e => .map k e
  | .func _ _ _ => .func
  | _ => .other
def zOf (size : Nat) : Option Value → D
  | some z => if z.cells.size = size ∧ z.cells.toList.all (·.oneCell') = true then dOf z else .junk
  | none => .junk
def tauP (P : Program) (t : TypeId) : Option TI :=
  match P.info? t, P.underlying t with
  | some i, some d => some { k := kOf d, size := i.size, bytes := i.bytes, zero := zOf i.size i.zero }
  | _, _ => none
theorem tauP_ok (P : Program) : TauOk P (tauP P) := by
  intro t ti h
  unfold tauP at h
  split at h
  case h_2 => simp at h
  rename_i i d hi hd
  simp at h
  subst h
  refine ⟨i, d, hi, hd, rfl, rfl, ?_, ?_, fun ks h => by cases h⟩
  · cases d <;> simp [kOf, kindOk]
  · cases hz : i.zero with
    | none => exact .inl rfl
    | some z =>
      by_cases hc : z.cells.size = i.size ∧ z.cells.toList.all (·.oneCell') = true
      · right
        refine ⟨z, rfl, fun ρ I => ?_, hc.1, fun c hcm => List.all_eq_true.1 hc.2 c hcm⟩
        simp only [zOf, if_pos hc]
        exact rep_dOf ρ I z
      · left; simp only [zOf, if_neg hc]
def tabAt : List (Option TI) → Nat → Option TI
  | [], _ => none
  | x :: _, 0 => x
  | _ :: l, n + 1 => tabAt l n
theorem tab_ok {P : Program} {tab : List (Option TI)} (h : (List.range tab.length).map (tauP P) = tab) : TauOk P (tabAt tab) := by
  intro t ti ht
  have e : ∀ (l : List (Option TI)) (n : Nat), tabAt l n = (l[n]?).join := by
    intro l
    induction l with
    | nil => intro n; rfl
    | cons x l ih => intro n; cases n <;> simp [tabAt, ih]
  rw [e] at ht
  rcases Nat.lt_or_ge t tab.length with hlt | hge
  · rw [← h, List.getElem?_map, List.getElem?_range hlt] at ht
    exact tauP_ok P t ti (by simpa using ht)
  · rw [List.getElem?_eq_none hge] at ht; simp at ht

/-- A table in pieces of sixteen. -/
def tab2 (tab : List (List (Option TI))) (t : Nat) : Option TI :=
  match tabAt' tab (t / 16) with
  | some l => tabAt l (t % 16)
  | none => none
where tabAt' : List (List (Option TI)) → Nat → Option (List (Option TI))
  | [], _ => none
  | x :: _, 0 => some x
  | _ :: l, n + 1 => tabAt' l n
def pieces (P : Program) (n : Nat) : List (List (Option TI)) := (List.range n).map fun i => (List.range 16).map fun j => tauP P (16 * i + j)
theorem tab2_ok {P : Program} {tab : List (List (Option TI))} (h : pieces P tab.length = tab) : TauOk P (tab2 tab) := by
  intro t ti ht
  have e1 : ∀ (l : List (Option TI)) (n : Nat), tabAt l n = (l[n]?).join := by
    intro l
    induction l with
    | nil => intro n; rfl
    | cons x l ih => intro n; cases n <;> simp [tabAt, ih]
  have e2 : ∀ (l : List (List (Option TI))) (n : Nat), tab2.tabAt' l n = l[n]? := by
    intro l
    induction l with
    | nil => intro n; rfl
    | cons x l ih => intro n; cases n <;> simp [tab2.tabAt', ih]
  unfold tab2 at ht
  rw [e2] at ht
  rcases Nat.lt_or_ge (t / 16) tab.length with hlt | hge
  · rw [← h, pieces, List.getElem?_map, List.getElem?_range hlt] at ht
    simp only [Option.map_some] at ht
    rw [e1, List.getElem?_map, List.getElem?_range (Nat.mod_lt _ (by omega))] at ht
    simp only [Option.map_some, Option.join_some] at ht
    rw [Nat.div_add_mod] at ht
    exact tauP_ok P t ti ht
  · rw [List.getElem?_eq_none hge] at ht; simp at ht
/-! ### Structs of whole numbers -/
def cmpL (P : Program) : List Field → List IntKind → Nat → Bool
  | [], [], _ => true
  | f :: fs, k :: ks, i => f.name != "_" && f.offset == i && (match P.underlying f.type with | some (.int k') => k' == k | _ => false) && cmpL P fs ks (i + 1)
  | _, _, _ => false
def cmpB (P : Program) (t : TypeId) (ks : List IntKind) : Bool :=
  match P.underlying t with
  | some (.struct F) => !P.stoodInHeld t && cmpL P F.toList ks 0
  | _ => false
theorem cmpL_ok {P : Program} : ∀ (fs : List Field) (ks : List IntKind) (o : Nat), cmpL P fs ks o = true → fs.length = ks.length ∧ ∀ (i : Nat) (f : Field), fs[i]? = some f → f.name ≠ "_" ∧ f.offset = o + i ∧ ∃ k, ks[i]? = some k ∧ P.underlying f.type = some (.int k)
  | [], [], o, _ => ⟨rfl, fun i f h => by simp at h⟩
  | [], _ :: _, o, h => by simp [cmpL] at h
  | _ :: _, [], o, h => by simp [cmpL] at h
  | f :: fs, k :: ks, o, h => by
    simp only [cmpL, Bool.and_eq_true] at h
    obtain ⟨⟨⟨h1, h2⟩, h3⟩, h4⟩ := h
    obtain ⟨g1, g2⟩ := cmpL_ok fs ks (o + 1) h4
    refine ⟨by simp [g1], fun i g hg => ?_⟩
    cases i with
    | zero =>
      simp at hg; subst hg
      refine ⟨by simpa using h1, by simpa using h2, k, rfl, ?_⟩
      split at h3
      · rename_i k' hk'
        rw [hk']
        cases k <;> cases k' <;> first | rfl | exact absurd h3 (by decide)
      · cases h3
    | succ i =>
      obtain ⟨a1, a2, a3⟩ := g2 i g (by simpa using hg)
      exact ⟨a1, by omega, by simpa using a3⟩
theorem cmpB_ok {P : Program} {t : TypeId} {ks : List IntKind} (h : cmpB P t ks = true) : CmpOk P t ks := by
  unfold cmpB at h
  split at h
  · rename_i F hF
    rw [Bool.and_eq_true] at h
    obtain ⟨g1, g2⟩ := cmpL_ok _ _ 0 h.2
    exact ⟨F, hF, by simpa using h.1, g1, fun i f hf => by obtain ⟨a1, a2, a3⟩ := g2 i f hf; exact ⟨a1, by omega, a3⟩⟩
  · cases h
def assocC : List (Nat × List IntKind) → Nat → Option (List IntKind)
  | [], _ => none
  | (t, ks) :: r, i => bif Nat.beq t i then some ks else assocC r i
def addCmp (cs : List (Nat × List IntKind)) (τ : Tau) : Tau := fun t =>
  match τ t with
  | some ti => some { k := ti.k, size := ti.size, bytes := ti.bytes, zero := ti.zero, cmp := assocC cs t }
  | none => none
theorem addCmp_ok {P : Program} {cs : List (Nat × List IntKind)} {τ : Tau} (h : TauOk P τ) (hc : cs.all (fun p => cmpB P p.1 p.2) = true) : TauOk P (addCmp cs τ) := by
  have key : ∀ (cs : List (Nat × List IntKind)) t ks, cs.all (fun p => cmpB P p.1 p.2) = true → assocC cs t = some ks → CmpOk P t ks := by
    intro cs
    induction cs with
    | nil => intro t ks _ he; cases he
    | cons p cs ih =>
      intro t ks ha he
      simp only [List.all_cons, Bool.and_eq_true] at ha
      obtain ⟨u, us⟩ := p
      simp only [assocC] at he
      cases hb : Nat.beq u t with
      | true =>
        have := Nat.eq_of_beq_eq_true hb
        subst this
        rw [hb] at he
        simp at he; subst he
        exact cmpB_ok ha.1
      | false => rw [hb] at he; exact ih t ks ha.2 he
  intro t ti ht
  unfold addCmp at ht
  split at ht
  case h_2 => cases ht
  rename_i ti0 ht0
  cases ht
  obtain ⟨i, d, hty⟩ := h t ti0 ht0
  exact ⟨i, d, hty.info, hty.und, hty.size, hty.bytes, hty.kind, hty.zero, fun ks hk => key cs t ks hc hk⟩
end Go.Proofs.Ytaplihoeephbeaa.V
