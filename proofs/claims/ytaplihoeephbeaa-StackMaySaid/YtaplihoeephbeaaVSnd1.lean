/- VSnd1: a text of a symbolic executor that is proved sound, and contracts that are proved with it. -/
import Derived.Test.YtaplihoeephbeaaVOps
namespace Go.Proofs.Ytaplihoeephbeaa.V
open Go Go.RowKit

/-! ### Lists of cells -/
theorem flat_nil : flat [] = [] := rfl
theorem flat_cons (u : Value) (us : List Value) : flat (u :: us) = u.cells.toList ++ flat us := by simp [flat]
theorem flat_append (us vs : List Value) : flat (us ++ vs) = flat us ++ flat vs := by simp [flat]
theorem flat_length {sz : Nat} : ∀ {us : List Value}, (∀ u ∈ us, u.cells.size = sz) → (flat us).length = us.length * sz
  | [], _ => by simp [flat]
  | u :: us, h => by
    rw [flat_cons, List.length_append, flat_length (us := us) (fun x hx => h x (by simp [hx])), List.length_cons, Nat.add_mul]
    have := h u (by simp)
    simp [this]; omega
theorem flat_split {sz : Nat} {us : List Value} {e : Nat} {u : Value} (h : ∀ u ∈ us, u.cells.size = sz) (he : us[e]? = some u) :
    ∃ a b, flat us = a ++ (u.cells.toList ++ b) ∧ a.length = e * sz ∧ a = flat (us.take e) ∧ b = flat (us.drop (e + 1)) := by
  have hlt : e < us.length := (List.getElem?_eq_some_iff.1 he).1
  have hu : us[e] = u := (List.getElem?_eq_some_iff.1 he).2
  refine ⟨flat (us.take e), flat (us.drop (e + 1)), ?_, ?_, rfl, rfl⟩
  · conv => lhs; rw [← List.take_append_drop e us, flat_append, List.drop_eq_getElem_cons hlt, flat_cons, hu]
  · rw [flat_length (sz := sz) (fun x hx => h x (List.mem_of_mem_take hx)), List.length_take]
    congr 1; omega
theorem flat_set {sz : Nat} {us : List Value} {e : Nat} {u v : Value} (h : ∀ u ∈ us, u.cells.size = sz) (he : us[e]? = some u) (hv : v.cells.size = sz) :
    flat (us.set e v) = (flat us).take (e * sz) ++ (v.cells.toList ++ (flat us).drop (e * sz + sz)) := by
  obtain ⟨a, b, hab, hal, ha, hb⟩ := flat_split h he
  have hlt : e < us.length := (List.getElem?_eq_some_iff.1 he).1
  have hus : u.cells.toList.length = sz := by simpa using h u (List.mem_of_getElem? he)
  have e1 : (a ++ (u.cells.toList ++ b)).take (e * sz) = a := by rw [← hal]; exact List.take_left
  have e2 : (a ++ (u.cells.toList ++ b)).drop (e * sz + sz) = b := by
    rw [← List.append_assoc, show e * sz + sz = (a ++ u.cells.toList).length by rw [List.length_append, hal, hus]]; exact List.drop_left
  rw [hab, e1, e2, ha, hb, List.set_eq_take_append_cons_drop, if_pos hlt, flat_append, flat_cons]
theorem flat_drop {sz : Nat} {us : List Value} (n : Nat) (h : ∀ u ∈ us, u.cells.size = sz) (hn : n ≤ us.length) : (flat us).drop (n * sz) = flat (us.drop n) := by
  conv => lhs; rw [← List.take_append_drop n us, flat_append]
  have : (flat (us.take n)).length = n * sz := by
    rw [flat_length (sz := sz) (fun x hx => h x (List.mem_of_mem_take hx)), List.length_take]; congr 1; omega
  rw [List.drop_append_of_le_length (by omega), List.drop_of_length_le (by omega), List.nil_append]
theorem flat_take_prefix (n : Nat) (us : List Value) : flat (us.take n) <+: flat us := by
  conv => rhs; rw [← List.take_append_drop n us, flat_append]
  exact List.prefix_append _ _
theorem prefix_get {α : Type} {a b : List α} (h : a <+: b) {n : Nat} {x : α} (hn : a[n]? = some x) : b[n]? = some x := by
  obtain ⟨t, rfl⟩ := h
  rw [List.getElem?_append_left (List.getElem?_eq_some_iff.1 hn).1]; exact hn

/-- The cells of element e lie from e * sz on. -/
theorem elem_cells {sz : Nat} {us : List Value} {cs : List Value} {e k : Nat} {u c : Value} (h : ∀ u ∈ us, u.cells.size = sz) (hp : flat us <+: cs) (he : us[e]? = some u) (hc : u.cells.toList[k]? = some c) :
    cs[e * sz + k]? = some c := by
  obtain ⟨a, b, hab, hal, _, _⟩ := flat_split h he
  refine prefix_get hp ?_
  rw [hab, List.getElem?_append_right (by omega), hal]
  have : k < u.cells.toList.length := (List.getElem?_eq_some_iff.1 hc).1
  rw [show e * sz + k - e * sz = k by omega, List.getElem?_append_left this]; exact hc

/-! ### Loads -/
/-- From place o of block b on lie the cells cs. -/
def Lies (w : World) (b o : Nat) (cs : List Value) : Prop := w.rangeAt b o cs
theorem Lies.part {w : World} {b o : Nat} {cs : List Value} (h : Lies w b o cs) (off n : Nat) : Lies w b (o + off) ((cs.drop off).take n) := by
  intro j v hj
  have : cs[off + j]? = some v := by
    rw [List.getElem?_take] at hj
    split at hj
    · rwa [List.getElem?_drop] at hj
    · cases hj
  have := h (off + j) v this
  rwa [← Nat.add_assoc] at this
theorem Lies.of_block {w : World} {b : Nat} {arr : Array Value} {t : TypeId} {fz : Nat × Nat} (hb : w.heap[b]? = some (.cells arr t fz)) {o : Nat} {cs : List Value} (h : cs <+: arr.toList.drop o) : Lies w b o cs := by
  intro j v hj
  have := prefix_get h hj
  rw [List.getElem?_drop] at this
  simp [World.cell?, hb]
  simpa using this

theorem ldPart_run {P : Program} {τ : Tau} (hτ : TauOk P τ) {t : TypeId} {cs : List D} {off : Nat} {K : D → Prop} (h : ldPart τ t cs off K) {ρ : Pl} {I : Im} {w : World} {b o : Nat} {vs : List Value}
    (hr : repL ρ I cs vs) (hl : Lies w b o vs) : ∃ d v, K d ∧ rep ρ I d v ∧ (Instr.loadAt t (.pointer (some ⟨b, o + off, none⟩))).run P w = .ok v w := by
  unfold ldPart at h
  cases ht : τ t with
  | none => rw [ht] at h; exact h.elim
  | some ti =>
    rw [ht] at h
    dsimp only at h
    obtain ⟨i, d, hty⟩ := hτ t ti ht
    have agg : ∀ ds : List D, ds = (cs.drop off).take ti.size → ds.length = ti.size → ti.k.agg = some true → K (.agg ds) → ∃ d v, K d ∧ rep ρ I d v ∧ (Instr.loadAt t (.pointer (some ⟨b, o + off, none⟩))).run P w = .ok v w := by
      intro ds he hlen hagg hK
      subst he
      have hrp := repL_take ti.size (repL_drop off hr)
      have hlp := hl.part off ti.size
      have hvl := repL_length hrp
      have hrow : d.isRow = true := by
        have := hty.kind
        cases hk : ti.k <;> rw [hk] at this hagg <;> simp [TK.agg] at hagg <;> simp only [kindOk] at this
        · obtain ⟨F, rfl, _⟩ := this; rfl
        · subst this; rfl
      refine ⟨_, .agg ((vs.drop off).take ti.size).toArray, hK, ?_, run_loadAt_mid w b (o + off) t _ d hlp hty.und hrow ?_⟩
      · rw [rep]; exact ⟨_, rfl, by simpa using hrp⟩
      · rw [hty.info]; simp only [Option.map_some, hty.size]; rw [hvl, hlen]
    cases hk : ti.k.agg with
    | none => rw [hk] at h; exact h.elim
    | some r =>
      rw [hk] at h
      cases r with
      | true =>
        dsimp only at h
        cases hb : (Nat.beq off 0 && Nat.beq cs.length ti.size) with
        | true =>
          rw [hb] at h
          simp only [cond_true] at h
          rw [Bool.and_eq_true] at hb
          have h0 := Nat.eq_of_beq_eq_true hb.1
          have h1 := Nat.eq_of_beq_eq_true hb.2
          subst h0
          refine agg cs ?_ h1 hk h
          rw [List.drop_zero, List.take_of_length_le (by omega)]
        | false =>
          rw [hb] at h
          simp only [cond_false] at h
          cases hb2 : Nat.beq ((cs.drop off).take ti.size).length ti.size with
          | true => rw [hb2] at h; simp only [cond_true] at h; rw [forceL_eq] at h; exact agg _ rfl (Nat.eq_of_beq_eq_true hb2) hk h
          | false => rw [hb2] at h; exact h.elim
      | false =>
        obtain ⟨h1, h⟩ := h
        obtain ⟨x, hx, h⟩ := Opt.iff.1 h
        rw [D.force_eq] at h
        obtain ⟨v, hv, hrv⟩ := repL_get hr hx
        refine ⟨x, v, h, hrv, ?_⟩
        have hcell : w.cell? ⟨b, o + off, none⟩ = some v := hl off v hv
        have hagg : (isAgg t).run P w = .ok false w := by
          unfold isAgg
          rw [Sem.run_bind, run_underlying hty.und w]
          have := hty.kind
          cases hk' : ti.k <;> rw [hk'] at this hk <;> simp [TK.agg] at hk <;> simp only [kindOk] at this
          case int => subst this; rfl
          case bool => subst this; rfl
          case str => subst this; rfl
          case ptr => obtain ⟨e, rfl⟩ := this; rfl
          case slice => subst this; rfl
          case map => subst this; rfl
          case func => obtain ⟨a, b, c, rfl⟩ := this; rfl
        simp [Instr.loadAt, Instr.sureAddr, loadVar, hagg, hcell]
end Go.Proofs.Ytaplihoeephbeaa.V
