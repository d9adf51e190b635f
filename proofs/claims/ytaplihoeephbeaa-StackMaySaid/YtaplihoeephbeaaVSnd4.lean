/- VSnd4: a text of a symbolic executor that is proved sound, and contracts that are proved with it. -/
import Derived.Test.YtaplihoeephbeaaVSnd3
namespace Go.Proofs.Ytaplihoeephbeaa.V
open Go Go.RowKit
set_option linter.unusedVariables false

theorem flat_replicate_get {z : Value} {sz n k : Nat} (hz : z.cells.size = sz) (h0 : 0 < sz) (hk : k < n * sz) : (flat (List.replicate n z))[k]? = z.cells[k % sz]? := by
  have he : k / sz < n := (Nat.div_lt_iff_lt_mul h0).2 hk
  have hget : (List.replicate n z)[k / sz]? = some z := by simp [he]
  have hr : k % sz < z.cells.toList.length := by have := Nat.mod_lt k h0; simpa [hz] using this
  have := elem_cells (cs := flat (List.replicate n z)) (sz := sz) (fun u hu => by rw [List.eq_of_mem_replicate hu]; exact hz) (List.prefix_refl _) hget (k := k % sz) (c := z.cells.toList[k % sz]) (List.getElem?_eq_getElem hr)
  rw [show k / sz * sz + k % sz = k by rw [Nat.mul_comm]; exact Nat.div_add_mod k sz] at this
  rw [this]
  simp
theorem madeCells_flat {z : Value} {sz n : Nat} (hz : z.cells.size = sz) (h0 : 0 < sz) : (madeCells z.cells (n * sz)).toList = flat (List.replicate n z) := by
  have hl : (flat (List.replicate n z)).length = n * sz := by
    rw [flat_length (sz := sz) (fun u hu => by rw [List.eq_of_mem_replicate hu]; exact hz)]; simp
  apply List.ext_getElem?
  intro k
  by_cases hk : k < n * sz
  · rw [flat_replicate_get hz h0 hk]
    have hm : k % z.cells.size < z.cells.size := Nat.mod_lt _ (by omega)
    have hk2 : k < (madeCells z.cells (n * sz)).toList.length := by simpa [madeCells] using hk
    rw [List.getElem?_eq_getElem hk2]
    simp only [madeCells, Array.getElem_toList, Array.getElem_map, Array.getElem_range, hz]
    rw [hz] at hm
    rw [Array.getElem?_eq_getElem (by omega), getElem!_pos z.cells _ (by omega)]
  · have h1 : (flat (List.replicate n z))[k]? = none := List.getElem?_eq_none (by rw [hl]; omega)
    have h2 : (madeCells z.cells (n * sz)).toList[k]? = none := List.getElem?_eq_none (by simp [madeCells]; omega)
    rw [h1, h2]

section ops
variable {P : Program} {τ : Tau} {Γ : Ctx} {ρ : Pl} {I : Im} {os : Objs} {w : World} {get : Nat → D} {a : Act} {K : D → Objs → Prop}

theorem repL_replicate {d : D} {v : Value} (h : rep ρ I d v) : ∀ n, repL ρ I (List.replicate n d) (List.replicate n v)
  | 0 => repL_nil.2 rfl
  | n + 1 => repL_cons.2 ⟨v, _, rfl, h, repL_replicate h n⟩

theorem snd_makeSlice (hτ : TauOk P τ) (sat : Sat ρ I os w) (fr : Γ.Fr ρ I os w) {t : TypeId} {l c : D} {vl vc : Value} (hl : rep ρ I l vl) (hc : rep ρ I c vc)
    (h : vcMakeSlice τ t l c os K) : ∃ v' w', (Instr.makeSlice t vl vc).run P w = .ok v' w' ∧ Goes Γ ρ I K v' w' := by
  unfold vcMakeSlice at h
  split at h
  case h_2 => exact h.elim
  rename_i e s1 s2 s3 ht
  obtain ⟨i0, d0, hty⟩ := hτ t _ ht
  split at h
  case h_2 => exact h.elim
  rename_i te ka x kb y hte
  cases hb : (te.zero.isJunk || Nat.beq te.size 0) with
  | true => rw [hb] at h; exact h.elim
  | false =>
  rw [hb] at h
  simp only [cond_false] at h
  obtain ⟨⟨h0, h1⟩, h2, h3, h⟩ := h
  simp only [Bool.or_eq_false_iff] at hb
  obtain ⟨hjz, hsz⟩ := hb
  have hsz : 0 < te.size := Nat.pos_of_ne_zero (fun e => by rw [e] at hsz; simp at hsz)
  obtain ⟨i, d, htye⟩ := hτ e te hte
  rw [rep] at hl hc
  subst hl hc
  have hund : P.underlying t = some (.slice e) := by have := hty.und; have hk := hty.kind; simp only [kindOk] at hk; rw [hk] at this; exact this
  rcases htye.zero with e' | ⟨z, hz1, hz2, hz3⟩
  · rw [e'] at hjz; simp [D.isJunk] at hjz
  · have hrun := run_make (P := P) w t e i z hund htye.info hz1 ka kb x y h0 h1 (by rw [htye.bytes]; omega) (by omega)
    have hes : x.toNat ≤ y.toNat := by omega
    have hfl : flat (List.replicate x.toNat z) <+: (madeCells z.cells (y.toNat * i.size)).toList := by
      rw [htye.size, madeCells_flat hz3.1 hsz, show y.toNat = x.toNat + (y.toNat - x.toNat) by omega, ← List.replicate_append_replicate, flat_append]
      exact List.prefix_append _ _
    refine ⟨_, _, hrun, app_goes (pr := te.zero.pure) (w' := w.alloc (.cells (madeCells z.cells (y.toNat * i.size)) e)) sat fr (arr := madeCells z.cells (y.toNat * i.size)) (t := e) rfl rfl rfl rfl (sz := te.size) (C := y.toNat)
      (es := List.replicate x.toNat te.zero) (us := List.replicate x.toNat z) (by simp) hes (by simp only [maxLen]; omega)
      (by rw [size_madeCells, htye.size]) (by
        cases hp : te.zero.pure
        · exact repL_replicate (hz2 _ _) _
        · exact repL_replicate (hz2 _ _) _)
      (fun u hu => by rw [List.eq_of_mem_replicate hu]; exact hz3) hfl h⟩

theorem snd_fieldAddr (hτ : TauOk P τ) (sat : Sat ρ I os w) (fr : Γ.Fr ρ I os w) {t : TypeId} {x : D} {f : Nat} {v : Value} (hv : rep ρ I x v) (h : vcFieldAddr τ t x f (fun d => K d os)) :
    ∃ v', (Instr.fieldAt t v f).run P w = .ok v' w ∧ Goes Γ ρ I K v' w := by
  unfold vcFieldAddr at h
  split at h
  case h_2 => exact h.elim
  rename_i fs s1 s2 s3 ht
  obtain ⟨i0, d0, hty⟩ := hτ t _ ht
  split at h
  case h_2 => exact h.elim
  rename_i o ft hf
  split at h
  case h_2 => exact h.elim
  rename_i tf htf
  obtain ⟨i1, d1, htyf⟩ := hτ ft _ htf
  cases hb : Nat.beq tf.size 0 with
  | true => rw [hb] at h; exact h.elim
  | false =>
  rw [hb] at h
  simp only [cond_false] at h
  have hsz : tf.size ≠ 0 := fun e => by rw [e] at hb; simp at hb
  have hk := hty.kind
  simp only [kindOk] at hk
  obtain ⟨F, rfl, hF⟩ := hk
  obtain ⟨fld, hfld, he⟩ : ∃ fld, F[f]? = some fld ∧ (fld.offset, fld.type) = (o, ft) := by
    rw [hF, List.getElem?_map] at hf
    cases hq : F.toList[f]? with
    | none => rw [hq] at hf; simp at hf
    | some fld => rw [hq] at hf; exact ⟨fld, by simpa using hq, by simpa using hf⟩
  simp only [Prod.mk.injEq] at he
  have hplace : ∀ (b o' : Nat), (fieldPlace ⟨b, o', none⟩ fld).run P w = .ok ⟨b, o' + o, none⟩ w := by
    intro b o'
    simp [fieldPlace, sizeOf, typeInfo, he.2, htyf.info, htyf.size, hsz, Addr.add_mid, he.1]
  have hrun : ∀ (b o' : Nat), (Instr.fieldAt t (.pointer (some ⟨b, o', none⟩)) f).run P w = .ok (.pointer (some ⟨b, o' + o, none⟩)) w := by
    intro b o'
    simp [Instr.fieldAt, run_underlying hty.und, hfld, Instr.sureAddr, hplace]
  cases x <;> try exact h.elim
  case ptr i j sz e off =>
    rw [rep] at hv
    obtain ⟨p, hp, hpos, rfl⟩ := hv
    refine ⟨_, hrun _ _, Goes.same sat fr ?_ h⟩
    rw [rep]; exact ⟨p, hp, hpos, by simp [Nat.add_assoc]⟩
  case pel d off =>
    rw [rep] at hv
    obtain ⟨b, o', arr, t', fz, u, rfl, hb, hx, hp⟩ := hv
    refine ⟨_, hrun _ _, Goes.same sat fr ?_ h⟩
    rw [rep]; exact ⟨b, o', arr, t', fz, u, by simp [Nat.add_assoc], hb, hx, hp⟩

/-- A part of a value that is at hand. -/
theorem part_run (hτ : TauOk P τ) {t : TypeId} {cs : List D} {off : Nat} {K : D → Prop} (h : ldPart τ t cs off K) {vs : Array Value}
    (hr : repL ρ I cs vs.toList) : ∃ d v, K d ∧ rep ρ I d v ∧ (part t vs off).run P w = .ok v w := by
  unfold ldPart at h
  cases ht : τ t with
  | none => rw [ht] at h; exact h.elim
  | some ti =>
    rw [ht] at h
    dsimp only at h
    obtain ⟨i, d, hty⟩ := hτ t ti ht
    have agg : ∀ ds : List D, ds = (cs.drop off).take ti.size → ds.length = ti.size → ti.k.agg = some true → K (.agg ds) → ∃ d v, K d ∧ rep ρ I d v ∧ (part t vs off).run P w = .ok v w := by
      intro ds he hlen hagg hK
      subst he
      have hrp := repL_take ti.size (repL_drop off hr)
      have hia : (isAgg t).run P w = .ok true w := by
        unfold isAgg
        rw [Sem.run_bind, run_underlying hty.und w]
        have := hty.kind
        cases hk : ti.k <;> rw [hk] at this hagg <;> simp [TK.agg] at hagg <;> simp only [kindOk] at this
        · obtain ⟨F, rfl, _⟩ := this; rfl
        · subst this; rfl
      refine ⟨_, .agg (vs.extract off (off + ti.size)), hK, ?_, ?_⟩
      · rw [rep]; refine ⟨_, rfl, ?_⟩
        have e1 : (vs.extract off (off + ti.size)).toList = (vs.toList.drop off).take ti.size := by
          simp [List.extract_eq_take_drop, List.drop_take]
        rw [e1]; exact hrp
      · simp [part, hia, sizeOf, typeInfo, hty.info, hty.size]
    cases hk : ti.k.agg with
    | none => rw [hk] at h; exact h.elim
    | some r =>
      rw [hk] at h
      cases r with
      | true =>
        dsimp only at h
        cases hb : (Nat.beq off 0 && Nat.beq cs.length ti.size) with
        | true =>
          rw [hb] at h
          simp only [cond_true] at h
          rw [Bool.and_eq_true] at hb
          have h0 := Nat.eq_of_beq_eq_true hb.1
          have h1 := Nat.eq_of_beq_eq_true hb.2
          subst h0
          refine agg cs ?_ h1 hk h
          rw [List.drop_zero, List.take_of_length_le (by omega)]
        | false =>
          rw [hb] at h
          simp only [cond_false] at h
          cases hb2 : Nat.beq ((cs.drop off).take ti.size).length ti.size with
          | true => rw [hb2] at h; simp only [cond_true] at h; rw [forceL_eq] at h; exact agg _ rfl (Nat.eq_of_beq_eq_true hb2) hk h
          | false => rw [hb2] at h; exact h.elim
      | false =>
        obtain ⟨h1, h⟩ := h
        obtain ⟨x, hx, h⟩ := Opt.iff.1 h
        rw [D.force_eq] at h
        obtain ⟨v, hv, hrv⟩ := repL_get hr hx
        refine ⟨x, v, h, hrv, ?_⟩
        have hagg : (isAgg t).run P w = .ok false w := by
          unfold isAgg
          rw [Sem.run_bind, run_underlying hty.und w]
          have := hty.kind
          cases hk' : ti.k <;> rw [hk'] at this hk <;> simp [TK.agg] at hk <;> simp only [kindOk] at this
          case int => subst this; rfl
          case bool => subst this; rfl
          case str => subst this; rfl
          case ptr => obtain ⟨e, rfl⟩ := this; rfl
          case slice => subst this; rfl
          case map => subst this; rfl
          case func => obtain ⟨a, b, c, rfl⟩ := this; rfl
        have hv' : vs[off]? = some v := by simpa using hv
        simp [part, hagg, hv']
theorem snd_field (hτ : TauOk P τ) (sat : Sat ρ I os w) (fr : Γ.Fr ρ I os w) {t : TypeId} {x : D} {f : Nat} {v : Value} (hv : rep ρ I x v) (h : vcField τ t x f (fun d => K d os)) :
    ∃ v', (Instr.field t v f).run P w = .ok v' w ∧ Goes Γ ρ I K v' w := by
  unfold vcField at h
  split at h
  case h_2 => exact h.elim
  rename_i fs s1 s2 s3 ht
  obtain ⟨i0, d0, hty⟩ := hτ t _ ht
  split at h
  case h_2 => exact h.elim
  rename_i o ft cs hf
  have hk := hty.kind
  simp only [kindOk] at hk
  obtain ⟨F, rfl, hF⟩ := hk
  obtain ⟨fld, hfld, he⟩ : ∃ fld, F[f]? = some fld ∧ (fld.offset, fld.type) = (o, ft) := by
    rw [hF, List.getElem?_map] at hf
    cases hq : F.toList[f]? with
    | none => rw [hq] at hf; simp at hf
    | some fld => rw [hq] at hf; exact ⟨fld, by simpa using hq, by simpa using hf⟩
  simp only [Prod.mk.injEq] at he
  rw [rep] at hv
  obtain ⟨arr, rfl, hr⟩ := hv
  obtain ⟨d', v', hk', hrep, hrun⟩ := part_run (P := P) (w := w) hτ h hr
  refine ⟨v', ?_, Goes.same sat fr hrep hk'⟩
  simp [Instr.field, run_underlying hty.und, hfld, asAgg, he.1, he.2, hrun]

theorem prefix_drop {α : Type} {a b : List α} (h : a <+: b) {n : Nat} (hn : n ≤ a.length) : a.drop n <+: b.drop n := by
  obtain ⟨t, rfl⟩ := h
  rw [List.drop_append_of_le_length hn]
  exact List.prefix_append _ _
theorem prefix_of_drop {α : Type} {a b : List α} {o n : Nat} (h : a <+: b.drop o) (hn : n ≤ a.length) : a.drop n <+: b.drop (o + n) := by
  rw [← List.drop_drop]
  exact prefix_drop h hn

theorem snd_indexAddr (hτ : TauOk P τ) (sat : Sat ρ I os w) (fr : Γ.Fr ρ I os w) {t : TypeId} {x i : D} {v vi : Value} (hv : rep ρ I x v) (hi : rep ρ I i vi) (h : vcIndexAddr τ t x i (fun d => K d os)) :
    ∃ v', (Instr.indexAt t v vi).run P w = .ok v' w ∧ Goes Γ ρ I K v' w := by
  unfold vcIndexAddr at h
  split at h
  case h_2 => exact h.elim
  rename_i e s1 s2 s3 ht
  obtain ⟨i0, d0, hty⟩ := hτ t _ ht
  have hund : P.underlying t = some (.slice e) := by have := hty.und; have hk := hty.kind; simp only [kindOk] at hk; rw [hk] at this; exact this
  split at h
  case h_2 => exact h.elim
  rename_i te hte
  obtain ⟨i1, d1, htye⟩ := hτ e _ hte
  have hrun : ∀ (b o len c : Nat) (k : IntKind) (n : Int), 0 ≤ n → n < (len : Int) → (Instr.indexAt t (.slice (some ⟨b, o, none⟩) len c) (.int k n)).run P w = .ok (.pointer (some ⟨b, o + n.toNat * te.size, none⟩)) w := by
    intro b o len c k n h0 h1
    simp [Instr.indexAt, asIntOf, run_underlying hund, sizeOf, typeInfo, htye.info, htye.size, h0, h1, Addr.add_mid]
  split at h
  · rename_i sz full es k n
    split at h
    case isFalse => exact h.elim
    rename_i hsz; subst hsz
    obtain ⟨h0, h⟩ := h
    obtain ⟨d, hd, h⟩ := Opt.iff.1 h
    have hi : vi = .int k n := by rw [rep] at hi; exact hi
    rw [rep] at hv
    subst hi
    obtain ⟨A, c, us, rfl, h1, hm, h2, hr, hf, hA⟩ := hv
    have hlt : n.toNat < es.length := (List.getElem?_eq_some_iff.1 hd).1
    rcases hA with rfl | ⟨b, o, arr, t', fz, rfl, hI, hfl⟩
    · simp at hlt
    · refine ⟨_, hrun b o _ c k n h0 (by omega), Goes.same sat fr ?_ h⟩
      obtain ⟨u, hu, hdu⟩ := repL_get hr hd
      obtain ⟨a', b', hab, hal, _, _⟩ := flat_split (fun u hu => (hf u hu).1) hu
      rw [rep]
      refine ⟨b, o + n.toNat * te.size, arr, t', fz, u, by simp, hI, hdu, ?_⟩
      have hl : (flat us).length = us.length * te.size := flat_length (fun u hu => (hf u hu).1)
      have := prefix_of_drop (n := n.toNat * te.size) hfl (by rw [hab, List.length_append]; omega)
      rw [hab, ← hal, List.drop_left, hal] at this
      exact (List.prefix_append _ _).trans this
  · rename_i i' j sz lo len cap k n
    split at h
    case isFalse => exact h.elim
    rename_i hsz; subst hsz
    obtain ⟨⟨h0, h1⟩, h⟩ := h
    have hi : vi = .int k n := by rw [rep] at hi; exact hi
    rw [rep] at hv
    subst hi
    obtain ⟨p, A, c, hp, rfl, h2, h3, h4, h5, hA⟩ := hv
    have hpos : 0 < p.2 := by omega
    rw [hA hpos]
    refine ⟨_, hrun _ _ _ c k n h0 h1, Goes.same sat fr ?_ h⟩
    rw [rep]; exact ⟨p, hp, hpos, by simp [Nat.add_mul]⟩
  · exact h.elim
end ops
end Go.Proofs.Ytaplihoeephbeaa.V
