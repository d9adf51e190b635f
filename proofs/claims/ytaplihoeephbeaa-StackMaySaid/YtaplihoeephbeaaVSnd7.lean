/- VSnd7: a text of a symbolic executor that is proved sound, and contracts that are proved with it. -/
import Derived.Test.YtaplihoeephbeaaVSnd6
namespace Go.Proofs.Ytaplihoeephbeaa.V
open Go Go.RowKit
set_option linter.unusedVariables false

/-! ### Parts that are filled in -/
theorem foldl_cells (vs : List Value) : ∀ (k : Nat) (cells : Array Value) (off : Nat), off + k + vs.length ≤ cells.size →
    ((vs.zipIdx k).foldl (fun cs (x : Value × Nat) => cs.setIfInBounds (off + x.2) x.1) cells).toList = cells.toList.take (off + k) ++ (vs ++ cells.toList.drop (off + k + vs.length)) := by
  induction vs with
  | nil => intro k cells off h; simp
  | cons v vs ih =>
    intro k cells off h
    simp only [List.length_cons] at h
    rw [List.zipIdx_cons, List.foldl_cons, ih (k + 1) _ off (by simp; omega)]
    have := list_seg_step cells.toList (off + k) v vs (by simp; omega)
    simp only [Array.toList_setIfInBounds]
    have e : off + (k + 1) = off + k + 1 := by omega
    rw [e]
    rw [List.append_assoc] at this
    rw [show off + k + (v :: vs).length = off + k + (vs.length + 1) by simp]
    rw [this]
    simp
theorem fill_step (place : Nat → Option (Nat × Nat)) (cells : Array Value) (i off size : Nat) (v : Value) (rest : List (Nat × Value)) (hp : place i = some (off, size)) (hs : v.cells.size = size) (hf : off + size ≤ cells.size) :
    Instr.fill place cells ((i, v) :: rest) = Instr.fill place (cells.toList.take off ++ (v.cells.toList ++ cells.toList.drop (off + size))).toArray rest := by
  have hc : ¬ (v.cells.size ≠ size ∨ off + v.cells.size > cells.size) := by omega
  have hfold := foldl_cells v.cells.toList 0 cells off (by simp; omega)
  simp only [Nat.add_zero, Array.length_toList, hs] at hfold
  have hc' : (decide (v.cells.size ≠ size) || decide (off + v.cells.size > cells.size)) = false := by
    rw [Bool.or_eq_false_iff]; exact ⟨decide_eq_false (by omega), decide_eq_false (by omega)⟩
  have harr : (v.cells.zipIdx.foldl (fun cs (x : Value × Nat) => cs.setIfInBounds (off + x.2) x.1) cells) = (cells.toList.take off ++ (v.cells.toList ++ cells.toList.drop (off + size))).toArray := by
    apply Array.ext'
    rw [List.toList_toArray, ← hfold]
    congr 1
    rw [← Array.foldl_toList]
    simp
  simp only [Instr.fill, hp, hc', harr, Bool.false_eq_true, if_false]

section ops
variable {P : Program} {τ : Tau} {Γ : Ctx} {ρ : Pl} {I : Im} {os : Objs} {w : World} {get : Nat → D} {a : Act} {K : D → Objs → Prop}

theorem fill_rep {place : Nat → Option (Nat × Nat)} : ∀ (is : List Nat) (ds : List D) (vs : List Value) (zs cs : List D) (cells : Array Value), repL ρ I ds vs → repL ρ I zs cells.toList →
    fillD place zs (is.zip ds) = some cs → (∀ d ∈ ds, d ≠ .junk) → ∃ cells', Instr.fill place cells (is.zip vs) = some cells' ∧ repL ρ I cs cells'.toList
  | [], ds, vs, zs, cs, cells, _, hz, h, _ => by
    simp only [List.zip_nil_left, fillD, Option.some.injEq] at h
    subst h
    exact ⟨cells, by simp [Instr.fill], hz⟩
  | i :: is, [], vs, zs, cs, cells, hd, hz, h, _ => by
    rw [repL_nil] at hd; subst hd
    simp only [List.zip_nil_right, fillD, Option.some.injEq] at h
    subst h
    exact ⟨cells, by simp [Instr.fill], hz⟩
  | i :: is, d :: ds, _, zs, cs, cells, hd, hz, h, hj => by
    obtain ⟨u, us, rfl, hu, hd⟩ := repL_cons.1 hd
    simp only [List.zip_cons_cons, fillD] at h ⊢
    cases hp : place i with
    | none => rw [hp] at h; simp at h
    | some p =>
      obtain ⟨off, size⟩ := p
      rw [hp] at h
      dsimp only at h
      split at h
      case isFalse => simp at h
      rename_i hc
      obtain ⟨h1, h2⟩ := hc
      have hcu := rep_cells (hj d (by simp)) hu
      have hul : u.cells.toList.length = d.cells.length := repL_length hcu
      have hzl : cells.toList.length = zs.length := repL_length hz
      rw [fill_step place cells i off size u (is.zip us) hp (by simp at hul; omega) (by simp at hzl; omega)]
      exact fill_rep is ds us _ cs _ hd (by
        rw [List.toList_toArray]
        exact repL_append (repL_take off hz) (repL_append hcu (repL_drop (off + size) hz))) h (fun d hd => hj d (by simp [hd]))

theorem mapM_ok {α β : Type} {f : α → Sem β} {g : α → β} (w : World) : ∀ (l : List α), (∀ x ∈ l, (f x).run P w = .ok (g x) w) → (l.mapM f).run P w = .ok (l.map g) w
  | [], _ => by simp
  | x :: l, h => by
    rw [List.mapM_cons]
    simp [h x (by simp), mapM_ok w l (fun y hy => h y (by simp [hy]))]

theorem map_opt {α β : Type} {f : α → Option β} : ∀ {l : List α} {r : List β}, l.mapM f = some r → ∀ {i : Nat} {x : α}, l[i]? = some x → ∃ y, f x = some y ∧ r[i]? = some y
  | [], r, h, i, x, hx => by simp at hx
  | a :: l, r, h, i, x, hx => by
    rw [List.mapM_cons] at h
    cases ha : f a with
    | none => rw [ha] at h; simp at h
    | some b =>
      rw [ha] at h
      cases hl : l.mapM f with
      | none => rw [hl] at h; simp at h
      | some bs =>
        rw [hl] at h
        simp at h
        subst h
        cases i with
        | zero => simp at hx; subst hx; exact ⟨b, ha, rfl⟩
        | succ i => obtain ⟨y, h1, h2⟩ := map_opt hl (i := i) (x := x) (by simpa using hx); exact ⟨y, h1, by simpa using h2⟩
theorem map_opt_len {α β : Type} {f : α → Option β} : ∀ {l : List α} {r : List β}, l.mapM f = some r → r.length = l.length
  | [], r, h => by simp at h; simp [← h]
  | a :: l, r, h => by
    rw [List.mapM_cons] at h
    cases ha : f a with
    | none => rw [ha] at h; simp at h
    | some b =>
      rw [ha] at h
      cases hl : l.mapM f with
      | none => rw [hl] at h; simp at h
      | some bs =>
        rw [hl] at h
        simp at h
        subst h
        simp [map_opt_len hl]

def D.noJunk (ds : List D) : Bool := ds.all fun d => !d.isJunk
theorem noJunk_spec {ds : List D} (h : D.noJunk ds = true) : ∀ d ∈ ds, d ≠ .junk := by
  intro d hd e
  subst e
  have := List.all_eq_true.1 h _ hd
  simp [D.isJunk] at this

theorem snd_build (hτ : TauOk P τ) (sat : Sat ρ I os w) (fr : Γ.Fr ρ I os w) {t : TypeId} {is : List Nat} {ds : List D} {vs : List Value} (hv : repL ρ I ds vs)
    (h : vcBuild τ t is ds (fun d => K d os)) : ∃ v', (Instr.build t (is.zip vs).toArray).run P w = .ok v' w ∧ Goes Γ ρ I K v' w := by
  unfold vcBuild at h
  split at h
  case h_2 => exact h.elim
  rename_i fs s1 s2 zc ht
  obtain ⟨i0, d0, hty⟩ := hτ t _ ht
  split at h
  case h_2 => exact h.elim
  rename_i places hpl
  rw [forceL_eq] at h
  cases hnj : ds.all (fun d => !d.isJunk) with
  | false => rw [hnj] at h; exact h.elim
  | true =>
  have hj := noJunk_spec (ds := ds) hnj
  rw [hnj] at h
  simp only [Bool.not_true, cond_false] at h
  split at h
  case h_2 => exact h.elim
  rename_i cs hcs
  rw [forceL_eq] at h
  have hk := hty.kind
  simp only [kindOk] at hk
  obtain ⟨F, rfl, hF⟩ := hk
  rcases hty.zero with e | ⟨z, hz1, hz2, hz3⟩
  · simp at e
  have hz := hz2 ρ I
  rw [rep] at hz
  obtain ⟨zarr, rfl, hz⟩ := hz
  obtain ⟨cells', hfill, hrep⟩ := fill_rep is ds vs zc cs zarr hv hz hcs hj
  have hmap : (F.mapM fun (f : Field) => do pure (f.offset, ← sizeOf f.type)).run P w = .ok (places.toArray) w := by
    have h1 : ∀ f ∈ F.toList, (do pure (f.offset, ← sizeOf f.type) : Sem (Nat × Nat)).run P w = .ok (f.offset, ((τ f.type).map (·.size)).getD 0) w := by
      intro f hf
      obtain ⟨n, hn⟩ := List.mem_iff_getElem?.1 hf
      have hn' : fs[n]? = some (f.offset, f.type) := by rw [hF, List.getElem?_map, hn]; rfl
      obtain ⟨y, hy, _⟩ := map_opt hpl hn'
      cases htf : τ f.type with
      | none => rw [htf] at hy; simp at hy
      | some tf =>
        obtain ⟨i1, d1, htyf⟩ := hτ _ _ htf
        simp [sizeOf, typeInfo, htyf.info, htyf.size]
    have h2 := mapM_ok (P := P) w F.toList h1
    have h3 : F.toList.map (fun f => (f.offset, ((τ f.type).map (·.size)).getD 0)) = places := by
      apply List.ext_getElem?
      intro n
      rw [List.getElem?_map]
      cases hn : F.toList[n]? with
      | none =>
        have : fs[n]? = none := by rw [hF, List.getElem?_map, hn]; rfl
        rw [List.getElem?_eq_none (by rw [map_opt_len hpl]; exact List.getElem?_eq_none_iff.1 this)]; rfl
      | some f =>
        have hn' : fs[n]? = some (f.offset, f.type) := by rw [hF, List.getElem?_map, hn]; rfl
        obtain ⟨y, hy, hy2⟩ := map_opt hpl hn'
        rw [hy2]
        cases htf : τ f.type with
        | none => rw [htf] at hy; simp at hy
        | some tf => rw [htf] at hy; simp at hy; simp [htf, ← hy]
    rw [h3] at h2
    rw [← Array.toArray_toList (xs := F), List.mapM_toArray, Sem.run_map, h2]
    rfl
  refine ⟨.agg cells', ?_, Goes.same sat fr (by rw [rep]; exact ⟨_, rfl, hrep⟩) h⟩
  have hpe : (fun (i : Nat) => places.toArray[i]?) = (fun (i : Nat) => places[i]?) := by funext i; simp
  simp only [Instr.build, zeroValue, typeInfo, hty.info, hz1, Sem.run_bind, run_program, Result.andThen_ok, Sem.run_pure, run_underlying hty.und, hmap, hpe, hfill, Value.cells, List.toList_toArray]

/-- A row whose elements are filled in. -/
theorem fill_row {sz : Nat} {z : Value} : ∀ (is : List Nat) (vs : List Value) (us : List Value), (∀ u ∈ us, u.cells.size = sz) → (∀ v ∈ vs, v.cells.size = sz) → (∀ i ∈ is, i < us.length) →
    Instr.fill (fun i => some (i * sz, sz)) (flat us).toArray (is.zip vs) = some (flat ((is.zip vs).foldl (fun us p => us.set p.1 p.2) us)).toArray
  | [], vs, us, _, _, _ => by simp [Instr.fill]
  | i :: is, [], us, _, _, _ => by simp [Instr.fill]
  | i :: is, v :: vs, us, hu, hv, hi => by
    have hlt : i < us.length := hi i (by simp)
    have hvs := hv v (by simp)
    simp only [List.zip_cons_cons, List.foldl_cons]
    rw [fill_step _ _ i (i * sz) sz v _ rfl hvs (by
      simp only [List.size_toArray]
      rw [flat_length hu]
      exact mul_add_le hlt (Nat.le_refl _))]
    rw [List.toList_toArray, ← flat_set (v := v) hu (List.getElem?_eq_getElem hlt) hvs]
    exact fill_row (z := z) is vs (us.set i v) (fun u hu' => by
      rcases List.mem_or_eq_of_mem_set hu' with h | rfl
      · exact hu u h
      · exact hvs) (fun v hv' => hv v (by simp [hv'])) (fun j hj => by simpa using hi j (by simp [hj]))
theorem setAll_rep : ∀ (is : List Nat) (ds : List D) (vs : List Value) (es : List D) (us : List Value), repL ρ I ds vs → repL ρ I es us → repL ρ I (setAll es (is.zip ds)) ((is.zip vs).foldl (fun us p => us.set p.1 p.2) us)
  | [], _, _, es, us, _, h => by simpa [setAll] using h
  | i :: is, [], _, es, us, hd, h => by rw [repL_nil] at hd; subst hd; simpa [setAll] using h
  | i :: is, d :: ds, _, es, us, hd, h => by
    obtain ⟨v, vs, rfl, hv, hd⟩ := repL_cons.1 hd
    simp only [List.zip_cons_cons, setAll, List.foldl_cons]
    exact setAll_rep is ds vs _ _ hd (repL_set i h hv)
theorem foldl_set_mem : ∀ (ps : List (Nat × Value)) (us : List Value) (u : Value), u ∈ ps.foldl (fun us p => us.set p.1 p.2) us → u ∈ us ∨ ∃ p ∈ ps, p.2 = u
  | [], us, u, h => .inl h
  | p :: ps, us, u, h => by
    rw [List.foldl_cons] at h
    rcases foldl_set_mem ps _ u h with h | ⟨q, hq, e⟩
    · rcases List.mem_or_eq_of_mem_set h with h | rfl
      · exact .inl h
      · exact .inr ⟨p, by simp, rfl⟩
    · exact .inr ⟨q, by simp [hq], e⟩
theorem setAll_length : ∀ (ps : List (Nat × D)) (es : List D), (setAll es ps).length = es.length
  | [], es => rfl
  | p :: ps, es => by obtain ⟨i, d⟩ := p; simp [setAll, setAll_length ps]

theorem snd_buildSlice (hτ : TauOk P τ) (sat : Sat ρ I os w) (fr : Γ.Fr ρ I os w) {t : TypeId} {len : Nat} {is : List Nat} {ds : List D} {vs : List Value} (hv : repL ρ I ds vs) (hlen : is.length = ds.length)
    (h : vcBuildSlice τ t len is ds os K) : ∃ v' w', (Instr.buildSlice t len (is.zip vs).toArray).run P w = .ok v' w' ∧ Goes Γ ρ I K v' w' := by
  unfold vcBuildSlice at h
  split at h
  case h_2 => exact h.elim
  rename_i e s1 s2 s3 ht
  obtain ⟨i0, d0, hty⟩ := hτ t _ ht
  have hund : P.underlying t = some (.slice e) := by have := hty.und; have hk := hty.kind; simp only [kindOk] at hk; rw [hk] at this; exact this
  split at h
  case h_2 => exact h.elim
  rename_i te hte
  obtain ⟨i1, d1, htye⟩ := hτ e te hte
  cases hb : ((te.zero.isJunk || !(Nat.ble (len * te.size) 65536)) || Nat.beq te.size 0) with
  | true => rw [hb] at h; exact h.elim
  | false =>
  rw [hb] at h
  simp only [cond_false] at h
  rw [forceL_eq] at h
  simp only [Bool.or_eq_false_iff, Bool.not_eq_false'] at hb
  obtain ⟨⟨hjz, hble⟩, hsz0⟩ := hb
  have hble := Nat.le_of_ble_eq_true hble
  have hsz : 0 < te.size := Nat.pos_of_ne_zero (fun e => by rw [e] at hsz0; simp at hsz0)
  rcases htye.zero with e' | ⟨z, hz1, hz2, hz3⟩
  · rw [e'] at hjz; simp [D.isJunk] at hjz
  cases hall : (is.zip ds).all (fun p => Nat.blt p.1 len && (Nat.beq p.2.cells.length te.size && p.2.cells.all D.one)) with
  | false => rw [hall] at h; exact h.elim
  | true =>
  rw [hall] at h
  simp only [cond_true] at h
  have hall := List.all_eq_true.1 hall
  have hvl : vs.length = ds.length := repL_length hv
  -- each part, as a value
  have hparts : ∀ (n i : Nat) (v : Value), is[n]? = some i → vs[n]? = some v → i < len ∧ Value.fine v te.size := by
    intro n i v hi hvn
    have hn : n < ds.length := by rw [← hvl]; exact (List.getElem?_eq_some_iff.1 hvn).1
    have hm : (i, ds[n]) ∈ is.zip ds := List.mem_iff_getElem?.2 ⟨n, by simp [List.getElem?_zip_eq_some, hi, hn]⟩
    have := hall _ hm
    simp only [Bool.and_eq_true] at this
    obtain ⟨g1, g2, g3⟩ := this
    obtain ⟨v', hv', hr⟩ := repL_get hv (List.getElem?_eq_getElem hn)
    rw [hvn] at hv'; cases hv'
    have hc := rep_cells (not_junk_of_cells (c := []) g3) hr
    refine ⟨Nat.le_of_ble_eq_true g1, ?_, repL_one g3 hc⟩
    have := repL_length hc
    have g2 := Nat.eq_of_beq_eq_true g2
    simp at this; omega
  have hzl : ∀ u ∈ List.replicate len z, u.cells.size = te.size := fun u hu => by rw [List.eq_of_mem_replicate hu]; exact hz3.1
  have hvf : ∀ v ∈ vs, Value.fine v te.size := by
    intro v hv'
    obtain ⟨n, hn⟩ := List.mem_iff_getElem?.1 hv'
    have : n < is.length := by rw [hlen, ← hvl]; exact (List.getElem?_eq_some_iff.1 hn).1
    exact (hparts n _ v (List.getElem?_eq_getElem this) hn).2
  have hil : ∀ i ∈ is, i < (List.replicate len z).length := by
    intro i hi
    obtain ⟨n, hn⟩ := List.mem_iff_getElem?.1 hi
    have : n < vs.length := by rw [hvl, ← hlen]; exact (List.getElem?_eq_some_iff.1 hn).1
    simpa using (hparts n i _ hn (List.getElem?_eq_getElem this)).1
  have hfill := fill_row (sz := te.size) (z := z) is vs (List.replicate len z) hzl (fun v hv' => (hvf v hv').1) hil
  have hmade := madeCells_flat (n := len) hz3.1 hsz
  have hrun : (Instr.buildSlice t len (is.zip vs).toArray).run P w = .ok (.slice (some ⟨w.heap.size, 0, none⟩) len len) (w.alloc (.cells (flat ((is.zip vs).foldl (fun us p => us.set p.1 p.2) (List.replicate len z))).toArray e)) := by
    have hn : ¬ (len * te.size > 2 ^ 24) := by omega
    have hm2 : madeCells z.cells (len * te.size) = (flat (List.replicate len z)).toArray := Array.ext' (by rw [hmade])
    unfold madeCells at hm2
    by_cases h0 : len * te.size = 0
    · have hl0 : len = 0 := by rcases Nat.mul_eq_zero.1 h0 with h | h <;> omega
      subst hl0
      simp only [Nat.zero_mul] at hn hm2
      simp only [List.replicate_zero, flat_nil] at hfill hm2
      simp [Instr.buildSlice, run_underlying hund, sizeOf, typeInfo, htye.info, htye.size, newRow]
      have e0 : Array.map (fun (x : Nat) => (default : Value)) (Array.range 0) = ([] : List Value).toArray := by simp [Array.range_zero']
      rw [e0, hfill]
      simp
    · simp [Instr.buildSlice, run_underlying hund, sizeOf, typeInfo, htye.info, htye.size, hn, h0, zeroValue, hz1, hm2, hfill, newRow]
  refine ⟨_, _, hrun, app_goes (pr := te.zero.pure && D.pureL ds) (w' := w.alloc (.cells (flat ((is.zip vs).foldl (fun us p => us.set p.1 p.2) (List.replicate len z))).toArray e)) sat fr
    (arr := (flat ((is.zip vs).foldl (fun us p => us.set p.1 p.2) (List.replicate len z))).toArray) (t := e) rfl rfl rfl rfl (sz := te.size) (C := len)
    (es := setAll (List.replicate len te.zero) (is.zip ds)) (us := (is.zip vs).foldl (fun us p => us.set p.1 p.2) (List.replicate len z)) (by rw [setAll_length]; simp) (Nat.le_refl _) (by
      have : len ≤ len * te.size := Nat.le_mul_of_pos_right _ hsz
      simp only [maxLen]; omega)
    (by
      have hf : ∀ u ∈ (is.zip vs).foldl (fun us p => us.set p.1 p.2) (List.replicate len z), u.cells.size = te.size := by
        intro u hu
        rcases foldl_set_mem _ _ _ hu with h | ⟨p, hp, rfl⟩
        · exact hzl u h
        · exact (hvf _ (List.of_mem_zip hp).2).1
      rw [List.size_toArray, flat_length hf]
      congr 1
      have : ∀ (ps : List (Nat × Value)) (us : List Value), (ps.foldl (fun us p => us.set p.1 p.2) us).length = us.length := by
        intro ps
        induction ps with
        | nil => intro us; rfl
        | cons p ps ih => intro us; rw [List.foldl_cons, ih]; simp
      rw [this]; simp)
    (by
      cases hp : te.zero.pure && D.pureL ds
      · exact setAll_rep is ds vs _ _ hv (repL_replicate (hz2 _ _) _)
      · simp only [Bool.and_eq_true] at hp
        exact setAll_rep is ds vs _ _ (repL_pure _ _ hp.2 hv) (repL_replicate (hz2 _ _) _))
    (by
      intro u hu
      rcases foldl_set_mem _ _ _ hu with h | ⟨p, hp, rfl⟩
      · rw [List.eq_of_mem_replicate h]; exact hz3
      · exact hvf _ (List.of_mem_zip hp).2)
    (by simp) h⟩
end ops
end Go.Proofs.Ytaplihoeephbeaa.V
