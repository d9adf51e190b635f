/- VSnd6: a text of a symbolic executor that is proved sound, and contracts that are proved with it. -/
import Derived.Test.YtaplihoeephbeaaVSnd5
import Derived.Deep.Upon
namespace Go.Proofs.Ytaplihoeephbeaa.V
open Go Go.RowKit
set_option linter.unusedVariables false

section ops
variable {P : Program} {τ : Tau} {Γ : Ctx} {ρ : Pl} {I : Im} {os : Objs} {w : World} {get : Nat → D} {a : Act} {K : D → Objs → Prop}

/-- What is appended. -/
theorem src_ok (sat : Sat ρ I os w) {sz : Nat} {x : D} {v : Value} (hv : rep ρ I x v) {Q : List D → Prop} (h : srcD os sz x Q) {tx e' : TypeId} (hk : P.underlying tx = some (.slice e')) :
    ∃ news us, Q news ∧ repL ρ I news us ∧ (∀ u ∈ us, Value.fine u sz) ∧ us.length = news.length ∧ Src P sz tx v news.length (flat us) w := by
  have some' : ∀ (b o n c : Nat) (us : List Value), (∀ u ∈ us, Value.fine u sz) → us.length = n → Lies w b o (flat us) → Src P sz tx (.slice (some ⟨b, o, none⟩) n c) n (flat us) w := by
    intro b o n c us hf hn hl
    refine Src.ofSlice w hk _ n c _ (by rw [flat_length (fun u hu => (hf u hu).1), hn]) (fun j u hu => by rw [Addr.add_mid]; exact hl j u hu) ?_
    intro u hu
    simp only [flat, List.mem_flatMap] at hu
    obtain ⟨y, hy, hu⟩ := hu
    exact (hf y hy).2 u hu
  cases x <;> try exact h.elim
  case nils =>
    rw [rep] at hv; subst hv
    exact ⟨[], [], h, repL_nil.2 rfl, (fun u hu => by cases hu), rfl, Src.ofNil w hk 0⟩
  case lst sz' full es =>
    simp only [srcD] at h
    split at h
    case isFalse => exact h.elim
    rename_i hsz; subst hsz
    rw [rep] at hv
    obtain ⟨A, c, us, rfl, h1, hm, h2, hr, hf, hA⟩ := hv
    have hul : us.length = es.length := repL_length hr
    refine ⟨es, us, h, repL_bot hr, hf, hul, ?_⟩
    rcases hA with rfl | ⟨b, o, arr, t', fz, rfl, hI, hfl⟩
    · have hu0 : us = [] := List.eq_nil_of_length_eq_zero (by simpa using hul)
      subst hu0
      cases A with
      | none => exact Src.ofNil w hk c
      | some ad => exact Src.ofSlice w hk ad 0 c [] (by simp) (fun j u hu => by simp at hu) (fun u hu => by cases hu)
    · exact some' b o _ c us hf hul (Lies.of_block (sat.im _ _ hI) hfl)
  case sl i j sz' lo len cap =>
    simp only [srcD] at h
    split at h
    case isFalse => exact h.elim
    rename_i hsz; subst hsz
    cases hat : os.at i j with
    | gone => rw [hat] at h; exact h.elim
    | map _ => rw [hat] at h; exact h.elim
    | row t' sz'' p es =>
    rw [hat] at h
    dsimp only at h
    split at h
    case isFalse => exact h.elim
    rename_i hsz; subst hsz
    obtain ⟨hle, h⟩ := h
    rw [rep] at hv
    obtain ⟨q, A, c, hq, rfl, h2, h3, h4, h5, hA⟩ := hv
    obtain ⟨q', hq', hok⟩ := sat.ok i j (by rw [hat]; simp)
    rw [hq] at hq'; cases hq'
    rw [hat] at hok
    obtain ⟨k1, k2, k3⟩ := hok
    have hlen : ((es.drop lo).take len).length = len := by simp; omega
    by_cases hpos : 0 < q.2
    · obtain ⟨arr, us, ha, hs, hr, hf, hfl⟩ := k3 hpos
      have hul : us.length = es.length := repL_length hr
      rw [hA hpos]
      have hf' : ∀ u ∈ (us.drop lo).take len, Value.fine u sz'' := fun u hu => hf u (List.mem_of_mem_drop (List.mem_of_mem_take hu))
      refine ⟨_, (us.drop lo).take len, h, repL_take len (repL_drop lo (repL_if hr)), hf', by rw [hlen]; simp; omega, ?_⟩
      rw [hlen]
      refine some' q.1 (lo * sz'') len c _ hf' (by simp; omega) (Lies.of_block ha ?_)
      have := cut_flat (sz := sz'') (cs := arr.toList) (o := 0) lo (lo + len) hf (by rw [List.length_take]; omega) (by simpa using hfl)
      rw [List.drop_take, show lo + len - lo = len by omega, Nat.zero_add] at this
      exact this
    · have h0 : len = 0 := by omega
      subst h0
      refine ⟨_, [], h, by simp [repL_nil], (fun u hu => by cases hu), by simp, ?_⟩
      cases A with
      | none => simpa [flat_nil] using Src.ofNil w hk c
      | some ad => simpa [flat_nil] using Src.ofSlice w hk ad 0 c [] (by simp) (fun j u hu => by simp at hu) (fun u hu => by cases hu)

/-- It does not fit: a new row. -/
theorem append_grow (hτ : TauOk P τ) (sat : Sat ρ I os w) (fr : Γ.Fr ρ I os w) {t tx e : TypeId} {te : TI} (hte : τ e = some te) (ht : P.underlying t = some (.slice e)) (hz : te.zero.isJunk = false) (hsz : 0 < te.size)
    {A : Option Addr} {len cap : Nat} {olds : List Value} {us : List Value} {x : Value} {ty : TypeId} (holds : ∀ w', w'.heap = w.heap → (Builtin.firstCells te.size len (.slice A len cap)).run P w' = .ok (flat olds).toArray w')
    (hol : olds.length = len) (hof : ∀ u ∈ olds, Value.fine u te.size) (huf : ∀ u ∈ us, Value.fine u te.size) (hs : Src P te.size tx x us.length (flat us) w)
    (hg : cap < len + us.length) (hb : (len + us.length) * te.bytes ≤ 140737488355328) (hn : len + us.length ≤ 140737488355328)
    {pr : Bool} {es : List D} (hr : repL (if pr then bot else ρ) I es (olds ++ us)) (hK : App K os e te.size (len + us.length) pr es) :
    ∃ v' w', (Builtin.append_ #[t, tx] ty #[.slice A len cap, x]).run P w = .ok v' w' ∧ Goes Γ ρ I K v' w' := by
  obtain ⟨i, d, hty⟩ := hτ e te hte
  rcases hty.zero with e' | ⟨z, hz1, hz2, hz3⟩
  · rw [e'] at hz; simp [D.isJunk] at hz
  have hs' : Src P i.size tx x us.length (flat us) w := by rw [hty.size]; exact hs
  have hfit : Builtin.nextslicecap (len + us.length) cap * i.bytes ≤ 281474976710656 := growslice_fits hg (by rw [hty.bytes]; omega)
  have hrun := run_append_grow_src (P := P) w t tx ty e i z ht hty.info hz1 A len cap (flat olds) (by rw [hty.size]; exact holds w.drew rfl) x us.length (flat us) hs' hg (by omega) hfit
  have hge := grownCap_ge w (len + us.length) cap e
  have hml : grownCap w (len + us.length) cap e ≤ maxLen := grownCap_le_maxLen w (len + us.length) cap e (by simp only [maxLen]; omega)
  have hrl : (olds ++ us).length = es.length := repL_length hr
  have hes : es.length = len + us.length := by rw [← hrl, List.length_append, hol]
  have hfa : ∀ u ∈ olds ++ us, Value.fine u te.size := fun u hu => (List.mem_append.1 hu).elim (hof u) (huf u)
  refine ⟨_, _, hrun, app_goes (pr := pr) (w' := w.drew.alloc (.cells ((flat olds ++ flat us).toArray ++ Builtin.zeroCells z.cells (grownCap w (len + us.length) cap e - (len + us.length))) e)) sat fr
    (arr := (flat olds ++ flat us).toArray ++ Builtin.zeroCells z.cells (grownCap w (len + us.length) cap e - (len + us.length))) (t := e) rfl rfl rfl rfl (sz := te.size) (C := grownCap w (len + us.length) cap e)
    (es := es) (us := olds ++ us) hes hge hml (by
      rw [← flat_append]
      simp only [Array.size_append, List.size_toArray, size_zeroCells, hz3.1]
      rw [flat_length (sz := te.size) (fun u hu => (hfa u hu).1), List.length_append, hol, ← Nat.add_mul]
      congr 1; omega) hr hfa (by rw [← flat_append]; simp) hK⟩

theorem firstCells_lies {sz len cap : Nat} {b o : Nat} {olds : List Value} (hof : ∀ u ∈ olds, Value.fine u sz) (hol : olds.length = len) {w' : World} (hl : Lies w' b o (flat olds)) :
    (Builtin.firstCells sz len (.slice (some ⟨b, o, none⟩) len cap)).run P w' = .ok (flat olds).toArray w' :=
  run_firstCells_some w' sz len ⟨b, o, none⟩ len cap (flat olds) (by rw [flat_length (sz := sz) (fun u hu => (hof u hu).1), hol]) (fun j u hu => by rw [Addr.add_mid]; exact hl j u hu)
theorem firstCells_zero {sz cap : Nat} {A : Option Addr} {w' : World} : (Builtin.firstCells sz 0 (.slice A 0 cap)).run P w' = .ok (flat []).toArray w' := by
  cases A with
  | none => exact run_firstCells_none w' sz 0 0 cap
  | some ad => exact run_firstCells_some w' sz 0 ad 0 cap [] (by simp) (fun j u hu => by simp at hu)

theorem append_none {t tx e : TypeId} {te : TI} (hτ : TauOk P τ) (hte : τ e = some te) (ht : P.underlying t = some (.slice e)) {A : Option Addr} {len cap : Nat} (hlc : len ≤ cap) {x : Value} {ty : TypeId} (hs : Src P te.size tx x 0 [] w) :
    (Builtin.append_ #[t, tx] ty #[.slice A len cap, x]).run P w = .ok (.slice A len cap) w := by
  obtain ⟨i, d, hty⟩ := hτ e te hte
  have hs' : Src P i.size tx x 0 [] w := by rw [hty.size]; exact hs
  exact run_append_nothing w t tx ty e i ht hty.info A len cap hlc x hs'

theorem snd_append (hτ : TauOk P τ) (sat : Sat ρ I os w) (fr : Γ.Fr ρ I os w) {t tx e : TypeId} {te : TI} (hte : τ e = some te) (ht : P.underlying t = some (.slice e)) (hz : te.zero.isJunk = false) (hsz : 0 < te.size)
    {s : D} {vs : Value} (hv : rep ρ I s vs) {news : List D} {us : List Value} {x : Value} {ty : TypeId} (hr : repL ρ I news us) (hf : ∀ u ∈ us, Value.fine u te.size) (hul : us.length = news.length)
    (hs : Src P te.size tx x news.length (flat us) w) (h : vcAppend te e s news os K) :
    ∃ v' w', (Builtin.append_ #[t, tx] ty #[vs, x]).run P w = .ok v' w' ∧ Goes Γ ρ I K v' w' := by
  have nil_of : news = [] → us = [] := fun e => List.eq_nil_of_length_eq_zero (by rw [hul, e]; rfl)
  cases s <;> try exact h.elim
  case nils =>
    rw [rep] at hv; subst hv
    obtain ⟨h1, h2⟩ := h
    by_cases hn : news = []
    · have hu := nil_of hn
      subst hn; subst hu
      exact ⟨_, w, append_none hτ hte ht (Nat.le_refl _) hs, Goes.same sat fr (by rw [rep]) (h1 rfl)⟩
    · obtain ⟨g1, g2, h⟩ := h2 hn
      have hpos : 0 < news.length := List.length_pos_iff.2 hn
      rw [← hul] at hs
      refine append_grow hτ sat fr hte ht hz hsz (A := none) (len := 0) (cap := 0) (olds := []) (us := us) (pr := D.pureL news) (es := news) (fun w' _ => firstCells_zero) rfl (fun u hu => by cases hu) hf hs (by omega) (by rw [Nat.zero_add, hul]; exact g1) (by omega) ?_ (by simpa [hul] using h)
      cases hp : D.pureL news
      · exact hr
      · exact repL_pure _ _ hp hr
  case lst sz full es =>
    simp only [vcAppend] at h
    split at h
    case isFalse => exact h.elim
    rename_i hc; obtain ⟨hsz', hfull⟩ := hc; subst hsz'
    obtain ⟨h1, h2⟩ := h
    have hv' := hv
    rw [rep] at hv
    obtain ⟨A, c, os', rfl, g1, gm, g2, gr, gf, gA⟩ := hv
    have hol : os'.length = es.length := repL_length gr
    by_cases hn : news = []
    · have hu := nil_of hn
      subst hn; subst hu
      exact ⟨_, w, append_none hτ hte ht g1 hs, Goes.same sat fr hv' (h1 rfl)⟩
    · obtain ⟨k1, k2, h⟩ := h2 hn
      have hpos : 0 < news.length := List.length_pos_iff.2 hn
      rw [← hul] at hs
      have hcl := g2 hfull
      refine append_grow hτ sat fr hte ht hz hsz (A := A) (len := es.length) (cap := c) (olds := os') (us := us) (pr := D.pureL news) (es := es ++ news) ?_ hol gf hf hs (by omega) (by rw [hul]; omega) (by omega) ?_ (by simpa [hul] using h)
      · intro w' hw'
        rcases gA with rfl | ⟨b, o, arr, t', fz, rfl, hI, hfl⟩
        · have : os' = [] := List.eq_nil_of_length_eq_zero (by simpa using hol)
          subst this
          exact firstCells_zero
        · exact firstCells_lies gf hol (Lies.of_block (by rw [hw']; exact sat.im _ _ hI) hfl)
      · cases hp : D.pureL news
        · exact repL_append (repL_bot gr) hr
        · exact repL_append gr (repL_pure _ _ hp hr)
  case sl i j sz lo len cap =>
    simp only [vcAppend] at h
    split at h
    case isFalse => exact h.elim
    rename_i hsz'; subst hsz'
    cases hat : os.at i j with
    | gone => rw [hat] at h; exact h.elim
    | map _ => rw [hat] at h; exact h.elim
    | row t' sz' p es =>
    rw [hat] at h
    dsimp only at h
    split at h
    case isFalse => exact h.elim
    rename_i hc; obtain ⟨rfl, rfl⟩ := hc
    have hv' := hv
    rw [rep] at hv
    obtain ⟨q, A, c, hq, rfl, g1, g2, g3, g4, gA⟩ := hv
    have hne : os.at i j ≠ .gone := by rw [hat]; simp
    obtain ⟨q', hq', hok⟩ := sat.ok i j hne
    rw [hq] at hq'; cases hq'
    rw [hat] at hok
    obtain ⟨k1, k2, k3⟩ := hok
    cases cap with
    | none =>
      dsimp only at h g4
      split at h
      case isFalse => exact h.elim
      rename_i hlo; subst hlo
      obtain ⟨hel, hpu, hb, hn, h⟩ := h
      have hcq : c = q.2 := by omega
      subst hcq
      -- the object that comes
      have hrr : ∀ olds : List Value, repL (if p then bot else ρ) I es olds → repL (if p then bot else ρ) I (es ++ news) (olds ++ us) := by
        intro olds ho
        refine repL_append ho ?_
        cases hp : p
        · exact hr
        · exact repL_pure _ _ (hpu hp) hr
      have grow : ∀ olds : List Value, repL (if p then bot else ρ) I es olds → (∀ u ∈ olds, Value.fine u te.size) → (∀ w', w'.heap = w.heap → (Builtin.firstCells te.size len (.slice A len q.2)).run P w' = .ok (flat olds).toArray w') → q.2 < len + news.length →
          ∃ v' w', (Builtin.append_ #[t, tx] ty #[.slice A len q.2, x]).run P w = .ok v' w' ∧ Goes Γ ρ I K v' w' := by
        intro olds ho hof hfc hgr
        have hol : olds.length = len := by rw [repL_length ho, hel]
        rw [← hul] at hs
        refine append_grow hτ (sat.drop i j) ⟨fr.wos, fr.tape, fr.output, fr.size, fr.kept, by rw [length_put]; exact fr.len, fr.same, fr.imle, fr.imnew, ?_⟩ hte ht hz hsz (A := A) (len := len) (cap := q.2) (olds := olds) (us := us) (pr := p) (es := es ++ news) hfc hol hof hf hs (by omega) (by rw [hul]; omega) (by omega) (hrr olds ho) (.own ?_)
        · rintro b ⟨a, c', q', hn', hq', hqp, rfl⟩
          refine fr.obnew _ ⟨a, c', q', ?_, hq', hqp, rfl⟩
          by_cases hc : a = i ∧ c' = j
          · obtain ⟨rfl, rfl⟩ := hc; exact hne
          · rwa [at_put_ne _ _ _ _ hc] at hn'
        · simpa [hul, length_put] using h
      by_cases hpos : 0 < q.2
      · obtain ⟨arr, olds, ha, hsa, ho, hof, hfl⟩ := k3 hpos
        have hol : olds.length = len := by rw [repL_length ho, hel]
        have hAe := gA hpos
        simp only [Nat.zero_mul] at hAe
        by_cases hroom : len + news.length ≤ q.2
        · -- in its place
          obtain ⟨i0, d0, hty⟩ := hτ t' te hte
          have hfl1 : (flat olds).length = len * te.size := by rw [flat_length (sz := te.size) (fun u hu => (hof u hu).1), hol]
          have hfl2 : (flat us).length = news.length * te.size := by rw [flat_length (sz := te.size) (fun u hu => (hf u hu).1), hul]
          have hfit : len * te.size + (flat us).length ≤ arr.size := by rw [hfl2, hsa, ← Nat.add_mul]; exact Nat.mul_le_mul_right _ hroom
          have hst := run_storeCells_at P q.1 (len * te.size) t' (flat us) 0 arr w ha (by simpa using hfit) hs.one
          simp only [Nat.add_zero] at hst
          have hrun : (Builtin.append_ #[t, tx] ty #[.slice A len q.2, x]).run P w = .ok (.slice (some ⟨q.1, 0, none⟩) (len + news.length) q.2) (w.setRow q.1 (arr.toList.take (len * te.size) ++ flat us ++ arr.toList.drop (len * te.size + (flat us).length)).toArray) := by
            rw [hAe]
            rcases hs.kind with ⟨e', hk⟩ | hk <;> simp [Builtin.append_, run_underlying ht, run_underlying hk, sizeOf, typeInfo, hty.info, hty.size, hs.len, hroom, hs.cells, Addr.add_mid, hst]
          have hoth : ∀ b, b ≠ q.1 → (w.setRow q.1 (arr.toList.take (len * te.size) ++ flat us ++ arr.toList.drop (len * te.size + (flat us).length)).toArray).heap[b]? = w.heap[b]? := fun b hb => setRow_other w q.1 b _ hb
          have htake : arr.toList.take (len * te.size) = flat olds := by
            obtain ⟨rest, hrest⟩ := hfl
            rw [← hrest, ← hfl1]; exact List.take_left
          have hle : ρ.le (ρ.new os.length q) := Pl.le_new (fun j => sat.dom _ _ (Nat.le_refl _))
          refine ⟨_, _, hrun, _, _, ρ.new os.length q, I, sat.pass hne hq hpos hoth (.row t' te.size p (es ++ news)) ⟨by simp; omega, k2, fun _ => ⟨_, olds ++ us, setRow_heap w q.1 arr _ t' _ ha, ?_, ?_, ?_, ?_⟩⟩,
            fr.pass (turn_setRow _ _ _) hne hq hpos hoth _, hle, Im.le_refl _, ?_, h⟩
          · simp only [List.size_toArray, List.length_append, List.length_take, List.length_drop, Array.length_toList]
            omega
          · have := hrr olds ho
            cases hp : p
            · rw [hp] at this; exact repL_mono hle (Im.le_refl _) _ _ this
            · rw [hp] at this; exact this
          · intro u hu; exact (List.mem_append.1 hu).elim (hof u) (hf u)
          · rw [htake, flat_append]; simp
          · rw [rep]
            exact ⟨_, _, _, Pl.new_self _ _ _, rfl, hroom, k2, by simp, by simp, fun _ => by simp⟩
        · refine grow olds ho hof ?_ (by omega)
          intro w' hw'
          rw [hAe]
          refine firstCells_lies hof hol (Lies.of_block (arr := arr) (t := t') (fz := (0, 0)) (by rw [hw']; exact ha) ?_)
          simpa using hfl
      · have h0 : q.2 = 0 := by omega
        have hl0 : len = 0 := by omega
        have he0 : es = [] := List.eq_nil_of_length_eq_zero (by omega)
        subst hl0
        subst he0
        by_cases hnn : news = []
        · have hu := nil_of hnn
          subst hnn; subst hu
          have hrun := append_none (A := A) (x := x) (ty := ty) hτ hte ht g1 hs
          have hsd := sat.drop i j
          have hfd : Γ.Fr ρ I (os.put i j .gone) w := ⟨fr.wos, fr.tape, fr.output, fr.size, fr.kept, by rw [length_put]; exact fr.len, fr.same, fr.imle, fr.imnew, by
            rintro b ⟨a, c', q', hn', hq', hqp, rfl⟩
            refine fr.obnew _ ⟨a, c', q', ?_, hq', hqp, rfl⟩
            by_cases hc : a = i ∧ c' = j
            · obtain ⟨rfl, rfl⟩ := hc; exact hne
            · rwa [at_put_ne _ _ _ _ hc] at hn'⟩
          refine ⟨_, w, hrun, _, _, _, I, hsd.new (fun b _ => rfl) 0 (.row t' te.size p []) ⟨Nat.le_refl _, by simp, fun h => by omega⟩, hfd.new ⟨rfl, rfl, rfl, Nat.le_refl _⟩ (fun b _ => rfl) 0 _, Pl.le_new (fun j => sat.dom _ _ (by rw [length_put]; exact Nat.le_refl _)), Im.le_refl _, ?_, by simpa using h⟩
          rw [rep]
          refine ⟨(w.heap.size, 0), A, q.2, by have := Pl.new_self ρ (os.put i j .gone).length (w.heap.size, 0); rwa [length_put] at this ⊢, rfl, by omega, g2, by simp; omega, by simp; omega, fun h => by simp at h⟩
        · have hpos' : 0 < news.length := List.length_pos_iff.2 hnn
          exact grow [] (repL_nil.2 rfl) (fun u hu => by cases hu) (fun w' _ => firstCells_zero) (by omega)
    | some c' =>
      dsimp only at h g4
      subst g4
      obtain ⟨hcl, h1, h2⟩ := h
      subst hcl
      by_cases hn : news = []
      · have hu := nil_of hn
        subst hn; subst hu
        exact ⟨_, w, append_none hτ hte ht g1 hs, Goes.same sat fr hv' (h1 rfl)⟩
      · obtain ⟨b1, b2, b3, h⟩ := h2 hn
        have hpos' : 0 < news.length := List.length_pos_iff.2 hn
        by_cases hpos : 0 < q.2
        · obtain ⟨arr, olds, ha, hsa, ho, hof, hfl⟩ := k3 hpos
          have hol : olds.length = es.length := repL_length ho
          have hof' : ∀ u ∈ (olds.drop lo).take c, Value.fine u te.size := fun u hu => hof u (List.mem_of_mem_drop (List.mem_of_mem_take hu))
          have hol' : ((olds.drop lo).take c).length = c := by simp; omega
          rw [← hul] at hs
          refine append_grow hτ sat fr hte ht hz hsz (A := A) (len := c) (cap := c) (olds := (olds.drop lo).take c) (us := us) (pr := p && D.pureL news) (es := (es.drop lo).take c ++ news) ?_ hol' hof' hf hs (by omega) (by rw [hul]; omega) (by omega) ?_ (by simpa [hul] using h)
          · intro w' hw'
            rw [gA hpos]
            refine firstCells_lies hof' hol' (Lies.of_block (arr := arr) (t := t') (fz := (0, 0)) (by rw [hw']; exact ha) ?_)
            have := cut_flat (sz := te.size) (cs := arr.toList) (o := 0) lo (lo + c) hof (by rw [List.length_take]; omega) (by simpa using hfl)
            rw [List.drop_take, show lo + c - lo = c by omega, Nat.zero_add] at this
            exact this
          · have hr1 := repL_take c (repL_drop lo ho)
            cases hp : p
            · rw [hp] at hr1; exact repL_append hr1 hr
            · rw [hp] at hr1
              cases hp2 : D.pureL news
              · exact repL_append (repL_bot hr1) hr
              · exact repL_append hr1 (repL_pure _ _ hp2 hr)
        · have h0 : c = 0 := by omega
          subst h0
          rw [← hul] at hs
          refine append_grow hτ sat fr hte ht hz hsz (A := A) (len := 0) (cap := 0) (olds := []) (us := us) (pr := p && D.pureL news) (es := (es.drop lo).take 0 ++ news) (fun w' _ => firstCells_zero) rfl (fun u hu => by cases hu) hf hs (by omega) (by rw [hul]; omega) (by omega) ?_ (by simpa [hul] using h)
          simp only [List.take_zero, List.nil_append]
          cases hp : p
          · exact hr
          · cases hp2 : D.pureL news
            · exact hr
            · exact repL_pure _ _ hp2 hr
end ops
end Go.Proofs.Ytaplihoeephbeaa.V
