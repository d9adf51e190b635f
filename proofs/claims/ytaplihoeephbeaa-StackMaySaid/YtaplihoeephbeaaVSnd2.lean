/- VSnd2: a text of a symbolic executor that is proved sound, and contracts that are proved with it. -/
import Derived.Test.YtaplihoeephbeaaVSnd1
namespace Go.Proofs.Ytaplihoeephbeaa.V
open Go Go.RowKit
set_option linter.unusedVariables false

def Goes (Γ : Ctx) (ρ : Pl) (I : Im) (K : D → Objs → Prop) (v : Value) (w' : World) : Prop :=
  ∃ d os' ρ' I', Sat ρ' I' os' w' ∧ Γ.Fr ρ' I' os' w' ∧ ρ.le ρ' ∧ I.le I' ∧ rep ρ' I' d v ∧ K d os'
theorem Goes.same {Γ : Ctx} {ρ : Pl} {I : Im} {os : Objs} {w : World} {K : D → Objs → Prop} {d : D} {v : Value} (sat : Sat ρ I os w) (fr : Γ.Fr ρ I os w) (h : rep ρ I d v) (hk : K d os) : Goes Γ ρ I K v w :=
  ⟨d, os, ρ, I, sat, fr, Pl.le_refl _, Im.le_refl _, h, hk⟩
def Out (P : Program) (Γ : Ctx) (ρ : Pl) (I : Im) (r : Result Next) (w : World) (K : D → Objs → Prop) : Prop :=
  (∃ v w', (r = .ok (.value v) w' ∨ (r = .ok .skip w' ∧ v = undef)) ∧ Goes Γ ρ I K v w') ∨
  (∃ n vs, r = .ok (.enter n vs) w ∧ Calls P n vs w fun e w' => ∃ v, e = .returned v ∧ Goes Γ ρ I K v w')

theorem maxLen_pos : 1 ≤ maxLen := by simp [maxLen]
/-- A new row. -/
theorem new_row {Γ : Ctx} {ρ : Pl} {I : Im} {os : Objs} {w w' : World} (sat : Sat ρ I os w) (fr : Γ.Fr ρ I os w) {arr : Array Value} {t : TypeId} (hh : w'.heap = w.heap.push (.cells arr t))
    (ho : w'.os = w.os) (htp : w'.tape = w.tape) (hu : w'.output = w.output) {sz C : Nat} {pr : Bool} {es : List D} {us : List Value} (hes : es.length ≤ C) (hC : C ≤ maxLen) (harr : arr.size = C * sz)
    (hr : repL (if pr then bot else ρ) I es us) (hf : ∀ u ∈ us, Value.fine u sz) (hfl : flat us <+: arr.toList) :
    Sat (ρ.new os.length (w.heap.size, C)) I (os ++ [one (.row t sz pr es)]) w' ∧ Γ.Fr (ρ.new os.length (w.heap.size, C)) I (os ++ [one (.row t sz pr es)]) w' ∧ ρ.le (ρ.new os.length (w.heap.size, C)) := by
  have hle : ρ.le (ρ.new os.length (w.heap.size, C)) := Pl.le_new (fun j => sat.dom _ _ (Nat.le_refl _))
  have hold : ∀ b, b < w.heap.size → w'.heap[b]? = w.heap[b]? := fun b hb => by rw [hh, Array.getElem?_push, if_neg (by omega)]
  refine ⟨sat.new hold C _ ⟨hes, hC, fun _ => ⟨arr, us, by rw [hh]; simp, harr, ?_, hf, hfl⟩⟩, fr.new ⟨ho, htp, hu, by rw [hh]; simp⟩ hold C _, hle⟩
  cases pr
  · exact repL_mono hle (Im.le_refl _) _ _ hr
  · exact hr

/-- A new row that is only read. -/
theorem new_only {Γ : Ctx} {ρ : Pl} {I : Im} {os : Objs} {w w' : World} (sat : Sat ρ I os w) (fr : Γ.Fr ρ I os w) {arr : Array Value} {t : TypeId} (hh : w'.heap = w.heap.push (.cells arr t))
    (ho : w'.os = w.os) (htp : w'.tape = w.tape) (hu : w'.output = w.output) :
    ∃ I', I' w.heap.size = some (.cells arr t (0, 0)) ∧ I.le I' ∧ Sat ρ I' os w' ∧ Γ.Fr ρ I' os w' := by
  have hold : ∀ b, b < w.heap.size → w'.heap[b]? = w.heap[b]? := fun b hb => by rw [hh, Array.getElem?_push, if_neg (by omega)]
  have hle : I.le (fun b => if b = w.heap.size then some (.cells arr t (0, 0)) else I b) := fun b o hb => by
    have := sat.im_lt hb
    simp [Nat.ne_of_lt this, hb]
  refine ⟨fun b => if b = w.heap.size then some (.cells arr t (0, 0)) else I b, by simp, hle, ⟨fun b o hb => ?_, fun i j hne => ?_, sat.inj, fun b hb => ?_, sat.dom⟩,
    ⟨ho.trans fr.wos, htp.trans fr.tape, hu.trans fr.output, by rw [hh]; simp; have := fr.size; omega, fun b hb hf => by rw [hold b (Nat.lt_of_lt_of_le hb fr.size)]; exact fr.kept b hb hf, fr.len, fr.same, Im.le_trans fr.imle hle, fun b hb => ?_, fr.obnew⟩⟩
  · by_cases e : b = w.heap.size
    · subst e; simp at hb; subst hb; rw [hh]; simp
    · simp [e] at hb; rw [hold b (sat.im_lt hb)]; exact sat.im b o hb
  · obtain ⟨p, hp, hok⟩ := sat.ok i j hne
    exact ⟨p, hp, objOk_mono (Pl.le_refl _) hle (fun hpos => hold _ (objOk_lt hne hpos hok)) hok⟩
  · have := sat.foot_lt hb
    simp [Nat.ne_of_lt this, sat.apart b hb]
  · by_cases e : b = w.heap.size
    · exact .inr (.inr (by rw [e]; exact fr.size))
    · simp [e] at hb; exact fr.imnew b hb

/-- Either way. -/
theorem app_goes {Γ : Ctx} {ρ : Pl} {I : Im} {os : Objs} {w w' : World} {K : D → Objs → Prop} (sat : Sat ρ I os w) (fr : Γ.Fr ρ I os w) {arr : Array Value} {t : TypeId} (hh : w'.heap = w.heap.push (.cells arr t))
    (ho : w'.os = w.os) (htp : w'.tape = w.tape) (hu : w'.output = w.output) {sz C len : Nat} {pr : Bool} {es : List D} {us : List Value} (hes : es.length = len) (hlC : len ≤ C) (hC : C ≤ maxLen) (harr : arr.size = C * sz)
    (hr : repL (if pr then bot else ρ) I es us) (hf : ∀ u ∈ us, Value.fine u sz) (hfl : flat us <+: arr.toList) (h : App K os t sz len pr es) : Goes Γ ρ I K (.slice (some ⟨w.heap.size, 0, none⟩) len C) w' := by
  cases h with
  | own h =>
    obtain ⟨k1, k2, k3⟩ := new_row (sz := sz) (pr := pr) (es := es) (us := us) sat fr hh ho htp hu (by omega) hC harr hr hf hfl
    refine ⟨_, _, _, _, k1, k2, k3, Im.le_refl _, ?_, h⟩
    rw [rep]
    exact ⟨_, _, _, Pl.new_self _ _ _, rfl, hlC, hC, by simp, by simp, fun _ => by simp⟩
  | only full hfu hp h =>
    subst hfu hp
    obtain ⟨I', h1, h2, h3, h4⟩ := new_only sat fr hh ho htp hu
    refine ⟨_, _, ρ, I', h3, h4, Pl.le_refl _, h2, ?_, h⟩
    rw [rep]
    exact ⟨_, C, us, by rw [hes], by omega, hC, (fun h => by simp at h), repL_mono (Pl.le_refl _) h2 _ _ hr, hf, .inr ⟨w.heap.size, 0, arr, t, (0, 0), rfl, h1, by simpa using hfl⟩⟩

section ops
variable {P : Program} {τ : Tau} {Γ : Ctx} {ρ : Pl} {I : Im} {os : Objs} {w : World} {get : Nat → D} {a : Act} {K : D → Objs → Prop}

theorem snd_alloc (hτ : TauOk P τ) (sat : Sat ρ I os w) (fr : Γ.Fr ρ I os w) {t : TypeId} {ti : TI} (ht : τ t = some ti) (hz : ti.zero.isJunk = false)
    (h : K (.ptr os.length 0 ti.size 0 0) (os ++ [one (.row t ti.size false [ti.zero])])) : ∃ v w', (Instr.alloc t true (.tuple #[])).run P w = .ok v w' ∧ Goes Γ ρ I K v w' := by
  obtain ⟨i, d, hty⟩ := hτ t ti ht
  rcases hty.zero with e | ⟨z, hz1, hz2, hz3⟩
  · rw [e] at hz; simp [D.isJunk] at hz
  · obtain ⟨h1, h2, h3⟩ := new_row (pr := false) (w' := w.alloc (.cells z.cells t)) sat fr (arr := z.cells) (t := t) rfl rfl rfl rfl (sz := ti.size) (C := 1) (es := [ti.zero]) (us := [z]) (Nat.le_refl _) maxLen_pos
      (by rw [hz3.1]; omega) (repL_cons.2 ⟨z, [], rfl, hz2 _ _, repL_nil.2 rfl⟩) (by simpa using hz3) (by simp [flat])
    refine ⟨.pointer (some ⟨w.heap.size, 0, none⟩), w.alloc (.cells z.cells t), ?_, _, _, _, _, h1, h2, h3, Im.le_refl _, ?_, h⟩
    · simp [Instr.alloc, zeroValue, typeInfo, hty.info, hz1, newVar, newRow]
    · rw [rep]; exact ⟨_, Pl.new_self _ _ _, by simp, by simp⟩

theorem snd_box (sat : Sat ρ I os w) (fr : Γ.Fr ρ I os w) (t : TypeId) {d : D} {v : Value} (hv : rep ρ I d v) (h1 : d.cells.all D.one = true)
    (h : K (.ptr os.length 0 d.cells.length 0 0) (os ++ [one (.row t d.cells.length false [d])])) : ∃ v' w', (Instr.box t v).run P w = .ok v' w' ∧ Goes Γ ρ I K v' w' := by
  have hj : d ≠ .junk := fun e => by subst e; simp [D.cells, D.one] at h1
  have hc := rep_cells hj hv
  have hlen : v.cells.size = d.cells.length := by simpa using repL_length hc
  obtain ⟨k1, k2, k3⟩ := new_row (pr := false) (w' := w.alloc (.cells v.cells t)) sat fr (arr := v.cells) (t := t) rfl rfl rfl rfl (sz := d.cells.length) (C := 1) (es := [d]) (us := [v]) (Nat.le_refl _) maxLen_pos
      (by rw [hlen]; omega) (repL_cons.2 ⟨v, [], rfl, hv, repL_nil.2 rfl⟩) (by simpa using ⟨hlen, by simpa using repL_one h1 hc⟩) (by simp [flat])
  refine ⟨.pointer (some ⟨w.heap.size, 0, none⟩), w.alloc (.cells v.cells t), ?_, _, _, _, _, k1, k2, k3, Im.le_refl _, ?_, h⟩
  · simp [Instr.box, newVar, newRow]
  · rw [rep]; exact ⟨_, Pl.new_self _ _ _, by simp, by simp⟩

theorem row_at (sat : Sat ρ I os w) {i j sz e off : Nat} {v : Value} (hv : rep ρ I (.ptr i j sz e off) v) {t : TypeId} {p : Bool} {es : List D} (hat : os.at i j = .row t sz p es) :
    ∃ q arr us, ρ i j = some q ∧ 0 < q.2 ∧ v = .pointer (some ⟨q.1, e * sz + off, none⟩) ∧ w.heap[q.1]? = some (.cells arr t (0, 0)) ∧ arr.size = q.2 * sz ∧
      repL (if p then bot else ρ) I es us ∧ (∀ u ∈ us, Value.fine u sz) ∧ flat us <+: arr.toList ∧ es.length ≤ q.2 ∧ q.2 ≤ maxLen := by
  rw [rep] at hv
  obtain ⟨q, hq, hpos, rfl⟩ := hv
  obtain ⟨q', hq', hok⟩ := sat.ok i j (by rw [hat]; simp)
  rw [hq] at hq'; cases hq'
  rw [hat] at hok
  obtain ⟨h1, h2, h3⟩ := hok
  obtain ⟨arr, us, ha, hs, hr, hf, hfl⟩ := h3 hpos
  exact ⟨q, arr, us, hq, hpos, rfl, ha, hs, hr, hf, hfl, h1, h2⟩

theorem rep_if {p : Bool} {d : D} {v : Value} (h : rep (if p then bot else ρ) I d v) : rep ρ I d v := by
  cases p
  · exact h
  · exact rep_bot h
theorem repL_if {p : Bool} {ds : List D} {vs : List Value} (h : repL (if p then bot else ρ) I ds vs) : repL ρ I ds vs := by
  cases p
  · exact h
  · exact repL_bot h
theorem not_junk_of_cells {d : D} {c : List D} (h : d.cells.all D.one = true) : d ≠ .junk := fun e => by subst e; simp [D.cells, D.one] at h

/-- The cells of an element lie where they must. -/
theorem elem_lies {arr : Array Value} {t : TypeId} {fz : Nat × Nat} {b o sz e : Nat} {us : List Value} {u : Value} (hb : w.heap[b]? = some (.cells arr t fz)) (hfl : flat us <+: arr.toList.drop o) (hf : ∀ u ∈ us, u.cells.size = sz) (hu : us[e]? = some u) :
    Lies w b (o + e * sz) u.cells.toList := by
  intro k c hc
  have := elem_cells hf hfl hu hc
  rw [List.getElem?_drop] at this
  simp only [World.cell?, hb]
  rw [show o + e * sz + k = o + (e * sz + k) by omega]
  simpa using this

theorem load_run (hτ : TauOk P τ) (sat : Sat ρ I os w) {t : TypeId} {x : D} {v : Value} (hv : rep ρ I x v)
    (h : vcLoad τ t x os K) : ∃ v' d, (Instr.loadAt t v).run P w = .ok v' w ∧ rep ρ I d v' ∧ K d os := by
  cases x <;> try exact h.elim
  case ptr i j sz e off =>
    simp only [vcLoad] at h
    cases hat : os.at i j with
    | gone => rw [hat] at h; exact h.elim
    | map _ => rw [hat] at h; exact h.elim
    | row t' sz' p es =>
      rw [hat] at h
      dsimp only at h
      split at h
      · rename_i hsz; subst hsz
        obtain ⟨d, hd, h⟩ := Opt.iff.1 h
        obtain ⟨q, arr, us, hq, hpos, rfl, ha, hs, hr, hf, hfl, _, _⟩ := row_at sat hv hat
        obtain ⟨u, hu, hdu⟩ := repL_get hr hd
        have hl := elem_lies (w := w) (o := 0) ha (by simpa using hfl) (fun u hu => (hf u hu).1) hu
        unfold ldOf at h
        cases hj : d.isJunk with
        | true => rw [hj] at h; exact h.elim
        | false =>
          rw [hj] at h
          simp only [cond_false] at h
          have hc := rep_cells (fun e => by subst e; simp [D.isJunk] at hj) (rep_if hdu)
          obtain ⟨d', v', hk, hrep, hrun⟩ := ldPart_run hτ h hc (by simpa using hl)
          exact ⟨v', d', hrun, hrep, hk⟩
      · exact h.elim
  case pel d off =>
    rw [rep] at hv
    obtain ⟨b, o, arr, t', fz, u, rfl, hb, hx, hp⟩ := hv
    simp only [vcLoad, ldOf] at h
    cases hj : d.isJunk with
    | true => rw [hj] at h; exact h.elim
    | false =>
      rw [hj] at h
      simp only [cond_false] at h
      have hc := rep_cells (fun e => by subst e; simp [D.isJunk] at hj) (rep_bot (ρ := ρ) hx)
      obtain ⟨d', v', hk, hrep, hrun⟩ := ldPart_run hτ h hc (Lies.of_block (sat.im _ _ hb) hp)
      exact ⟨v', d', hrun, hrep, hk⟩
theorem snd_load (hτ : TauOk P τ) (sat : Sat ρ I os w) (fr : Γ.Fr ρ I os w) {t : TypeId} {x : D} {v : Value} (hv : rep ρ I x v)
    (h : vcLoad τ t x os K) : ∃ v' w', (Instr.loadAt t v).run P w = .ok v' w' ∧ Goes Γ ρ I K v' w' := by
  obtain ⟨v', d, hrun, hrep, hk⟩ := load_run (P := P) hτ sat hv h
  exact ⟨v', w, hrun, Goes.same sat fr hrep hk⟩
end ops
end Go.Proofs.Ytaplihoeephbeaa.V
