/- VSnd3: a text of a symbolic executor that is proved sound, and contracts that are proved with it. -/
import Derived.Test.YtaplihoeephbeaaVSnd2
namespace Go.Proofs.Ytaplihoeephbeaa.V
open Go Go.RowKit
set_option linter.unusedVariables false

theorem splice_in {α : Type} (a c r vs : List α) (n off : Nat) (ha : a.length = n) (hk : off + vs.length ≤ c.length) :
    (a ++ (c ++ r)).take (n + off) ++ vs ++ (a ++ (c ++ r)).drop (n + off + vs.length) = a ++ ((c.take off ++ (vs ++ c.drop (off + vs.length))) ++ r) := by
  subst ha
  have e1 : (a ++ (c ++ r)).take (a.length + off) = a ++ c.take off := by
    rw [List.take_append, List.take_of_length_le (by omega), show a.length + off - a.length = off by omega, List.take_append_of_le_length (by omega)]
  have e2 : (a ++ (c ++ r)).drop (a.length + off + vs.length) = c.drop (off + vs.length) ++ r := by
    rw [Nat.add_assoc, List.drop_append, List.drop_of_length_le (by omega), show a.length + (off + vs.length) - a.length = off + vs.length by omega, List.drop_append_of_le_length (by omega)]
    rfl
  rw [e1, e2]
  simp [List.append_assoc]

theorem turn_setRow (w : World) (g : Nat) (c : Array Value) : Turn w (w.setRow g c) := ⟨rfl, rfl, rfl, by simp [World.setRow]⟩

section ops
variable {P : Program} {τ : Tau} {Γ : Ctx} {ρ : Pl} {I : Im} {os : Objs} {w : World} {get : Nat → D} {a : Act} {K : D → Objs → Prop}

theorem rep_undef {ρ : Pl} {I : Im} : rep ρ I (.tup []) undef := by rw [rep]; exact ⟨#[], rfl, repL_nil.2 rfl⟩

theorem mul_add_le {e q sz k : Nat} (h : e < q) (hk : k ≤ sz) : e * sz + k ≤ q * sz := by
  have := Nat.mul_le_mul_right sz (Nat.succ_le_of_lt h)
  rw [Nat.succ_mul] at this
  omega

theorem snd_store (hτ : TauOk P τ) (sat : Sat ρ I os w) (fr : Γ.Fr ρ I os w) {t : TypeId} {x y : D} {vx vy : Value} (hx : rep ρ I x vx) (hy : rep ρ I y vy)
    (h : vcStore τ t x y os K) : ∃ w', (Instr.storeAt t vx vy).run P w = .ok () w' ∧ Goes Γ ρ I K undef w' := by
  cases x <;> try exact h.elim
  case ptr i j sz e off =>
  simp only [vcStore] at h
  cases hat : os.at i j with
  | gone => rw [hat] at h; exact h.elim
  | map _ => rw [hat] at h; exact h.elim
  | row t' sz' p es =>
  rw [hat] at h
  dsimp only at h
  split at h
  case isFalse => exact h.elim
  rename_i hsz; subst hsz
  obtain ⟨d, hd, h⟩ := Opt.iff.1 h
  rw [D.force_eq] at h
  cases ht : τ t with
  | none => rw [ht] at h; exact h.elim
  | some ti =>
  rw [ht] at h
  dsimp only at h
  cases hb : ((y.cells.all D.one && !d.isJunk) && Nat.ble 1 ti.size && (Nat.beq y.cells.length ti.size && (Nat.ble (off + ti.size) d.cells.length && D.isPure p y.cells))) with
  | false => rw [hb] at h; exact h.elim
  | true =>
  rw [hb] at h
  simp only [cond_true] at h
  rw [D.deep_eq] at h
  simp only [Bool.and_eq_true] at hb
  obtain ⟨⟨⟨hone, hjk⟩, hpos0⟩, hlen, hfit, hpure⟩ := hb
  have hpos0 : 1 ≤ ti.size := Nat.le_of_ble_eq_true hpos0
  have hlen := Nat.eq_of_beq_eq_true hlen
  have hfit := Nat.le_of_ble_eq_true hfit
  have hj : d ≠ .junk := fun e => by subst e; simp [D.isJunk] at hjk
  obtain ⟨q, arr, us, hq, hpos, rfl, ha, hs, hr, hf, hfl, hes, hC⟩ := row_at sat hx hat
  obtain ⟨u, hu, hdu⟩ := repL_get hr hd
  obtain ⟨i', dd, hty⟩ := hτ t ti ht
  have hjy : y ≠ .junk := not_junk_of_cells (c := []) hone
  have hcy := rep_cells hjy hy
  have hvl : vy.cells.toList.length = ti.size := by have := repL_length hcy; omega
  have hcone := repL_one hone hcy
  have hlt : e < us.length := (List.getElem?_eq_some_iff.1 hu).1
  have husl : us.length = es.length := repL_length hr
  have hum : u ∈ us := List.mem_of_getElem? hu
  have hcu := rep_cells hj hdu
  have hul : u.cells.toList.length = d.cells.length := repL_length hcu
  have hus : u.cells.toList.length = sz' := by simpa using (hf u hum).1
  have hroom : e * sz' + off + vy.cells.toList.length ≤ arr.size := by
    rw [hs]
    have := mul_add_le (e := e) (q := q.2) (sz := sz') (k := off + ti.size) (by omega) (by omega)
    omega
  have hst := run_storeCells_at P q.1 (e * sz' + off) t' vy.cells.toList 0 arr w ha (by simpa using hroom) hcone
  simp only [Nat.add_zero] at hst
  have hrun : (Instr.storeAt t (.pointer (some ⟨q.1, e * sz' + off, none⟩)) vy).run P w = .ok () (w.setRow q.1 (arr.toList.take (e * sz' + off) ++ vy.cells.toList ++ arr.toList.drop (e * sz' + off + vy.cells.toList.length)).toArray) := by
    have hsz2 : vy.cells.size = ti.size := by simpa using hvl
    simp [Instr.storeAt, Instr.sureAddr, storeVar, sizeOf, typeInfo, hty.info, hty.size, hsz2]
    simpa [hvl] using hst
  -- the element that is there now
  obtain ⟨u', hu'1, hu'2⟩ : ∃ u' : Value, u'.cells.toList = u.cells.toList.take off ++ (vy.cells.toList ++ u.cells.toList.drop (off + vy.cells.toList.length)) ∧ rep (if p then bot else ρ) I (d.upd off y.cells) u' := by
    have hcy' : repL (if p then bot else ρ) I y.cells vy.cells.toList := by
      cases p
      · exact hcy
      · exact repL_pure _ _ (by simpa [D.isPure] using hpure) hcy
    cases d with
    | agg cs =>
      refine ⟨.agg (u.cells.toList.take off ++ (vy.cells.toList ++ u.cells.toList.drop (off + vy.cells.toList.length))).toArray, by simp [Value.cells], ?_⟩
      simp only [D.upd]
      rw [rep]
      refine ⟨_, rfl, ?_⟩
      have h3 : repL (if p then bot else ρ) I cs u.cells.toList := hcu
      have := repL_append (repL_take off h3) (repL_append hcy' (repL_drop (off + ti.size) h3))
      rw [hlen]
      simpa only [hvl] using this
    | junk => exact absurd rfl hj
    | _ =>
      all_goals
        have h1 : off = 0 := by simp [D.cells] at hfit; omega
        have h2 : ti.size = 1 := by simp [D.cells] at hfit; omega
        subst h1
        obtain ⟨yc, hyc⟩ : ∃ yc, y.cells = [yc] := by
          have : y.cells.length = 1 := by omega
          exact List.length_eq_one_iff.1 this
        rw [hyc] at hcy'
        obtain ⟨c, r, hce, hcr, hrr⟩ := repL_cons.1 hcy'
        rw [repL_nil] at hrr
        subst hrr
        have hcc : c.cells.toList = [c] := by
          have := hcone c (by rw [hce]; simp)
          cases c <;> simp [Value.oneCell'] at this <;> rfl
        refine ⟨c, ?_, ?_⟩
        · rw [hce, hcc, List.take_zero, List.nil_append]
          rw [List.drop_of_length_le (by simp [D.cells] at hul; simp; omega)]
          rfl
        · simp only [D.upd, hyc, List.headD]
          exact hcr
  have hf' : ∀ v ∈ us.set e u', Value.fine v sz' := by
    intro v hv
    rcases List.mem_or_eq_of_mem_set hv with hv | rfl
    · exact hf v hv
    · refine ⟨?_, ?_⟩
      · have : v.cells.toList.length = sz' := by
          rw [hu'1, List.length_append, List.length_append, List.length_take, List.length_drop]; omega
        simpa using this
      · intro c hc
        rw [hu'1] at hc
        rcases List.mem_append.1 hc with hc | hc
        · exact (hf u hum).2 c (List.mem_of_mem_take hc)
        · rcases List.mem_append.1 hc with hc | hc
          · exact hcone c hc
          · exact (hf u hum).2 c (List.mem_of_mem_drop hc)
  have hfl' : flat (us.set e u') <+: arr.toList.take (e * sz' + off) ++ vy.cells.toList ++ arr.toList.drop (e * sz' + off + vy.cells.toList.length) := by
    obtain ⟨rest, hrest⟩ := hfl
    obtain ⟨A, B, hAB, hAl, _, _⟩ := flat_split (fun u hu => (hf u hu).1) hu
    have hset := flat_set (v := u') (fun u hu => (hf u hu).1) hu (hf' u' (by
      refine List.mem_iff_getElem.2 ⟨e, by simpa using hlt, by simp⟩)).1
    have hA : (flat us).take (e * sz') = A := by rw [hAB, ← hAl]; exact List.take_left
    have hB : (flat us).drop (e * sz' + sz') = B := by
      rw [hAB, ← List.append_assoc, show e * sz' + sz' = (A ++ u.cells.toList).length by rw [List.length_append, hAl, hus]]; exact List.drop_left
    rw [hset, hA, hB, ← hrest, hAB, hu'1]
    have := splice_in A u.cells.toList (B ++ rest) vy.cells.toList (e * sz') off hAl (by omega)
    rw [show A ++ (u.cells.toList ++ B) ++ rest = A ++ (u.cells.toList ++ (B ++ rest)) by simp [List.append_assoc], this]
    refine ⟨rest, by simp [List.append_assoc]⟩
  have hne : os.at i j ≠ .gone := by rw [hat]; simp
  have hoth : ∀ b, b ≠ q.1 → (w.setRow q.1 (arr.toList.take (e * sz' + off) ++ vy.cells.toList ++ arr.toList.drop (e * sz' + off + vy.cells.toList.length)).toArray).heap[b]? = w.heap[b]? := fun b hb => setRow_other w q.1 b _ hb
  refine ⟨_, hrun, _, _, ρ, I, sat.write hne hq hpos hoth (.row t' sz' p (es.set e (d.upd off y.cells))) (fun _ => ⟨by simpa using hes, hC, fun _ => ⟨_, us.set e u', setRow_heap w q.1 arr _ t' _ ha, ?_, repL_set e hr hu'2, hf', by simpa using hfl'⟩⟩),
    fr.write (turn_setRow _ _ _) hne hq hpos hoth _, Pl.le_refl _, Im.le_refl _, rep_undef, h⟩
  simp only [List.size_toArray, List.length_append, List.length_take, List.length_drop, Array.length_toList]
  rw [← hs]
  simp only [Array.length_toList] at hroom ⊢
  omega
end ops
end Go.Proofs.Ytaplihoeephbeaa.V
