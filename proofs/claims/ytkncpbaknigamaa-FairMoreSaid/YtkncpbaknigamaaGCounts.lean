/- How often each worker is picked: what fair.Counts comes to, over the places that fair.Each tells. -/
import Derived.Test.YtkncpbaknigamaaGEach
import Derived.RangeFuncWrites
import Derived.Shelf.RegionOpen
namespace Go.Proofs.Ytkncpbaknigamaa.PFair
open Go.RowKit Go.Shelf Go.Proofs.YtkncpbaknigamaaW.PrintWords Go.Proofs.YtkncpbaknigamaaW.PrintLast Go.Proofs.YtkncpbaknigamaaW.PrintMore Go.Proofs.Ytkncpbaknigamaa.FairMath Go.Proofs.Ytkncpbaknigamaa.GEach
attribute [local go_sem] Oper.semAt_some

def fair_Counts.f (l0 : List Int) (a1 : Int) : Option (List Int) := if l0.length ≤ 10000 then some (tally l0 (Many a1) (pl l0 (Many a1) l0.length)) else none

/-- What holds between two rounds. -/
def CSt (w : World) (A : Option Addr) (c0 : Nat) (zs : List Int) (M : Nat) (xs : List Int) (W : World) : Prop :=
  xs.length = M ∧ Boxed W w.heap.size 22 (.slice A zs.length c0) ∧ Boxed W (w.heap.size + 1 + 1) 22 (.slice (some ⟨w.heap.size + 1, 0, none⟩) M M) ∧ W.ownsRow w.heap.size 3 1 (.slice (some ⟨w.heap.size + 1, 0, none⟩) M M) M (nums .i64 xs) ∧ Ints (· < w.heap.size) W A zs ∧ Below w.heap.size w W ∧ w.heap.size + 5 ≤ W.heap.size
section
variable {w : World} {A : Option Addr} {c0 : Nat} {zs : List Int} {M : Nat} {xs : List Int} {W W' : World}
theorem CSt.move (h : CSt w A c0 zs M xs W) (hb : Below (w.heap.size + 5) W W') : CSt w A c0 zs M xs W' := by
  obtain ⟨h0, h1, h2, h3, h4, h5, h6⟩ := h
  have hb0 : Below w.heap.size W W' := ⟨hb.os, hb.tape, hb.output, hb.size, fun k hk => hb.block k (by omega)⟩
  refine ⟨h0, (hb.block _ (by omega)).trans h1, (hb.block _ (by omega)).trans h2, own_move h3 (fun k hk => ?_), h4.keep (Keeps.of_below hb0 (fun _ h => h)), h5.trans hb0, Nat.le_trans h6 hb.size⟩
  have : w.heap.size + 1 = k := by simpa [Value.ownBlock] using hk
  exact hb.block k (by omega)
theorem CSt.drew (h : CSt w A c0 zs M xs W) : CSt w A c0 zs M xs W.drew := h.move (below_drew (Below.refl _ _))
theorem CSt.bump (h : CSt w A c0 zs M xs W) (p : Pos zs M) : CSt w A c0 zs M (GEach.bump zs xs p.1) (W.setCell ⟨w.heap.size + 1, (zs[p.1]?.getD 0).toNat, none⟩ (.int .i64 (xs.getD (zs[p.1]?.getD 0).toNat 0 + 1))) := by
  obtain ⟨h0, h1, h2, h3, h4, h5, h6⟩ := h
  have far : ∀ k, k ≠ w.heap.size + 1 → (W.setCell ⟨w.heap.size + 1, (zs[p.1]?.getD 0).toNat, none⟩ (.int .i64 (xs.getD (zs[p.1]?.getD 0).toNat 0 + 1))).heap[k]? = W.heap[k]? := fun k hk => Below.heap_setCell W _ _ k hk
  refine ⟨by simp [GEach.bump, h0], (far _ (by omega)).trans h1, (far _ (by omega)).trans h2, ?_, h4.keep (fun k hk => far k (by omega)), h5.setCell (p := ⟨w.heap.size + 1, (zs[p.1]?.getD 0).toNat, none⟩) (by simp) _, by simpa using h6⟩
  have := (own_store h3 (zs[p.1]?.getD 0) (xs.getD (zs[p.1]?.getD 0).toNat 0 + 1)).1
  simpa [GEach.bump, h0] using this
/-- What the body reads and writes. -/
theorem CSt.look (h : CSt w A c0 zs M xs W) (p : Pos zs M) : ∃ ad : Addr, A = some ad ∧ W.cell? ⟨w.heap.size, 0, none⟩ = some (.slice (some ad) zs.length c0) ∧ W.cell? ⟨w.heap.size + 1 + 1, 0, none⟩ = some (.slice (some ⟨w.heap.size + 1, 0, none⟩) M M) ∧
    W.cell? (ad.add p.1) = some (.int .i64 (zs[p.1]?.getD 0)) ∧ W.cell? ⟨w.heap.size + 1, (zs[p.1]?.getD 0).toNat, none⟩ = some (.int .i64 (xs.getD (zs[p.1]?.getD 0).toNat 0)) ∧ W.frozen? ⟨w.heap.size + 1, (zs[p.1]?.getD 0).toNat, none⟩ = false := by
  obtain ⟨h0, h1, h2, h3, h4, h5, h6⟩ := h
  have hp := p.2
  rcases h4 with e | ⟨ad, rfl, hc⟩
  · subst e; simp at hp
  · have ha := own_at h3 (zs[p.1]?.getD 0) hp.2.1 hp.2.2
    exact ⟨ad, rfl, h1.cell, h2.cell, (hc p.1 hp.1).2, by simpa [rd] using ha.1, ha.2⟩
end

theorem set_getD (xs : List Int) (c j : Nat) (v : Int) : (xs.set c v).getD j 0 = if c = j ∧ j < xs.length then v else xs.getD j 0 := by
  rw [List.getD_eq_getElem?_getD, List.getD_eq_getElem?_getD, List.getElem?_set]
  by_cases h : c = j
  · subst h
    by_cases hl : c < xs.length
    · simp [hl]
    · simp [hl]
  · simp [h]
theorem tally_le (zs : List Int) (M : Nat) : ∀ (n : Nat) (is : List Nat) (j : Nat), is.length = n → 0 ≤ (tally zs M is).getD j 0 ∧ (tally zs M is).getD j 0 ≤ (n : Int)
  | 0, is, j, h => by
    obtain rfl := List.length_eq_zero_iff.1 h
    simp [tally, List.getD_eq_getElem?_getD, List.getElem?_replicate]; split <;> simp
  | n + 1, is, j, h => by
    rcases List.eq_nil_or_concat is with rfl | ⟨is', i, rfl⟩
    · simp at h
    · have hn : is'.length = n := by simpa using h
      rw [List.concat_eq_append, tally_snoc]
      unfold GEach.bump
      rw [set_getD]
      have a := tally_le zs M n is' j hn
      have b := tally_le zs M n is' (zs[i]?.getD 0).toNat hn
      split <;> omega

set_option maxRecDepth 100000 in
set_option maxHeartbeats 4000000 in
theorem fair_Counts.walk (n : Nat) (hn : 3 ≤ n) (A : Option Addr) (c0 : Nat) (zs : List Int) (workers : Int) (M : Nat) (hM : M ≤ 64) (hmany : ∀ w, Calls Try.prog 46 #[.int .i64 workers] w fun e w' => e = .returned (.int .i64 (M : Int)) ∧ w' = w) (hreach : zs.length ≤ 10000) (w : World) (hI : Ints (· < w.heap.size) w A zs) :
    CallsIn Fence.wide n Try.prog 24 #[.slice A zs.length c0, .int .i64 workers] w fun e w' => ∃ g : Nat, e = .returned (.slice (some ⟨g, 0, none⟩) M M) ∧ w'.ownsRow w.heap.size 3 1 (.slice (some ⟨g, 0, none⟩) M M) M (nums .i64 (tally zs M (pl zs M zs.length))) ∧ Below w.heap.size w w' := by
  have h1 : 1 ≤ n := by omega
  have hmk := fun W => print_make (P := Try.prog) 22 3 .i64 8 Try.underlying22 info3 (by omega) M (by omega) W
  refine callsIn_of_wp_marks Try.func24 rfl trivial ?_ rfl
  simp only [Try.ntmps24, List.size_toArray, List.length_cons, List.length_nil, Nat.reduceAdd, Nat.reduceSub, Array.replicate_succ, Array.replicate_zero, List.push_toArray, List.append_toArray, List.nil_append, List.cons_append]
  gi_wp2_with (first | (refine ⟨trivial, ?_⟩; gi_at_call 46; refine (callsIn_wide.2 (hmany _)).mono ?_; rintro e w1 ⟨rfl, rfl⟩) | (refine ⟨trivial, ?_⟩; gi_at_call 22; refine (each_in (n - 1) _ _ _ _ _).mono ?_; rintro e w1 ⟨rfl, rfl⟩))
  clear hmk
  have hst : CSt w A c0 zs M (tally zs M []) (((((w.alloc (Obj.cells #[Value.slice A zs.length c0] 22)).alloc (Obj.cells (madeCells #[Value.int IntKind.i64 0] M) 3)).alloc (Obj.cells #[Value.slice (some { block := w.heap.size + 1, off := 0 }) M M] 22)).alloc (Obj.cells #[Value.slice A zs.length c0] 22)).alloc (Obj.cells #[Value.int IntKind.i64 workers] 3)) := by
    have b1 := Boxed.new w 22 (.slice A zs.length c0)
    have b2 := own_made (w.alloc (.cells #[.slice A zs.length c0] 22)) w.heap.size 3 .i64 M (by simp) (by omega)
    have b3 := Boxed.new ((w.alloc (.cells #[.slice A zs.length c0] 22)).alloc (.cells (madeCells #[.int .i64 0] M) 3)) 22 (.slice (some ⟨w.heap.size + 1, 0, none⟩) M M)
    rw [World.size_alloc] at b2 b3
    rw [World.size_alloc] at b3
    have hb : Below w.heap.size w (((((w.alloc (Obj.cells #[Value.slice A zs.length c0] 22)).alloc (Obj.cells (madeCells #[Value.int IntKind.i64 0] M) 3)).alloc (Obj.cells #[Value.slice (some { block := w.heap.size + 1, off := 0 }) M M] 22)).alloc (Obj.cells #[Value.slice A zs.length c0] 22)).alloc (Obj.cells #[Value.int IntKind.i64 workers] 3)) :=
      (((((Below.refl _ _).alloc (Nat.le_refl _) _).alloc (by simp) _).alloc (by simp; omega) _).alloc (by simp; omega) _).alloc (by simp; omega) _
    refine ⟨tally_length _ _ _, (((b1.alloc _).alloc _).alloc _).alloc _, (b3.alloc _).alloc _, ?_, hI.keep (Keeps.of_below hb (fun _ h => h)), hb, by simp⟩
    exact pw_own_below (pw_own_below (pw_own_below b2 (below_alloc (Below.refl _ _) _)) (below_alloc (Below.refl _ _) _)) (below_alloc (Below.refl _ _) _)
  refine wpIn_rangeFunc_ownG rfl h1 (gf := 48) (lb := #[.pointer (some ⟨w.heap.size + 1 + 1 + 1, 0, none⟩), .pointer (some ⟨w.heap.size + 1 + 1 + 1 + 1, 0, none⟩)]) rfl trivial (enters_of Try.func48 (by kernel_rfl) rfl)
    (each_stops (n - 1) (by omega) (w.heap.size + 1 + 1 + 1) (w.heap.size + 1 + 1 + 1 + 1) c0 (fun k => k < w.heap.size ∨ k = w.heap.size + 1 + 1 + 1 ∨ k = w.heap.size + 1 + 1 + 1 + 1) A zs workers M hmany hreach _ (by simp) (by simp) (by simp; omega) ?_ ?_ ?_)
    Keeps.trans (keepsK_b (by simp; omega)) (Below.refl _ _) (fun _ => rfl)
    (fun pre W => CSt w A c0 zs M (tally zs M (pre.map (·.1))) W) (fun _ _ _ => False)
    (ownFrom_of_below (fun s W h => by simp; exact h.2.2.2.2.2.2) (fun s W W' hb h => CSt.move (xs := tally zs M (s.map (·.1))) h (by simpa using hb)))
    (fun _ _ _ _ _ hs _ _ => hs) hst
    (fun x => { tmps := #[Value.slice A zs.length c0, Value.int IntKind.i64 workers,
          Value.pointer (some { block := w.heap.size, off := 0 }), undef, Value.slice none 0 0,
          Value.pointer (some { block := w.heap.size + 1 + 1, off := 0 }), Value.int .i64 (x.1 : Int), Value.int IntKind.i64 workers,
          Value.int IntKind.i64 ↑M, Value.slice (some { block := w.heap.size + 1, off := 0 }) M M,
          Value.slice A zs.length c0, Value.int IntKind.i64 workers,
          Value.func (Fn.func 48) #[]
            #[Value.pointer (some { block := w.heap.size + 1 + 1 + 1, off := 0 }),
              Value.pointer (some { block := w.heap.size + 1 + 1 + 1 + 1, off := 0 })],
          Value.int .i64 (x.1 : Int), undef, undef, undef, undef, undef, undef, undef, undef, undef, undef], defers := [] }) ?assign ?body ?done ?stop
  case assign =>
    intro l x W K hK
    gi_wp2
    exact hK
  case body =>
    rintro l pre x W hs hlen
    obtain ⟨ad, rfl, k1, k2, k3, k4, k5⟩ := hs.look x
    have hx := x.2
    have hb := tally_le zs M pre.length (pre.map (·.1)) (zs[x.1]?.getD 0).toNat (by simp)
    have hbm := hs.bump x
    obtain ⟨v, hv⟩ : ∃ v, (tally zs M (pre.map (·.1))).getD (zs[x.1]?.getD 0).toNat 0 = v := ⟨_, rfl⟩
    obtain ⟨c, hc⟩ : ∃ c, zs[x.1]?.getD 0 = c := ⟨_, rfl⟩
    rw [hv] at k4 hb hbm
    rw [hc] at k3 k4 k5 hx hbm
    have Hbm := Lib.hid hbm
    have Hs := Lib.hid hs
    obtain ⟨i, hi⟩ : ∃ i : Nat, x.1 = i := ⟨_, rfl⟩
    rw [hi] at k3 hx
    clear hbm hs hv hc
    have hx1 := hx.1
    have hx2 := hx.2.1
    have hx3 := hx.2.2
    have hb1 := hb.1
    have hb2 := hb.2
    clear hx hb hmany hI hst
    gi_wp2
    rw [hi]
    clear hi
    have hmx : Try.prog.follows .mixedOrders = true := by kernel_rfl
    gi_region_with_o (fail)
    all_goals gi_wp2
    all_goals
      rw [show IntKind.i64.wrap (v + 1) = v + 1 from IntWalk.i64_in _ (by omega)]
      exact ⟨((KeepsOthers.setCell _ _ _).trans (KeepsOthers.drew _)).from _, (Keeps.setCell W _ _ (by simp)).trans (fun k hk => rfl), by
        show CSt _ _ _ _ _ (tally zs M (List.map (fun x => x.val) (pre ++ [x]))) _
        rw [List.map_append, List.map_singleton, tally_snoc]
        exact Hbm.out.drew⟩
  case done =>
    rintro D ys W hD hS hs hK
    simp at hD
    rw [hS] at hs
    have k2 := hs.2.2.1.cell
    have k3 := hs.2.2.2.1
    have k4 := hs.2.2.2.2.2.1
    have K3 := Lib.hid k3
    have K4 := Lib.hid k4
    clear hS hs k3 k4 hmany hI hst
    gi_wp2
    refine ⟨by simp, .inl ⟨_, _, rfl, run_takeDeferred hK, ?_⟩⟩
    exact ⟨_, results_tmp rfl _ _ _, w.heap.size + 1, rfl, own_move K3.out (fun k hk => by
      have : w.heap.size + 1 = k := by simpa [Value.ownBlock] using hk
      simp only [World.putObj]
      rw [Array.getElem?_setIfInBounds_ne (by omega)]), K4.out.trans (belowK_b (w := w) (Nat.le_refl _) W D _ _ (by omega) hK rfl rfl)⟩
  case stop =>
    rintro D c pre W _ _ h _
    exact h.elim
  · have := Boxed.new (((w.alloc (Obj.cells #[Value.slice A zs.length c0] 22)).alloc (Obj.cells (madeCells #[Value.int IntKind.i64 0] M) 3)).alloc (Obj.cells #[Value.slice (some { block := w.heap.size + 1, off := 0 }) M M] 22)) 22 (Value.slice A zs.length c0)
    simp only [World.size_alloc] at this
    exact (this.alloc _).cell
  · have := Boxed.new ((((w.alloc (Obj.cells #[Value.slice A zs.length c0] 22)).alloc (Obj.cells (madeCells #[Value.int IntKind.i64 0] M) 3)).alloc (Obj.cells #[Value.slice (some { block := w.heap.size + 1, off := 0 }) M M] 22)).alloc (Obj.cells #[Value.slice A zs.length c0] 22)) 3 (Value.int IntKind.i64 workers)
    simp only [World.size_alloc] at this
    exact this.cell
  · exact hst.2.2.2.2.1.mono (fun k hk => .inl hk)

theorem fair_Counts.calls (A0 : Option Addr) (c0 : Nat) (l0 : List Int) (a1 : Int) (r : List Int) (w : World) (hr0 : Kd.C (Kd.int .i64) w A0 l0.length l0) (_hc0 : l0.length ≤ c0) (h : fair_Counts.f l0 a1 = some r) :
    Calls Try.prog 24 #[.slice A0 l0.length c0, .int .i64 a1] w fun e w' => ∃ v0_ : Value, e = .returned (v0_) ∧ Kd.R (Kd.int .i64) 3 w' w.heap.size (fun _ => True) v0_ r ∧ Below w.heap.size w w' := by
  unfold fair_Counts.f at h
  by_cases hl : l0.length ≤ 10000
  · rw [if_pos hl] at h
    obtain rfl := Option.some.inj h
    refine ((callsIn_wide (n := 3)).1 (fair_Counts.walk 3 (by omega) A0 c0 l0 a1 (Many a1) (many_range a1).2.1 (many_same a1) hl w (Ints.of_C hr0))).mono ?_
    rintro e w' ⟨g, rfl, hrow, hb⟩
    have hl2 := tally_length l0 (Many a1) (pl l0 (Many a1) l0.length)
    refine ⟨_, rfl, Kd.R_of_own (h1 := fun _ => rfl) (enc := Value.int .i64) ?_ (fun _ _ => trivial), hb⟩
    rw [hl2]
    exact hrow
  · rw [if_neg hl] at h; cases h
end Go.Proofs.Ytkncpbaknigamaa.PFair
