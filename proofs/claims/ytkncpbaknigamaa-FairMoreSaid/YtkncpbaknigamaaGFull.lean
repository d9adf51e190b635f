/- Into how many pieces picks are cut: what fair.Full comes to, over the places that fair.Each tells. -/
import Derived.Test.YtkncpbaknigamaaGCounts
import Derived.Maps.OwnIn
import Derived.Maps.OwnSet
import Derived.Maps.Views
namespace Go.Proofs.Ytkncpbaknigamaa.PFair
open Go.RowKit Go.Shelf Go.Maps Go.Proofs.YtkncpbaknigamaaW.PrintWords Go.Proofs.YtkncpbaknigamaaW.PrintLast Go.Proofs.YtkncpbaknigamaaW.PrintMore Go.Proofs.Ytkncpbaknigamaa.FairMath Go.Proofs.Ytkncpbaknigamaa.GEach
attribute [local go_sem] Oper.semAt_some
set_option linter.unusedVariables false

/-- A row of different numbers, with one more if it isn't there. -/
def addI (S : List Int) (x : Int) : List Int := if S.contains x then S else S ++ [x]
def dedup (ks : List Int) : List Int := ks.foldl addI []
/-- A pick: the pieces so far, the picks of the piece under way. -/
def pieceStep (M : Nat) (s : Nat × List Int) (x : Int) : Nat × List Int := if (dedup (s.2 ++ [x])).length = M then (s.1 + 1, []) else (s.1, s.2 ++ [x])
def picks (zs : List Int) (M k : Nat) : List Int := (pl zs M k).map fun i => zs[i]?.getD 0
def pieces (zs : List Int) (M : Nat) (is : List Nat) : Nat × List Int := (is.map fun i => zs[i]?.getD 0).foldl (pieceStep M) (0, [])
theorem pieces_snoc (zs : List Int) (M : Nat) (is : List Nat) (i : Nat) : pieces zs M (is ++ [i]) = pieceStep M (pieces zs M is) (zs[i]?.getD 0) := by simp [pieces]
def fair_Full.f (l0 : List Int) (a1 : Int) : Option Int := if l0.length ≤ 10000 then some ((pieces l0 (Many a1) (pl l0 (Many a1) l0.length)).1 : Int) else none

theorem pieces_le (zs : List Int) (M : Nat) : ∀ (n : Nat) (is : List Nat), is.length = n → (pieces zs M is).1 ≤ n ∧ (pieces zs M is).2.length ≤ n
  | 0, is, h => by
    obtain rfl := List.length_eq_zero_iff.1 h
    simp [pieces]
  | n + 1, is, h => by
    rcases List.eq_nil_or_concat is with rfl | ⟨is', i, rfl⟩
    · simp at h
    · have hn : is'.length = n := by simpa using h
      have a := pieces_le zs M n is' hn
      rw [List.concat_eq_append, pieces_snoc]
      unfold pieceStep
      split
      · simp; omega
      · simp; omega

def lits (ks : List Int) : List Lit := ks.map (Lit.int .i64)
theorem fold_lits (ks : List Int) : ∀ S : List Int, (lits ks).foldl addKey (lits S) = lits (ks.foldl addI S) := by
  induction ks with
  | nil => intro S; rfl
  | cons x ks ih =>
    intro S
    have e : addKey (lits S) (Lit.int .i64 x) = lits (addI S x) := by
      have : (lits S).any (fun y => y.sameKey (Lit.int .i64 x)) = S.contains x := by
        induction S with
        | nil => rfl
        | cons y S ih2 =>
          simp only [lits, List.map_cons, List.any_cons, List.contains_cons] at ih2 ⊢
          rw [ih2]
          congr 1
          simp [Lit.sameKey]
          rw [Bool.eq_iff_iff]; simp
          constructor <;> intro h <;> exact h.symm
      unfold addKey addI
      rw [this]
      split
      · rfl
      · simp [lits]
    show (lits ks).foldl addKey (addKey (lits S) (Lit.int .i64 x)) = lits (ks.foldl addI (addI S x))
    rw [e, ih]
abbrev HN := Nat
def setD (ks : List Int) : DataW HN := setOf (.lit (.bool true)) (lits ks)
theorem setD_snoc (ks : List Int) (x : Int) : setD (ks ++ [x]) = (setD ks).put (.int .i64 x) (.lit (.bool true)) := by
  unfold setD lits
  rw [List.map_append, List.map_singleton, setOf_snoc]
theorem size_setD (ks : List Int) : Maps.size (setD ks) = (dedup ks).length := by
  unfold setD
  rw [size_setOf _ _ (by intro x hx; simp [lits] at hx; obtain ⟨y, _, rfl⟩ := hx; simp [WideAt.IsKeyLit])]
  have := fold_lits ks []
  rw [show ([] : List Lit) = lits [] from rfl, this]
  simp [lits, dedup]

/-- What holds between two rounds. -/
def FSt (w : World) (A : Option Addr) (c0 : Nat) (zs : List Int) (workers : Int) (s : Nat × List Int) (W : World) : Prop :=
  Boxed W w.heap.size 22 (.slice A zs.length c0) ∧ Boxed W (w.heap.size + 1) 3 (.int .i64 workers) ∧ Boxed W (w.heap.size + 1 + 1) 3 (.int .i64 (s.1 : Int)) ∧ Boxed W (w.heap.size + 1 + 1 + 1 + 1) 67 (.map (some (w.heap.size + 1 + 1 + 1))) ∧
    W.ownsMap Try.prog 3 (plainElem (H := HN) Try.prog 4) (w.heap.size + 1 + 1 + 1) s.2.length (setD s.2) ∧ Ints (· < w.heap.size) W A zs ∧ Below w.heap.size w W ∧ w.heap.size + 7 ≤ W.heap.size
section
variable {w : World} {A : Option Addr} {c0 : Nat} {zs : List Int} {workers : Int} {s : Nat × List Int} {W W' : World}
theorem FSt.move (h : FSt w A c0 zs workers s W) (hb : Below (w.heap.size + 7) W W') : FSt w A c0 zs workers s W' := by
  obtain ⟨h1, h2, h3, h4, h5, h6, h7, h8⟩ := h
  have hb0 : Below w.heap.size W W' := ⟨hb.os, hb.tape, hb.output, hb.size, fun k hk => hb.block k (by omega)⟩
  refine ⟨(hb.block _ (by omega)).trans h1, (hb.block _ (by omega)).trans h2, (hb.block _ (by omega)).trans h3, (hb.block _ (by omega)).trans h4, ?_, h6.keep (Keeps.of_below hb0 (fun _ h => h)), h7.trans hb0, Nat.le_trans h8 hb.size⟩
  obtain ⟨es, clock, hh, F, hs, hD⟩ := h5
  exact ⟨es, clock, (hb.block _ (by omega)).trans hh, F, hs, hD⟩
theorem FSt.drew (h : FSt w A c0 zs workers s W) : FSt w A c0 zs workers s W.drew := h.move (below_drew (Below.refl _ _))
theorem FSt.counted (h : FSt w A c0 zs workers s W) (n : Nat) : FSt w A c0 zs workers (n, s.2) (W.setCell ⟨w.heap.size + 1 + 1, 0, none⟩ (.int .i64 (n : Int))) := by
  obtain ⟨h1, h2, h3, h4, h5, h6, h7, h8⟩ := h
  have far : ∀ k, k ≠ w.heap.size + 1 + 1 → (W.setCell ⟨w.heap.size + 1 + 1, 0, none⟩ (.int .i64 (n : Int))).heap[k]? = W.heap[k]? := fun k hk => Below.heap_setCell W _ _ k hk
  refine ⟨(far _ (by omega)).trans h1, (far _ (by omega)).trans h2, Boxed.set _ h3, (far _ (by omega)).trans h4, ?_, h6.keep (fun k hk => far k (by omega)), h7.setCell (p := ⟨w.heap.size + 1 + 1, 0, none⟩) (by simp; omega) _, by simpa using h8⟩
  obtain ⟨es, clock, hh, F, hs, hD⟩ := h5
  exact ⟨es, clock, (far _ (by omega)).trans hh, F, hs, hD⟩
/-- Another map stands in the map's block. -/
theorem FSt.mapped (h : FSt w A c0 zs workers s W) {ks : List Int} (hm : W'.ownsMap Try.prog 3 (plainElem (H := HN) Try.prog 4) (w.heap.size + 1 + 1 + 1) ks.length (setD ks)) (hg : W.grownBy W' (some (w.heap.size + 1 + 1 + 1))) : FSt w A c0 zs workers (s.1, ks) W' := by
  obtain ⟨h1, h2, h3, h4, h5, h6, h7, h8⟩ := h
  have far : ∀ k, k < w.heap.size + 7 → k ≠ w.heap.size + 1 + 1 + 1 → W'.heap[k]? = W.heap[k]? := fun k h1 hk => hg.block k (by omega) (fun e => hk (by injection e))
  refine ⟨(far _ (by omega) (by omega)).trans h1, (far _ (by omega) (by omega)).trans h2, (far _ (by omega) (by omega)).trans h3, (far _ (by omega) (by omega)).trans h4, hm, h6.keep (fun k hk => far k (by omega) (by omega)), h7.grown hg (by omega) (fun k e => by injection e; omega), Nat.le_trans h8 hg.size⟩
end
theorem clear_own {H : Type} {P : Program} {k e t : TypeId} {R : Value → Option (DataW H × List MemPlace)} {W : World} {b n : Nat} {D : DataW H} (h : W.ownsMap P k R b n D) (ht : P.underlying t = some (.map k e)) :
    ∃ W', (∀ ty, (Builtin.clear_ #[t] ty #[.map (some b)]).run P W = .ok (.tuple #[]) W') ∧ W'.ownsMap P k R b 0 (.map []) ∧ W.grownBy W' (some b) := by
  obtain ⟨es, clock, hb, F, hs, rfl⟩ := h
  refine ⟨ChangeMaps.setBlock W b (.map #[] clock), fun ty => ?_, ⟨#[], clock, ChangeMaps.heap_setBlock_same hb _, ⟨by simp, MapKept.stamped_empty clock, by simp⟩, Nat.le_refl _, rfl⟩, ⟨rfl, rfl, rfl, by simp [ChangeMaps.setBlock], fun i _ hi => ChangeMaps.heap_setBlock_other hb _ (fun e => hi (by rw [e]))⟩⟩
  simp [Builtin.clear_, run_underlying ht, MapKept.run_getObj_map hb, MapKept.run_setObj_map _ hb, Result.andThen, ChangeMaps.setBlock]

/-- The world in which the loop begins. -/
theorem full_start (w : World) (A : Option Addr) (c0 : Nat) (zs : List Int) (workers : Int) (hI : Ints (· < w.heap.size) w A zs) (W : World)
    (hW : (((((((w.alloc (Obj.cells #[Value.slice A zs.length c0] 22)).alloc (Obj.cells #[Value.int IntKind.i64 workers] 3)).alloc (Obj.cells #[Value.int IntKind.i64 0] 3)).alloc (Obj.map #[] 0)).alloc (Obj.cells #[Value.map (some (w.heap.size + 1 + 1 + 1))] 67)).alloc (Obj.cells #[Value.slice A zs.length c0] 22)).alloc (Obj.cells #[Value.int IntKind.i64 workers] 3)) = W) :
    FSt w A c0 zs workers (0, []) W ∧ W.heap.size = w.heap.size + 7 ∧ W.cell? ⟨w.heap.size + 1 + 1 + 1 + 1 + 1, 0, none⟩ = some (.slice A zs.length c0) ∧ W.cell? ⟨w.heap.size + 1 + 1 + 1 + 1 + 1 + 1, 0, none⟩ = some (.int .i64 workers) := by
  have b1 := Boxed.new w 22 (.slice A zs.length c0)
  have b2 := Boxed.new (w.alloc (.cells #[.slice A zs.length c0] 22)) 3 (.int .i64 workers)
  have b3 := Boxed.new ((w.alloc (.cells #[.slice A zs.length c0] 22)).alloc (.cells #[.int .i64 workers] 3)) 3 (.int .i64 0)
  have b4 := World.ownsMap_made (((w.alloc (.cells #[.slice A zs.length c0] 22)).alloc (.cells #[.int .i64 workers] 3)).alloc (.cells #[.int .i64 0] 3)) Try.prog 3 (plainElem (H := HN) Try.prog 4)
  have b5 := Boxed.new ((((w.alloc (.cells #[.slice A zs.length c0] 22)).alloc (.cells #[.int .i64 workers] 3)).alloc (.cells #[.int .i64 0] 3)).alloc (.map #[] 0)) 67 (.map (some (w.heap.size + 1 + 1 + 1)))
  have b6 := Boxed.new (((((w.alloc (.cells #[.slice A zs.length c0] 22)).alloc (.cells #[.int .i64 workers] 3)).alloc (.cells #[.int .i64 0] 3)).alloc (.map #[] 0)).alloc (.cells #[.map (some (w.heap.size + 1 + 1 + 1))] 67)) 22 (.slice A zs.length c0)
  have b7 := Boxed.new ((((((w.alloc (.cells #[.slice A zs.length c0] 22)).alloc (.cells #[.int .i64 workers] 3)).alloc (.cells #[.int .i64 0] 3)).alloc (.map #[] 0)).alloc (.cells #[.map (some (w.heap.size + 1 + 1 + 1))] 67)).alloc (.cells #[.slice A zs.length c0] 22)) 3 (.int .i64 workers)
  simp only [World.size_alloc] at b2 b3 b4 b5 b6 b7
  have hb : Below w.heap.size w W := by
    rw [← hW]
    exact (((((((Below.refl _ _).alloc (Nat.le_refl _) _).alloc (by simp) _).alloc (by simp; omega) _).alloc (by simp; omega) _).alloc (by simp; omega) _).alloc (by simp; omega) _).alloc (by simp; omega) _
  subst hW
  exact ⟨⟨(((((b1.alloc _).alloc _).alloc _).alloc _).alloc _).alloc _, ((((b2.alloc _).alloc _).alloc _).alloc _).alloc _, (((b3.alloc _).alloc _).alloc _).alloc _, (b5.alloc _).alloc _, ((b4.alloc _).alloc _).alloc _, hI.keep (Keeps.of_below hb (fun _ h => h)), hb, by simp⟩, by simp, (b6.alloc _).cell, b7.cell⟩

theorem keeps_grown {P : Nat → Prop} {W W' : World} {b : Nat} (hg : W.grownBy W' (some b)) (hP : ∀ k, P k → k < W.heap.size ∧ k ≠ b) : Keeps P W W' := fun k hk => hg.block k (hP k hk).1 (fun e => (hP k hk).2 (by injection e))

set_option maxRecDepth 100000 in
set_option maxHeartbeats 4000000 in
theorem fair_Full.walk (n : Nat) (hn : 3 ≤ n) (A : Option Addr) (c0 : Nat) (zs : List Int) (workers : Int) (M : Nat) (hM : 1 ≤ M ∧ M ≤ 64) (hmany : ∀ w, Calls Try.prog 46 #[.int .i64 workers] w fun e w' => e = .returned (.int .i64 (M : Int)) ∧ w' = w) (hreach : zs.length ≤ 10000) (w : World) (hI : Ints (· < w.heap.size) w A zs) :
    CallsIn Fence.wide n Try.prog 28 #[.slice A zs.length c0, .int .i64 workers] w fun e w' => e = .returned (.int .i64 ((pieces zs M (pl zs M zs.length)).1 : Int)) ∧ Below w.heap.size w w' := by
  have h1 : 1 ≤ n := by omega
  have hmm := @run_makeMap Try.prog
  refine callsIn_of_wp_marks Try.func28 rfl trivial ?_ rfl
  simp only [Try.ntmps28, List.size_toArray, List.length_cons, List.length_nil, Nat.reduceAdd, Nat.reduceSub, Array.replicate_succ, Array.replicate_zero, List.push_toArray, List.append_toArray, List.nil_append, List.cons_append]
  gi_wp2_with (first | (refine ⟨trivial, ?_⟩; gi_at_call 22; refine (each_in (n - 1) _ _ _ _ _).mono ?_; rintro e w1 ⟨rfl, rfl⟩))
  clear hmm
  obtain ⟨W0, hW0⟩ : ∃ W0, (((((((w.alloc (Obj.cells #[Value.slice A zs.length c0] 22)).alloc (Obj.cells #[Value.int IntKind.i64 workers] 3)).alloc (Obj.cells #[Value.int IntKind.i64 0] 3)).alloc (Obj.map #[] 0)).alloc (Obj.cells #[Value.map (some (w.heap.size + 1 + 1 + 1))] 67)).alloc (Obj.cells #[Value.slice A zs.length c0] 22)).alloc (Obj.cells #[Value.int IntKind.i64 workers] 3)) = W0 := ⟨_, rfl⟩
  obtain ⟨hst, hsz, hc5, hc6⟩ := full_start w A c0 zs workers hI W0 hW0
  rw [hW0]
  clear hW0
  refine wpIn_rangeFunc_ownG rfl h1 (gf := 48) (lb := #[.pointer (some ⟨w.heap.size + 1 + 1 + 1 + 1 + 1, 0, none⟩), .pointer (some ⟨w.heap.size + 1 + 1 + 1 + 1 + 1 + 1, 0, none⟩)]) rfl trivial (enters_of Try.func48 (by kernel_rfl) rfl)
    (each_stops (n - 1) (by omega) (w.heap.size + 1 + 1 + 1 + 1 + 1) (w.heap.size + 1 + 1 + 1 + 1 + 1 + 1) c0 (fun k => k < w.heap.size ∨ k = w.heap.size + 1 + 1 + 1 + 1 + 1 ∨ k = w.heap.size + 1 + 1 + 1 + 1 + 1 + 1) A zs workers M hmany hreach W0 (by simp) (by simp) (by intro k hk; omega) hc5 hc6 (hst.2.2.2.2.2.1.mono (fun k hk => .inl hk)))
    Keeps.trans (keepsK_b (by intro k hk; omega)) (Below.refl _ _) (fun _ => rfl)
    (fun pre W => FSt w A c0 zs workers (pieces zs M (pre.map (·.1))) W) (fun _ _ _ => False)
    (ownFrom_of_below (fun s W h => by rw [hsz]; exact h.2.2.2.2.2.2.2) (fun s W W' hb h => FSt.move (s := pieces zs M (s.map (·.1))) h (by rw [← hsz]; exact hb)))
    (fun _ _ _ _ _ hs _ _ => hs) hst
    (fun x => { tmps := #[Value.slice A zs.length c0, Value.int IntKind.i64 workers,
          Value.pointer (some { block := w.heap.size, off := 0 }),
          Value.pointer (some { block := w.heap.size + 1, off := 0 }), Value.int IntKind.i64 0,
          Value.pointer (some { block := w.heap.size + 1 + 1, off := 0 }),
          Value.pointer (some { block := w.heap.size + 1 + 1 + 1 + 1, off := 0 }), Value.int .i64 (x.1 : Int),
          Value.map (some (w.heap.size + 1 + 1 + 1)), Value.slice A zs.length c0, Value.int IntKind.i64 workers,
          Value.func (Fn.func 48) #[]
            #[Value.pointer (some { block := w.heap.size + 1 + 1 + 1 + 1 + 1, off := 0 }),
              Value.pointer (some { block := w.heap.size + 1 + 1 + 1 + 1 + 1 + 1, off := 0 })],
          Value.int .i64 (x.1 : Int), undef, undef, undef, undef, undef, undef, undef, undef, undef, undef, undef, undef, undef, undef], defers := [] }) ?assign ?body ?done ?stop
  case assign =>
    intro l x W K hK
    gi_wp2
    exact hK
  case body =>
    rintro l pre x W hs hlen
    obtain ⟨i, hi⟩ : ∃ i : Nat, x.1 = i := ⟨_, rfl⟩
    have hx := x.2
    rw [hi] at hx
    obtain ⟨hx1, hx2, hx3⟩ := hx
    obtain ⟨c, hc⟩ : ∃ c, zs[i]?.getD 0 = c := ⟨_, rfl⟩
    rw [hc] at hx2 hx3
    have hple := pieces_le zs M pre.length (pre.map (·.1)) (by simp)
    have hstep : pieces zs M ((pre ++ [x]).map (·.1)) = pieceStep M (pieces zs M (pre.map (·.1))) c := by
      rw [List.map_append, List.map_singleton, pieces_snoc, hi, hc]
    rcases hs.2.2.2.2.2.1 with e0 | ⟨ad, rfl, hcs⟩
    · subst e0; simp at hx1
    have k5 := (hcs i hx1).2
    rw [hc] at k5
    clear hcs hc
    obtain ⟨s, hs1⟩ : ∃ s, pieces zs M (pre.map (·.1)) = s := ⟨_, rfl⟩
    rw [hs1] at hs hple hstep
    obtain ⟨nn, ks⟩ := s
    have hks : ks.length ≤ pre.length := hple.2
    have hnn : nn ≤ pre.length := hple.1
    have k1 := hs.1.cell
    have k2 := hs.2.1.cell
    have k3 := hs.2.2.1.cell
    have k4 := hs.2.2.2.1.cell
    obtain ⟨w1, hrun, hown1, hg1⟩ := hs.drew.2.2.2.2.1.update (int_keyed Try.underlying3) Try.underlying67 (by unfold maxLen; show ks.length < 9223372036854775807; omega) (keyOf_int_mk Try.underlying3 (a := c) (by simp [Lit.wf, IntKind.min, IntKind.max, IntKind.signed, IntKind.bits]; omega)) (plainElem_bool Try.underlying4 true)
    have hst1 : FSt w (some ad) c0 zs workers (nn, ks ++ [c]) w1 := hs.drew.mapped (ks := ks ++ [c]) (by rw [setD_snoc]; simpa using hown1) hg1
    have hmx : Try.prog.follows .mixedOrders = true := by kernel_rfl
    have hW8 := hs.2.2.2.2.2.2.2
    have q2 := hst1.2.1.cell
    have q3 := hst1.2.2.1.cell
    have q3f := hst1.2.2.1.frozen
    have q4 := hst1.2.2.2.1.cell
    have hlen1 := fun ty => hst1.2.2.2.2.1.len Try.underlying67 ty
    rw [size_setD] at hlen1
    have hst2 := hst1.counted (nn + 1)
    obtain ⟨w2, hclr, hown2, hg2⟩ := clear_own hst2.2.2.2.2.1 Try.underlying67
    have hst3 : FSt w (some ad) c0 zs workers (nn + 1, []) w2 := hst2.mapped (ks := []) hown2 hg2
    rw [show ((nn + 1 : Nat) : Int) = (nn : Int) + 1 by omega] at hclr hg2
    have k8 := hst1.2.2.2.2.2.2.2
    have hkf1 : KeepsFrom W0.heap.size W w1 := (KeepsOthers.drew W).from _ |>.trans (KeepsFrom.of_grownBy hg1 (fun j e => by injection e; omega))
    have hkf2 : KeepsFrom W0.heap.size W w2 := hkf1.trans (((KeepsOthers.setCell w1 _ _).from _).trans (KeepsFrom.of_grownBy hg2 (fun j e => by injection e; omega)))
    have hkp1 : Keeps (fun k => k < w.heap.size ∨ k = w.heap.size + 1 + 1 + 1 + 1 + 1 ∨ k = w.heap.size + 1 + 1 + 1 + 1 + 1 + 1) W w1 := Keeps.trans (Y := W.drew) (fun k hk => rfl) (keeps_grown hg1 (fun k hk => by
      have : W.drew.heap.size = W.heap.size := rfl
      omega))
    have hkp2 : Keeps (fun k => k < w.heap.size ∨ k = w.heap.size + 1 + 1 + 1 + 1 + 1 ∨ k = w.heap.size + 1 + 1 + 1 + 1 + 1 + 1) W w2 := hkp1.trans (Keeps.trans (Keeps.setCell w1 ⟨w.heap.size + 1 + 1, 0, none⟩ _ (by simp; omega)) (keeps_grown hg2 (fun k hk => by simp; omega)))
    have Hk1 := Lib.hid hkf1
    have Hk2 := Lib.hid hkf2
    have Hp1 := Lib.hid hkp1
    have Hp2 := Lib.hid hkp2
    have Hst1 := Lib.hid hst1
    have Hst3 := Lib.hid hst3
    have Hstep := Lib.hid hstep
    have hz1 : 2 < w1.heap.size := by omega
    clear hst1 hst2 hst3 hs hstep hple hown1 hown2 hs1 hst hI hc5 hc6 hx2 hx3 hg1 hg2 hkf1 hkf2 hkp1 hkp2 hsz
    obtain ⟨sz, hsz⟩ : ∃ sz, (dedup (ks ++ [c])).length = sz := ⟨_, rfl⟩
    rw [hsz] at hlen1
    have Hsz := Lib.hid hsz
    clear hsz
    by_cases hcase : sz = M
    · have hb1 : (((sz : Nat) : Int) == ((M : Nat) : Int)) = true := by rw [hcase]; simp
      have Hcase := Lib.hid hcase
      clear hcase
      gi_wp2
      clear hi
      gi_region_with_o (fail)
      all_goals gi_wp2
      all_goals
        refine ⟨trivial, fun h => (by simp [Fence.wide] at h), ?_⟩
        refine (CallsIn.inRound l (callsIn_wide.2 (hmany _))).mono ?_
        rintro e w3 ⟨rfl, rfl⟩
        gi_wp2
        exact ⟨Hk2.out, Hp2.out, by
          show FSt w (some ad) c0 zs workers (pieces zs M ((pre ++ [x]).map (·.1))) _
          rw [Hstep.out]
          unfold pieceStep
          rw [if_pos (Hsz.out.trans Hcase.out)]
          exact Hst3.out⟩
    · have hb1 : (((sz : Nat) : Int) == ((M : Nat) : Int)) = false := by simp; omega
      have Hcase := Lib.hid hcase
      clear hcase hclr
      gi_wp2
      clear hi
      gi_region_with_o (fail)
      all_goals gi_wp2
      all_goals
        refine ⟨trivial, fun h => (by simp [Fence.wide] at h), ?_⟩
        refine (CallsIn.inRound l (callsIn_wide.2 (hmany _))).mono ?_
        rintro e w3 ⟨rfl, rfl⟩
        gi_wp2
        exact ⟨Hk1.out, Hp1.out, by
          show FSt w (some ad) c0 zs workers (pieces zs M ((pre ++ [x]).map (·.1))) _
          rw [Hstep.out]
          unfold pieceStep
          rw [if_neg (fun h => Hcase.out (Hsz.out.symm.trans h))]
          exact Hst1.out⟩
  case done =>
    rintro D ys W hD hS hs hK
    rw [hS] at hs
    have k3 := hs.2.2.1.cell
    have K4 := Lib.hid hs.2.2.2.2.2.2.1
    clear hS hs hmany hI hst hc5 hc6
    gi_wp2
    refine ⟨by simp, .inl ⟨_, _, rfl, run_takeDeferred hK, ?_⟩⟩
    exact ⟨_, results_tmp rfl _ _ _, rfl, K4.out.trans (belowK_b (w := w) (Nat.le_refl _) W D _ _ (by omega) hK rfl rfl)⟩
  case stop =>
    rintro D c pre W _ _ h _
    exact h.elim

theorem fair_Full.calls (A0 : Option Addr) (c0 : Nat) (l0 : List Int) (a1 : Int) (r : Int) (w : World) (hr0 : Kd.C (Kd.int .i64) w A0 l0.length l0) (hc0 : l0.length ≤ c0) (h : fair_Full.f l0 a1 = some r) :
    Calls Try.prog 28 #[.slice A0 l0.length c0, .int .i64 a1] w fun e w' => e = .returned (.int .i64 r) ∧ Below w.heap.size w w' := by
  unfold fair_Full.f at h
  by_cases hl : l0.length ≤ 10000
  · rw [if_pos hl] at h
    obtain rfl := Option.some.inj h
    have hM := many_range a1
    exact (callsIn_wide (n := 3)).1 (fair_Full.walk 3 (by omega) A0 c0 l0 a1 (Many a1) ⟨hM.1, hM.2.1⟩ (many_same a1) hl w (Ints.of_C hr0))
  · rw [if_neg hl] at h; cases h
end Go.Proofs.Ytkncpbaknigamaa.PFair
