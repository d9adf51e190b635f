/- The places of workers' picks: what fair.Each's iterator hands to its loop, one place behind the other. -/
import Derived.RangeFuncNested
import Derived.RangeFuncBox
import Derived.RangeFuncCalls
import Derived.RangeFuncLeaves
import Derived.Shelf.Abstract
import Derived.WalkKit
import Derived.OwnWalkIn
import Derived.TacticsInMore
import Derived.LoopNIn
import Derived.LoopIn
import Derived.Lib.Hide
import Derived.Test.YtkncpbaknigamaaPFairx1
import Derived.Test.YtkncpbaknigamaaFairMath
namespace Go.Proofs.Ytkncpbaknigamaa.GEach
open Go.RowKit Go.Shelf Go.Proofs.Ytkncpbaknigamaa.PFair Go.Proofs.YtkncpbaknigamaaW.PrintWords Go.Proofs.YtkncpbaknigamaaW.PrintLast Go.Proofs.YtkncpbaknigamaaW.PrintMore Go.Proofs.Ytkncpbaknigamaa.FairMath
attribute [local go_sem] Oper.semAt_some

/-- A place of a worker's pick. -/
abbrev Pos (zs : List Int) (M : Nat) := { i : Nat // i < zs.length ∧ 0 ≤ zs[i]?.getD 0 ∧ zs[i]?.getD 0 < (M : Int) }
/-- The places among the first k. -/
def pl (zs : List Int) (M k : Nat) : List Nat := (List.range k).filter fun i => decide (0 ≤ zs[i]?.getD 0 ∧ zs[i]?.getD 0 < (M : Int))
theorem pl_yes {zs : List Int} {M k : Nat} (h : 0 ≤ zs[k]?.getD 0 ∧ zs[k]?.getD 0 < (M : Int)) : pl zs M (k + 1) = pl zs M k ++ [k] := by
  simp [pl, List.range_succ, List.filter_append, h]
theorem pl_no {zs : List Int} {M k : Nat} (h : ¬ (0 ≤ zs[k]?.getD 0 ∧ zs[k]?.getD 0 < (M : Int))) : pl zs M (k + 1) = pl zs M k := by
  have : decide (0 ≤ zs[k]?.getD 0 ∧ zs[k]?.getD 0 < (M : Int)) = false := decide_eq_false h
  simp only [pl, List.range_succ, List.filter_append, List.filter_cons, List.filter_nil, this]
  simp
theorem pl_length (zs : List Int) (M k : Nat) : (pl zs M k).length ≤ k := by
  have := List.length_filter_le (fun i => decide (0 ≤ zs[i]?.getD 0 ∧ zs[i]?.getD 0 < (M : Int))) (List.range k)
  simpa [pl] using this

attribute [local go_sem] max2_int min2_int max_two min_two max_three min_three max_four min_four in
theorem many_same (workers : Int) (w : World) : Calls Try.prog 46 #[.int .i64 workers] w fun e w' => e = .returned (.int .i64 (Many workers : Int)) ∧ w' = w := by
  go_enter Try.func46, Try.ntmps46
  go_wp2
  all_goals
    go_ret
    exact ⟨congrArg (fun z : Int => Ending.returned (.int .i64 z)) (by rw [← (many_range workers).2.2]; unfold mn mx; omega), rfl⟩

/-- These blocks lie as they lay. -/
def Keeps (P : Nat → Prop) (W W' : World) : Prop := ∀ k, P k → W'.heap[k]? = W.heap[k]?
theorem Keeps.refl (P : Nat → Prop) (W : World) : Keeps P W W := fun _ _ => rfl
theorem Keeps.trans {P : Nat → Prop} {X Y Z : World} (h : Keeps P X Y) (k : Keeps P Y Z) : Keeps P X Z := fun i hi => (k i hi).trans (h i hi)
theorem Keeps.cell {P : Nat → Prop} {X Y : World} (h : Keeps P X Y) {p : Addr} (hp : P p.block) : Y.cell? p = X.cell? p := by
  have := h p.block hp
  simp [World.cell?, this]
theorem Keeps.of_below {P : Nat → Prop} {n : Nat} {X Y : World} (h : Below n X Y) (hP : ∀ k, P k → k < n) : Keeps P X Y := fun k hk => h.block k (hP k hk)
theorem Keeps.setCell {P : Nat → Prop} (W : World) (a : Addr) (v : Value) (ha : ¬ P a.block) : Keeps P W (W.setCell a v) := fun k hk => Below.heap_setCell W a v k (fun e => ha (e ▸ hk))
theorem keepsK_b {P : Nat → Prop} {n : Nat} (hP : ∀ k, P k → k < n) (W : World) (l : Nat) (o o' : Obj) (hl : n ≤ l) (_h : W.heap[l]? = some o) (_h1 : o.isCells = false) (_h2 : o.isWalk = false) : Keeps P W (W.putObj l o') := fun k hk => by
  have := hP k hk
  simp only [World.putObj]
  rw [Array.getElem?_setIfInBounds_ne (by omega)]
/-- The address leads to the ints zs, in blocks of P; or there are none. -/
def Ints (P : Nat → Prop) (W : World) (A : Option Addr) (zs : List Int) : Prop :=
  zs = [] ∨ ∃ ad : Addr, A = some ad ∧ ∀ j, j < zs.length → P (ad.add j).block ∧ W.cell? (ad.add j) = some (.int .i64 (zs[j]?.getD 0))
theorem Ints.keep {P : Nat → Prop} {X Y : World} (h : Keeps P X Y) {A : Option Addr} {zs : List Int} : Ints P X A zs → Ints P Y A zs
  | .inl e => .inl e
  | .inr ⟨ad, e, hc⟩ => .inr ⟨ad, e, fun j hj => ⟨(hc j hj).1, (h.cell (hc j hj).1).trans (hc j hj).2⟩⟩
theorem Ints.mono {P P' : Nat → Prop} (h : ∀ k, P k → P' k) {X : World} {A : Option Addr} {zs : List Int} : Ints P X A zs → Ints P' X A zs
  | .inl e => .inl e
  | .inr ⟨ad, e, hc⟩ => .inr ⟨ad, e, fun j hj => ⟨h _ (hc j hj).1, (hc j hj).2⟩⟩
theorem Ints.of_C {w : World} {A : Option Addr} {zs : List Int} (h : Kd.C (Kd.int .i64) w A zs.length zs) : Ints (· < w.heap.size) w A zs := by
  by_cases h0 : zs.length = 0
  · exact .inl (List.length_eq_zero_iff.1 h0)
  · obtain ⟨ad, e, _⟩ := Kd.at_int h 0 (by omega) (by omega)
    refine .inr ⟨ad, e, fun j hj => ?_⟩
    obtain ⟨ad', e', hc⟩ := Kd.at_int h (j : Int) (by omega) (by omega)
    rw [e] at e'
    obtain rfl := Option.some.inj e'
    have hc' : w.cell? (ad.add j) = some (.int .i64 (zs[j]?.getD 0)) := by
      simpa [rd, List.getD_eq_getElem?_getD] using hc
    exact ⟨World.block_lt_of_cell? w _ hc', hc'⟩
theorem ownFrom_of_below {β : Type} {B : Nat} {I : β → World → Prop} (hB : ∀ s W, I s W → B ≤ W.heap.size) (h : ∀ s W W', Below B W W' → I s W → I s W') : OwnFrom B I :=
  fun s W W' _ hs hg hr => h s W W' ⟨hg.os, hg.tape, hg.output, hg.size, fun i hi => hg.block i (Nat.lt_of_lt_of_le hi (hB s W hs)) (fun e => by have := (hr i e.symm).1; omega)⟩ hs

set_option maxRecDepth 100000 in
set_option maxHeartbeats 4000000 in
/-- fair.Each's closure, for every loop body that keeps the blocks of P. -/
theorem each1_in (n : Nat) (hn : 1 ≤ n) (l Bs Bw cap : Nat) (P : Nat → Prop) (A : Option Addr) (zs : List Int) (workers : Int) (M : Nat) (hmany : ∀ w, Calls Try.prog 46 #[.int .i64 workers] w fun e w' => e = .returned (.int .i64 (M : Int)) ∧ w' = w) (hreach : zs.length ≤ 10000) (J Jx : List (Pos zs M) → World → Prop)
    (hY : ∀ pre x W, J pre W → pre.length < zs.length → YieldAt Fence.wide (n - 1) Try.prog l #[.int .i64 (x.1 : Int)] W fun e W' =>
      (e = .returned (.bool true) ∧ J (pre ++ [x]) W' ∧ Keeps P W W') ∨ (e = .returned (.bool false) ∧ Jx (pre ++ [x]) W'))
    (W : World) (hw : P Bw) (hBs : W.cell? ⟨Bs, 0, none⟩ = some (.slice A zs.length cap)) (hBw : W.cell? ⟨Bw, 0, none⟩ = some (.int .i64 workers)) (hI : Ints P W A zs) (h0 : J [] W) :
    CallsIn Fence.wide n Try.prog 48 #[.func (.yield l) #[] #[], .pointer (some ⟨Bs, 0, none⟩), .pointer (some ⟨Bw, 0, none⟩)] W fun e W' => (∃ v, e = .returned v) ∧
      ((∃ ys, ys.map (·.1) = pl zs M zs.length ∧ J ys W') ∨ (∃ pre, (∃ k, k ≤ zs.length ∧ pre.map (·.1) = pl zs M k) ∧ Jx pre W')) := by
  refine callsIn_of_wp Try.func48 rfl trivial ?_ rfl
  simp only [Try.ntmps48, List.size_toArray, List.length_cons, List.length_nil, Nat.reduceAdd, Nat.reduceSub, Array.replicate_succ, Array.replicate_zero, List.push_toArray, List.append_toArray, List.nil_append, List.cons_append]
  gi_wp2
  gi_loopw [8] (fun i wr => ∃ (k : Nat) (ys : List (Pos zs M)), k ≤ zs.length ∧ i = .int .i64 k ∧ Hid (ys.map (·.1) = pl zs M k) ∧ J ys wr ∧ Keeps P W wr)
    (fun i _ => zs.length - (intOf i).toNat)
  case atStart => exact ⟨0, [], Nat.zero_le _, rfl, Lib.hid rfl, h0, Keeps.refl _ _⟩
  case round =>
    obtain ⟨k, ys, hk, rfl, Hys, hJs, hnx⟩ := hrel
    have hbw : wr.cell? ⟨Bw, 0, none⟩ = some (.int .i64 workers) := (hnx.cell (p := ⟨Bw, 0, none⟩) hw).trans hBw
    by_cases hlt : k < zs.length
    · rcases hI.keep hnx with e0 | ⟨ad, rfl, hc⟩
      · subst e0; simp at hlt
      have hcx := (hc k hlt).2
      clear hc
      obtain ⟨x, hx⟩ : ∃ x, zs[k]?.getD 0 = x := ⟨_, rfl⟩
      rw [hx] at hcx
      by_cases c1 : 0 ≤ x
      · by_cases c2 : x < (M : Int)
        · have Hpl := Lib.hid (pl_yes (zs := zs) (M := M) (k := k) (by rw [hx]; exact ⟨c1, c2⟩))
          obtain ⟨p, Hp⟩ : ∃ p : Pos zs M, Hid (p.1 = k) := ⟨⟨k, hlt, by rw [hx]; exact ⟨c1, c2⟩⟩, Lib.hid rfl⟩
          obtain ⟨fn, tmps, assign, body, hy, hR⟩ := hY ys p wr hJs (by
            have h1 := pl_length zs M k
            rw [← Hys.out, List.length_map] at h1; omega)
          rw [Hp.out] at hy
          clear hx hY hI
          gi_wp2_with (first | (refine ⟨trivial, ?_⟩; gi_at_call 46; refine (callsIn_wide.2 (hmany _)).mono ?_; rintro e w1 ⟨rfl, rfl⟩) | (gi_at_call 46; refine (callsIn_wide.2 (hmany _)).mono ?_; rintro e w1 ⟨rfl, rfl⟩))
          refine hR.mono ?_
          rintro e W3 (⟨rfl, hJ3, hk3⟩ | ⟨rfl, hJx3⟩)
          · gi_wp2
            go_roundw
            case rel => exact ⟨k + 1, ys ++ [p], by omega, by simp, Lib.hid (by rw [List.map_append, Hys.out, Hpl.out]; simp [Hp.out]), hJ3, hnx.trans hk3⟩
            case measure => simp [intOf]; omega
          · gi_wp2
            refine bodyPost_ret (results_none rfl _ _ _) rfl ?_
            exact ⟨⟨_, rfl⟩, .inr ⟨_, ⟨k + 1, by omega, by rw [List.map_append, Hys.out, Hpl.out]; simp [Hp.out]⟩, hJx3⟩⟩
        · have Hpl := Lib.hid (pl_no (zs := zs) (M := M) (k := k) (by rw [hx]; exact fun h => c2 h.2))
          have c2' : (M : Int) ≤ x := by omega
          clear hx hY hI c2
          gi_wp2_with (first | (refine ⟨trivial, ?_⟩; gi_at_call 46; refine (callsIn_wide.2 (hmany _)).mono ?_; rintro e w1 ⟨rfl, rfl⟩) | (gi_at_call 46; refine (callsIn_wide.2 (hmany _)).mono ?_; rintro e w1 ⟨rfl, rfl⟩))
          refine ⟨fun _ h => (by cases h), ?_⟩
          gi_wp2
          go_roundw
          case rel => exact ⟨k + 1, ys, by omega, by simp, Lib.hid (by rw [Hys.out, Hpl.out]), hJs, hnx⟩
          case measure => simp [intOf]; omega
      · have Hpl := Lib.hid (pl_no (zs := zs) (M := M) (k := k) (by rw [hx]; exact fun h => c1 h.1))
        have c1' : x < 0 := by omega
        clear hx hY hI c1
        gi_wp2
        refine ⟨trivial, ?_⟩
        gi_wp2
        refine ⟨fun _ h => (by cases h), ?_⟩
        gi_wp2
        go_roundw
        case rel => exact ⟨k + 1, ys, by omega, by simp, Lib.hid (by rw [Hys.out, Hpl.out]), hJs, hnx⟩
        case measure => simp [intOf]; omega
    · obtain rfl : k = zs.length := by omega
      gi_wp2
      go_end0
      exact ⟨⟨_, rfl⟩, .inl ⟨_, Hys.out, hJs⟩⟩

set_option maxHeartbeats 1000000 in
/-- fair.Each: the picks and the number of workers are boxed; the function value captures the boxes. -/
theorem each_in (n : Nat) (A : Option Addr) (len cap : Nat) (workers : Int) (w : World) :
    CallsIn Fence.wide n Try.prog 22 #[.slice A len cap, .int .i64 workers] w fun e w' => e = .returned (.func (.func 48) #[] #[.pointer (some ⟨w.heap.size, 0, none⟩), .pointer (some ⟨w.heap.size + 1, 0, none⟩)]) ∧ w' = (w.alloc (.cells #[.slice A len cap] 22)).alloc (.cells #[.int .i64 workers] 3) := by
  refine callsIn_of_wp Try.func22 rfl trivial ?_ rfl
  simp only [Try.ntmps22, List.size_toArray, List.length_cons, List.length_nil, Nat.reduceAdd, Nat.reduceSub, Array.replicate_succ, Array.replicate_zero, List.push_toArray, List.append_toArray, List.nil_append, List.cons_append]
  gi_wp2
  go_ret
  exact ⟨rfl, rfl⟩

theorem pl_all (zs : List Int) (M : Nat) : ∃ ys : List (Pos zs M), ys.map (·.1) = pl zs M zs.length := by
  have : ∀ k, k ≤ zs.length → ∃ ys : List (Pos zs M), ys.map (·.1) = pl zs M k := by
    intro k
    induction k with
    | zero => intro _; exact ⟨[], rfl⟩
    | succ k ih =>
      intro hk
      obtain ⟨ys, hys⟩ := ih (by omega)
      by_cases h : 0 ≤ zs[k]?.getD 0 ∧ zs[k]?.getD 0 < (M : Int)
      · exact ⟨ys ++ [⟨k, by omega, h⟩], by rw [pl_yes h, List.map_append, hys]; rfl⟩
      · exact ⟨ys, by rw [pl_no h, hys]⟩
  exact this _ (Nat.le_refl _)

/-- fair.Each hands back a value that tells the places, one by one. -/
theorem each_stops (n : Nat) (hn : 1 ≤ n) (Bs Bw cap : Nat) (P : Nat → Prop) (A : Option Addr) (zs : List Int) (workers : Int) (M : Nat) (hmany : ∀ w, Calls Try.prog 46 #[.int .i64 workers] w fun e w' => e = .returned (.int .i64 (M : Int)) ∧ w' = w) (hreach : zs.length ≤ 10000)
    (w : World) (hBs : P Bs) (hBw : P Bw) (hP : ∀ k, P k → k < w.heap.size) (hs : w.cell? ⟨Bs, 0, none⟩ = some (.slice A zs.length cap)) (hw : w.cell? ⟨Bw, 0, none⟩ = some (.int .i64 workers)) (hI : Ints P w A zs) :
    SeqStopsK Fence.wide n Try.prog 48 #[.pointer (some ⟨Bs, 0, none⟩), .pointer (some ⟨Bw, 0, none⟩)] (fun x : Pos zs M => #[Value.int .i64 (x.1 : Int)]) (Keeps P) (fun ys => ys.map (·.1) = pl zs M zs.length) (fun pre => ∃ k, k ≤ zs.length ∧ pre.map (·.1) = pl zs M k) zs.length w := fun l J Jx W hW _ _ hY h0 => by
  have hW' := Keeps.of_below hW hP
  exact each1_in n hn l Bs Bw cap P A zs workers M hmany hreach J Jx hY W hBw ((hW'.cell (p := ⟨Bs, 0, none⟩) hBs).trans hs) ((hW'.cell (p := ⟨Bw, 0, none⟩) hBw).trans hw) (hI.keep hW') h0

/-- How often each worker is picked, at these places. -/
def bump (zs : List Int) (acc : List Int) (i : Nat) : List Int := acc.set (zs[i]?.getD 0).toNat (acc.getD (zs[i]?.getD 0).toNat 0 + 1)
def tally (zs : List Int) (M : Nat) (is : List Nat) : List Int := is.foldl (bump zs) (List.replicate M 0)
theorem tally_snoc (zs : List Int) (M : Nat) (is : List Nat) (i : Nat) : tally zs M (is ++ [i]) = bump zs (tally zs M is) i := by simp [tally]
theorem tally_length (zs : List Int) (M : Nat) (is : List Nat) : (tally zs M is).length = M := by
  have : ∀ (is : List Nat) (acc : List Int), (is.foldl (bump zs) acc).length = acc.length := by
    intro is
    induction is with
    | nil => intro acc; rfl
    | cons i is ih => intro acc; rw [List.foldl_cons, ih]; simp [bump]
  rw [tally, this]; simp
end Go.Proofs.Ytkncpbaknigamaa.GEach
