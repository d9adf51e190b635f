/- FairEach: the walk of the law (its range over fair.Each's function inside the fence). The drawn regions' steps are written by wip/tools/mkEach.py. -/
import Derived.Test.YtkncpbaknigamaaGEach
import Derived.Test.YtkncpbaknigamaaPEachx1
import Derived.RangeFuncWrites
import Derived.Shelf.RegionOpen
import Derived.Maps.AppendAt
namespace Go.Proofs.Ytkncpbaknigamaa.EachLaw
open Go.RowKit Go.Shelf Go.Proofs.YtkncpbaknigamaaW.PrintWords Go.Proofs.YtkncpbaknigamaaW.PrintLast Go.Proofs.YtkncpbaknigamaaW.PrintMore Go.Proofs.Ytkncpbaknigamaa.FairMath Go.Proofs.Ytkncpbaknigamaa.GEach Go.Proofs.Ytkncpbaknigamaa.PFair
attribute [local go_sem] max2_int min2_int max_two min_two max_three min_three max_four min_four Oper.semAt_some
set_option linter.unusedVariables false
set_option linter.unusedSimpArgs false

/-- The places among the first i, as numbers. -/
def wants (zs : List Int) (M i : Nat) : List Int := (pl zs M i).map (fun j : Nat => (j : Int))
theorem wants_length (zs : List Int) (M i : Nat) : (wants zs M i).length ≤ i := by rw [wants, List.length_map]; exact pl_length zs M i
theorem wants_yes {zs : List Int} {M k : Nat} (h : 0 ≤ zs[k]?.getD 0 ∧ zs[k]?.getD 0 < (M : Int)) : wants zs M (k + 1) = wants zs M k ++ [(k : Int)] := by
  rw [wants, pl_yes h, List.map_append]; rfl
theorem wants_no {zs : List Int} {M k : Nat} (h : ¬ (0 ≤ zs[k]?.getD 0 ∧ zs[k]?.getD 0 < (M : Int))) : wants zs M (k + 1) = wants zs M k := by
  rw [wants, pl_no h]; rfl
theorem pl_prefix (zs : List Int) (M : Nat) : ∀ (d k : Nat), ∃ r, pl zs M (k + d) = pl zs M k ++ r
  | 0, k => ⟨[], by simp⟩
  | d + 1, k => by
    obtain ⟨r, hr⟩ := pl_prefix zs M d k
    by_cases h : 0 ≤ zs[k + d]?.getD 0 ∧ zs[k + d]?.getD 0 < (M : Int)
    · exact ⟨r ++ [k + d], by rw [show k + (d + 1) = k + d + 1 from rfl, pl_yes h, hr, List.append_assoc]⟩
    · exact ⟨r, by rw [show k + (d + 1) = k + d + 1 from rfl, pl_no h, hr]⟩
theorem same_loop (l : List Int) (hl : l.length ≤ 10000) (d : Nat) : ∀ (k i : Nat), l.length - i = d → d < k → i ≤ l.length → PEach.hibernacleref03_SameInts.l0 k l l (i : Int) = some true := by
  induction d with
  | zero =>
    intro k i h hk hi
    obtain ⟨k, rfl⟩ : ∃ j, k = j + 1 := ⟨k - 1, by omega⟩
    rw [PEach.hibernacleref03_SameInts.l0, if_neg (by omega)]
  | succ d ih =>
    intro k i h hk hi
    obtain ⟨k, rfl⟩ : ∃ j, k = j + 1 := ⟨k - 1, by omega⟩
    rw [PEach.hibernacleref03_SameInts.l0, if_pos (by omega), if_pos (by omega), if_pos (by omega), if_pos rfl, wrap_cast ((i : Int) + 1) (i + 1) (by omega) (by omega)]
    exact ih k (i + 1) (by omega) (by omega) (by omega)
theorem same_self (l : List Int) (hl : l.length ≤ 99) : PEach.hibernacleref03_SameInts.f 100 l l = some true := by
  rw [PEach.hibernacleref03_SameInts.f, if_pos rfl]
  exact same_loop l (by omega) l.length 100 0 (by omega) (by omega) (by omega)

theorem own_slice {W : World} {base e size k : Nat} {v : Value} {xs : List Value} (h : W.ownsRow base e size v k xs) : ∃ A c, v = .slice A k c := by
  rcases h.2 with ⟨rfl, h0⟩ | ⟨g, cap, _, rfl, _⟩
  · exact ⟨none, 0, by rw [h0]⟩
  · exact ⟨_, cap, rfl⟩
/-- fair.Each, called: the two boxes, and nothing else. -/
theorem each_calls (A : Option Addr) (len cap : Nat) (workers : Int) (w : World) :
    Calls Try.prog 22 #[.slice A len cap, .int .i64 workers] w fun e w' => e = .returned (.func (.func 48) #[] #[.pointer (some ⟨w.heap.size, 0, none⟩), .pointer (some ⟨w.heap.size + 1, 0, none⟩)]) ∧ Below w.heap.size w w' ∧ Boxed w' w.heap.size 22 (.slice A len cap) ∧ Boxed w' (w.heap.size + 1) 3 (.int .i64 workers) ∧ w'.heap.size = w.heap.size + 2 := by
  refine ((callsIn_wide (n := 3)).1 (each_in 3 A len cap workers w)).mono ?_
  rintro e w' ⟨rfl, rfl⟩
  have b1 := Boxed.new w 22 (.slice A len cap)
  have b2 := Boxed.new (w.alloc (.cells #[.slice A len cap] 22)) 3 (.int .i64 workers)
  rw [World.size_alloc] at b2
  exact ⟨rfl, ((Below.refl _ _).alloc (Nat.le_refl _) _).alloc (by simp) _, b1.alloc _, b2, by simp⟩

theorem around_world (a b r : Int) (w : World) (h : PFair.hibernacleref03_Around.f a b = some r) : Calls Try.prog 17 #[.int .i64 a, .int .i64 b] w fun e w' => e = .returned (.int .i64 r) ∧ Below w.heap.size w w' ∧ w'.heap.size = w.heap.size := by
  refine (PFair.hibernacleref03_Around.calls a b r w h).mono ?_
  rintro e w' ⟨rfl, ⟨nd, rfl⟩⟩
  exact ⟨rfl, pw_below_drewN (Below.refl _ _) nd, rfl⟩

set_option maxRecDepth 100000 in
theorem func_not_nil (bs : Array Value) (W : World) : (binOp BinOp.eql 30 (Value.func (Fn.func 48) #[] bs) Value.nilFunc).run Try.prog W = .ok (.bool false) W := by
  rfl

def FairEach.T6 : Bool × List (List Nat × List Nat) := (true, [([], []), ([], []), ([0, 1], [0, 1]), ([2], [2]), ([3], [3]), ([4], [4]), ([5], [5]), ([5], [5]), ([6, 7, 5], [5, 6, 7]), ([8, 5], [5, 8]), ([5], [5]), ([10, 5, 5], [5, 10]), ([9, 11, 5], [5, 9, 11]), ([5, 12], [5, 12])])
def FairEach.B6 : List Nat := [0, 0, 3, 7, 15, 31, 63, 63, 255, 511, 63, 1087, 4095, 8191]
theorem FairEach.tab6 : rtab .any (opsOf Try.f4 6) = FairEach.T6 := by kernel_rfl
theorem FairEach.bits6 : waitsOk FairEach.T6.2 FairEach.B6 = true := by kernel_rfl
def FairEach.T17 : Bool × List (List Nat × List Nat) := (true, [([], []), ([], []), ([], []), ([], []), ([3], [3]), ([2, 4], [2, 4]), ([1, 5], [1, 5]), ([0, 6], [0, 6]), ([7, 7], [7]), ([8, 8], [8]), ([8, 9], [8, 9]), ([10, 9, 0, 1, 2, 3, 4, 5, 6, 7, 8, 9, 10], [10])])
def FairEach.B17 : List Nat := [0, 0, 0, 0, 8, 28, 62, 127, 255, 511, 1023, 2047]
theorem FairEach.tab17 : rtab .any (opsOf Try.f4 17) = FairEach.T17 := by kernel_rfl
theorem FairEach.bits17 : waitsOk FairEach.T17.2 FairEach.B17 = true := by kernel_rfl

theorem ESt.own {β : Type} (D : Nat) (W0 : World) (f : β → List Int) (hD : D ≤ W0.heap.size) {B : Nat} (hB : D ≤ B) (C : β → Prop) : OwnFrom B (fun s W => (∃ v, Boxed W D 22 v ∧ W.ownsRow D 3 1 v (f s).length ((f s).map (Value.int .i64)) ∧ C s) ∧ Below D W0 W) :=
  OwnFrom.and (Own.from (holdsRow_own D D 22 3 1 (fun s => (f s).length) (fun s => (f s).map (Value.int .i64)) (fun s v => C s)) _) (ownFrom_below hD hB)

def vals {zs : List Int} {M : Nat} (xs : List (Pos zs M)) : List Int := xs.map fun x => (x.1 : Int)
theorem vals_wants {zs : List Int} {M k : Nat} {xs : List (Pos zs M)} (h : xs.map (·.1) = pl zs M k) : vals xs = wants zs M k := by
  rw [wants, ← h, List.map_map]; rfl

/-- The body is left by its end, or by a return, alone. -/
def calmPost (n : Nat) (fn : Func) (R : Ending → World → Prop) : Exit → Act → World → Prop
  | .normal, a, w | .ret, a, w => LeavesInM Fence.wide n Try.prog fn a.tmps R a.defers .returning w
  | _, _, _ => False

set_option maxRecDepth 100000 in
set_option maxHeartbeats 8000000 in
theorem walk (A0 : Option Addr) (c0 : Nat) (l0 : List Int) (a1 : Int) (a2 : Int) (w : World) (hr0 : Kd.C (Kd.int .i64) w A0 l0.length l0) (hc0 : l0.length ≤ c0) (hlo : -9223372036854775808 ≤ a2) :
    Calls Try.prog 4 #[.slice A0 l0.length c0, .int .i64 a1, .int .i64 a2] w fun e w' => e = .returned (.bool true) ∧ Below w.heap.size w w' := by
  have HR0 := Aside0.mk hr0
  have HC0 := Aside0.mk hc0
  clear hr0 hc0
  have HB := Aside0.mk (Below.refl w.heap.size w)
  obtain ⟨zs, A4, hzs, -⟩ := few_tells l0 30 (by omega)
  obtain ⟨A44, hm30⟩ := around_tells a2 31 hlo (by omega)
  obtain ⟨m, hm⟩ : ∃ m : Nat, Ar a2 31 = m := ⟨_, rfl⟩
  rw [hm] at A44 hm30
  replace A4 : PFair.hibernaclelaw14_few.f l0 30 = some zs := A4
  replace A44 : PFair.hibernacleref03_Around.f a2 31 = some (m : Int) := A44
  obtain ⟨M, hM⟩ : ∃ M : Nat, Many a1 = M := ⟨_, rfl⟩
  have hmany := many_same a1
  have HMany := Aside0.mk (Many_f a1)
  have hM64 := (many_range a1).2.1
  rw [hM] at hmany HMany hM64
  clear hM hm hlo
  obtain ⟨i0, hi, hz0, hz1, hz2⟩ := info_parts info3
  have HI0 := Aside0.mk hi
  have HM30 := Aside0.mk hm30
  clear hi
  refine (callsIn_wide (n := 4)).1 ?_
  refine callsIn_of_wp_marks Try.func4 rfl trivial ?_ rfl
  refine wpIn_mono (Q := calmPost 4 Try.f4 (fun e w' => e = .returned (.bool true) ∧ Below w.heap.size w w')) ?_ (fun e a w h => by cases e <;> first | exact h | exact h.elim)
  refine wpIn_wide.2 ?_
  simp only [Try.ntmps4, List.size_toArray, List.length_cons, List.length_nil, Nat.reduceAdd, Nat.reduceSub, Array.replicate_succ, Array.replicate_zero, List.push_toArray, List.append_toArray, List.nil_append, List.cons_append]
  have HX := Aside0.mk (Boxed.new w 3 (.int .i64 a2))
  go_wp2_with (first | ((with_reducible refine gate_callee (f := 15) rfl ?_); refine goesL_ (some 13) rfl rfl Try.func15 (by kernel_rfl) rfl #[.slice A0 l0.length c0, .int .i64 30] rfl (by (try simp only [List.map_toArray, List.map_cons, List.map_nil]); first | done | rfl | (simp only [List.length_drop, List.length_take]; rfl)) ?_; (with_reducible refine (PFair.hibernaclelaw14_few.calls (fun k_ => k_ < w.heap.size) _ _ l0 30 zs _ ?side1 A4).mono ?_); (case side1 => exact Kd.V_mk HC0.out (Kd.F_below (Kd.C_F (Kd.heap_int .i64) HR0.out) (by repeat (first | (with_reducible first | exact HB.out | apply below_alloc | apply pw_below_drewN | apply below_drew1) | exact HB.out)))); rintro e w5 ⟨v121, rfl, ho0, hb⟩; refine ⟨_, rfl, ?_⟩; have n0_ := Aside0.mk (Kd.V_lower (Kd.V_mono (ok' := fun k_ => k_ ≠ w.heap.size) ho0 (fun k_ hk_ => by rw [World.size_alloc] at hk_; omega)) (below_size (by repeat (first | (with_reducible first | exact HB.out | apply below_alloc | apply pw_below_drewN | apply below_drew1) | exact HB.out)))); have n1_ := Aside0.mk (below_step (by repeat (first | (with_reducible first | exact HB.out | apply below_alloc | apply pw_below_drewN | apply below_drew1) | exact HB.out)) hb); clear HB; have HO122 := n0_; have HB := n1_; clear n0_ n1_; replace HX := Aside0.mk ((hb.block w.heap.size (by simp)).trans HX.out); clear hb ho0))
  go_loopg [7, 8] (zs.length + 1) (fun kq v7 v8 w' => ∃ i : Nat, v8 = .int .i64 (i : Int) ∧ i ≤ zs.length ∧ kq + i = zs.length + 1 ∧ Aside0 (Kd.V (Kd.int .i64) 3 w' w.heap.size (fun k_ => k_ ≠ w.heap.size ∧ some k_ ≠ (v7 : Value).ownBlock) v121 zs) ∧ Aside0 (Kd.R (Kd.int .i64) 3 w' w.heap.size (fun k_ => k_ ≠ w.heap.size) v7 (wants zs M i)) ∧ Aside0 (Below w.heap.size w w') ∧ Aside0 (Boxed w' w.heap.size 3 (.int .i64 a2)))
  case atStart => exact ⟨0, rfl, Nat.zero_le _, rfl, ⟨Kd.V_mono HO122.out (fun _ hk => ⟨hk, by simp [Value.ownBlock]⟩)⟩, ⟨Kd.R_nil _ _ _ _ _⟩, HB, HX⟩
  case round =>
    clear HB HO122 HX HR0 HC0
    obtain ⟨i, rfl, hi, hq, HO_0, HO_7, HB, HX⟩ := hrel
    obtain ⟨Az, cz, ez⟩ := Kd.V_slice HO_0.out
    subst ez
    by_cases c6 : (i : Int) < (zs.length : Int)
    · obtain ⟨k1, rfl⟩ : ∃ j, gk = j + 1 := ⟨gk - 1, by omega⟩
      have p0 : 0 ≤ (i : Int) := by omega
      have q0 := c6
      have c6b : decide ((i : Int) < (zs.length : Int)) = true := decide_eq_true c6
      have hrd : rd zs (i : Int) = zs[i]?.getD 0 := by simp [rd, List.getD_eq_getElem?_getD]
      have HI := Aside0.mk (show i + 1 ≤ zs.length by omega)
      have HW1 := Aside0.mk (wrap_cast ((i : Int) + 1) (i + 1) (by omega) (by omega))
      by_cases c8 : 0 ≤ rd zs (i : Int)
      · have c8b : decide (0 ≤ (rd zs (i : Int))) = true := decide_eq_true c8
        by_cases c10 : rd zs (i : Int) < (M : Int)
        · have c10b : decide (rd zs (i : Int) < (M : Int)) = true := decide_eq_true c10
          have HWN := Aside0.mk (wants_yes (zs := zs) (M := M) (k := i) (by rw [← hrd]; exact ⟨c8, c10⟩))
          have HLEN := Aside0.mk (wants_length zs M i)
          have HZ := Aside0.mk hzs
          clear c8 c10 c6 hrd hmany A44
          try go_wp2
          replace HO_0 := Aside0.mk (Kd.V_drew HO_0.out)
          replace HO_7 := Aside0.mk (Kd.R_drew HO_7.out)
          replace HB := Aside0.mk (below_drew1 HB.out)
          replace HX := Aside0.mk (show Boxed wr.drew w.heap.size 3 (.int .i64 a2) from HX.out)
          obtain ⟨ad, e123, hx⟩ := Kd.at_int (Kd.V_reads' HO_0.out).2.2 (i : Int) p0 q0
          cases e123
          rw [Int.toNat_natCast] at hx
          replace p0 := eq_true p0
          replace q0 := eq_true q0
          refine start_ (n := 14) (S := fun w' => w'.cell? (ad.add i) = some (.int .i64 (rd zs (i : Int)))) (ds := []) #[false, false, false, false, false, false, false, false, false, false, false, false, false, false] (by kernel_rfl) rfl rfl hx (fun hHeld => ?_); refine with_tabW FairEach.tab6 FairEach.bits6 (fun HT_ HW_ => ?_)
          generalize wr.drew = w1 at HO_0 HO_7 HB HX hx hHeld ⊢
          refine pure_ (i := 0) (N := some 20) (v := ?_) (a' := ?_) #[true, false, false, false, false, false, false, false, false, false, false, false, false, false] rfl rfl (any_of HT_.out (by kernel_rfl)) (fun _ _ _ h => h) (Or.inl ⟨by rfl, ?_⟩) ?_ ?_
          rotate_left
          · intro w'
            go_simp
            with_reducible rfl
          rotate_left
          · simp only [Act.put, List.setIfInBounds_toArray, List.set_cons_zero, List.set_cons_succ, i64_w, i32_w]
            rfl
          refine pure_ (i := 1) (N := some 21) (v := ?_) (a' := ?_) #[true, true, false, false, false, false, false, false, false, false, false, false, false, false] rfl rfl (any_of HT_.out (by kernel_rfl)) (fun _ _ _ h => h) (Or.inl ⟨by rfl, ?_⟩) ?_ ?_
          rotate_left
          · intro w'
            go_simp
            with_reducible rfl
          rotate_left
          · simp only [Act.put, List.setIfInBounds_toArray, List.set_cons_zero, List.set_cons_succ, i64_w, i32_w]
            rfl
          refine pure_ (i := 2) (N := some 22) (v := ?_) (a' := ?_) #[true, true, true, false, false, false, false, false, false, false, false, false, false, false] rfl rfl (any_of HT_.out (by kernel_rfl)) (fun _ _ _ h => h) (Or.inl ⟨by rfl, ?_⟩) ?_ ?_
          rotate_left
          · intro w'
            go_simp
            with_reducible rfl
          rotate_left
          · simp only [Act.put, List.setIfInBounds_toArray, List.set_cons_zero, List.set_cons_succ, i64_w, i32_w]
            rfl
          refine take_ (i := 3) (N := some 23) (v := ?_) (a' := ?_) #[true, true, true, true, false, false, false, false, false, false, false, false, false, false] rfl rfl (take_ofW HT_.out HW_.out (by kernel_rfl)) (fun _ _ _ h => h) (Or.inl ⟨by rfl, ?_⟩) hHeld ?_ ?_
          rotate_left
          · rintro w' s0
            go_simp
            with_reducible rfl
          rotate_left
          · simp only [Act.put, List.setIfInBounds_toArray, List.set_cons_zero, List.set_cons_succ, i64_w, i32_w]
            rfl
          refine pure_ (i := 4) (N := some 24) (v := ?_) (a' := ?_) #[true, true, true, true, true, false, false, false, false, false, false, false, false, false] rfl rfl (any_of HT_.out (by kernel_rfl)) (fun _ _ _ h => h) (Or.inl ⟨by rfl, ?_⟩) ?_ ?_
          rotate_left
          · intro w'
            go_simp
            with_reducible rfl
          rotate_left
          · simp only [Act.put, List.setIfInBounds_toArray, List.set_cons_zero, List.set_cons_succ, i64_w, i32_w]
            rfl
          refine pure_ (i := 5) (N := some 25) (v := ?_) (a' := ?_) #[true, true, true, true, true, true, false, false, false, false, false, false, false, false] rfl rfl (any_of HT_.out (by kernel_rfl)) (fun _ _ _ h => h) (Or.inl ⟨by rfl, ?_⟩) ?_ ?_
          rotate_left
          · intro w'
            go_simp
            with_reducible rfl
          rotate_left
          · simp only [Act.put, List.setIfInBounds_toArray, List.set_cons_zero, List.set_cons_succ, i64_w, i32_w]
            rfl
          refine pure_ (i := 6) (N := some 26) (v := ?_) (a' := ?_) #[true, true, true, true, true, true, true, false, false, false, false, false, false, false] rfl rfl (any_of HT_.out (by kernel_rfl)) (fun _ _ _ h => h) (Or.inl ⟨by rfl, ?_⟩) ?_ ?_
          rotate_left
          · intro w'
            go_simp
            with_reducible rfl
          rotate_left
          · simp only [Act.put, List.setIfInBounds_toArray, List.set_cons_zero, List.set_cons_succ, i64_w, i32_w]
            rfl
          refine pure_ (i := 7) (N := some 27) (v := ?_) (a' := ?_) #[true, true, true, true, true, true, true, true, false, false, false, false, false, false] rfl rfl (any_of HT_.out (by kernel_rfl)) (fun _ _ _ h => h) (Or.inl ⟨by rfl, ?_⟩) ?_ ?_
          rotate_left
          · intro w'
            go_simp
            with_reducible rfl
          rotate_left
          · simp only [Act.put, List.setIfInBounds_toArray, List.set_cons_zero, List.set_cons_succ, i64_w, i32_w]
            rfl
          refine pure_ (i := 8) (N := some 28) (v := ?_) (a' := ?_) #[true, true, true, true, true, true, true, true, true, false, false, false, false, false] rfl rfl (any_of HT_.out (by kernel_rfl)) (fun _ _ _ h => h) (Or.inl ⟨by rfl, ?_⟩) ?_ ?_
          rotate_left
          · intro w'
            go_simp
            with_reducible rfl
          rotate_left
          · simp only [Act.put, List.setIfInBounds_toArray, List.set_cons_zero, List.set_cons_succ, i64_w, i32_w]
            rfl
          refine pure_ (i := 10) (N := some 30) (v := ?_) (a' := ?_) #[true, true, true, true, true, true, true, true, true, false, true, false, false, false] rfl rfl (any_of HT_.out (by kernel_rfl)) (fun _ _ _ h => h) (Or.inl ⟨by rfl, ?_⟩) ?_ ?_
          rotate_left
          · intro w'
            go_simp
            with_reducible rfl
          rotate_left
          · simp only [Act.put, List.setIfInBounds_toArray, List.set_cons_zero, List.set_cons_succ, i64_w, i32_w]
            rfl
          refine take_ (i := 9) (N := some 29) (v := ?_) (a' := ?_) #[true, true, true, true, true, true, true, true, true, true, true, false, false, false] rfl rfl (take_ofW HT_.out HW_.out (by kernel_rfl)) (fun _ _ _ h => h) (Or.inl ⟨by rfl, ?_⟩) hHeld ?_ ?_
          rotate_left
          · rintro w' s0
            go_simp
            with_reducible rfl
          rotate_left
          · simp only [Act.put, List.setIfInBounds_toArray, List.set_cons_zero, List.set_cons_succ, i64_w, i32_w]
            rfl
          refine one_ (i := 11) (N := some 31) #[true, true, true, true, true, true, true, true, true, true, true, true, false, false] rfl rfl (one_of HT_.out (by kernel_rfl)) (by decide) (fun K hK => ?_)
          refine goes_ Try.func21 (by kernel_rfl) rfl #[.int .i64 a1] (by rfl) rfl rfl (by (try simp only [List.map_toArray, List.map_cons, List.map_nil]); first | done | rfl | (simp only [List.length_drop, List.length_take]; rfl)) ?_
          with_reducible refine (PFair.hibernacleref14_Many.calls a1 (M : Int) _ HMany.out).mono ?_
          rintro e w2 ⟨rfl, hb⟩
          refine ⟨_, rfl, ?_⟩
          have hS := (hb.cell (World.block_lt_of_cell? _ _ hHeld)).trans hHeld
          replace HO_0 := Aside0.mk (Kd.V_below HO_0.out hb)
          replace HO_7 := Aside0.mk (Kd.R_below HO_7.out hb)
          replace HX := Aside0.mk (show Boxed w2 w.heap.size 3 (.int .i64 a2) from (hb.block _ (Boxed.lt HX.out)).trans HX.out)
          replace HB := Aside0.mk (below_step HB.out hb)
          clear hb
          refine hK.out _ _ hS (fun hHeld => ?_)
          clear hK K
          refine norm_ (a' := ?_) ?_ ?_
          rotate_left
          · show Act.put _ (some 31) _ = _
            simp only [Act.put, List.setIfInBounds_toArray, List.set_cons_zero, List.set_cons_succ, i64_w, i32_w]
            rfl
          refine pure_ (i := 12) (N := some 32) (v := ?_) (a' := ?_) #[true, true, true, true, true, true, true, true, true, true, true, true, true, false] rfl rfl (any_of HT_.out (by kernel_rfl)) (fun _ _ _ h => h) (Or.inl ⟨by rfl, ?_⟩) ?_ ?_
          rotate_left
          · intro w'
            go_simp
            with_reducible rfl
          rotate_left
          · simp only [Act.put, List.setIfInBounds_toArray, List.set_cons_zero, List.set_cons_succ, i64_w, i32_w]
            rfl
          refine pure_ (i := 13) (N := some 33) (v := ?_) (a' := ?_) #[true, true, true, true, true, true, true, true, true, true, true, true, true, true] rfl rfl (any_of HT_.out (by kernel_rfl)) (fun _ _ _ h => h) (Or.inl ⟨by rfl, ?_⟩) ?_ ?_
          rotate_left
          · intro w'
            go_simp
            with_reducible rfl
          rotate_left
          · simp only [Act.put, List.setIfInBounds_toArray, List.set_cons_zero, List.set_cons_succ, i64_w, i32_w]
            rfl
          refine done_ (done_of HT_.out (by kernel_rfl)) ?_
          go_wp2_with (first | ((with_reducible refine gate_builtin (b := .append) (xs := #[.tmp 34, .tmp 36]) rfl ?_); at_builtin; refine Kd.R_append (Kd.int .i64) (w0 := w) w.heap.size rfl (.tmp 34) (.tmp 36) 22 3 (.int .i64 0) 8 rfl Try.underlying22 info3 rfl (by decide) (by omega) _ (wants zs M i) (i : Int) [.int .i64 (i : Int)] (fun k_ => k_ ≠ w.heap.size) (fun _ => False) rfl rfl ?aP (fun _ hk => hk.elim) ?aF ?aO ?aB ?aS ?aL ?_; (case aP => exact rfl); (case aB => exact (by repeat (first | (with_reducible first | exact HB.out | apply below_alloc | apply pw_below_drewN | apply below_drew1) | exact HB.out))); (case aF => exact (fun k_ hk => by have := Boxed.lt HX.out; omega)); (case aO => exact (by (with_reducible repeat (first | apply Kd.R_alloc | apply Kd.R_drewN | apply Kd.R_drew)); exact HO_7.out)); (case aS => exact (below_size (by repeat (first | (with_reducible first | exact HB.out | apply below_alloc | apply pw_below_drewN | apply below_drew1) | exact HB.out)))); (case aL => have := HLEN.out; have := HZ.out; omega); intro v127 w15 ho hb hg hat; rw [← HWN.out] at ho; have hneX : some w.heap.size ≠ (u7 : Value).ownBlock := (fun e => HO_7.out.1 _ e.symm rfl); have n0_ := Aside0.mk (Kd.V_afterv (ok := (fun k_ => k_ ≠ w.heap.size)) (by (with_reducible repeat (first | apply Kd.V_alloc | apply Kd.V_drewN | apply Kd.V_drew)); exact HO_0.out) hg hat); have n1_ := Aside0.mk (hb); have n2_ := Aside0.mk (ho); have n3_ := Aside0.mk (Boxed.kept (show Boxed _ w.heap.size 3 (.int .i64 a2) from HX.out) hg hneX); clear HO_0; clear HB; clear HO_7; clear HX; have HO_0 := n0_; have HB := n1_; have HO128 := n2_; have HX := n3_; clear n0_ n1_ n2_ n3_; clear ho hb hg hat hneX))
          go_roundg k1
          case measure => omega
          case rel => exact ⟨i + 1, (by first | rw [HW1.out] | (simp; done)), HI.out, by omega, HO_0, HO128, HB, HX⟩
        · have c10b : decide (rd zs (i : Int) < (M : Int)) = false := decide_eq_false c10
          have HWN := Aside0.mk (wants_no (zs := zs) (M := M) (k := i) (by rw [← hrd]; exact fun h => c10 h.2))
          clear c8 c10 c6 hrd hmany A44
          try go_wp2
          replace HO_0 := Aside0.mk (Kd.V_drew HO_0.out)
          replace HO_7 := Aside0.mk (Kd.R_drew HO_7.out)
          replace HB := Aside0.mk (below_drew1 HB.out)
          replace HX := Aside0.mk (show Boxed wr.drew w.heap.size 3 (.int .i64 a2) from HX.out)
          obtain ⟨ad, e123, hx⟩ := Kd.at_int (Kd.V_reads' HO_0.out).2.2 (i : Int) p0 q0
          cases e123
          rw [Int.toNat_natCast] at hx
          replace p0 := eq_true p0
          replace q0 := eq_true q0
          refine start_ (n := 14) (S := fun w' => w'.cell? (ad.add i) = some (.int .i64 (rd zs (i : Int)))) (ds := []) #[false, false, false, false, false, false, false, false, false, false, false, false, false, false] (by kernel_rfl) rfl rfl hx (fun hHeld => ?_); refine with_tabW FairEach.tab6 FairEach.bits6 (fun HT_ HW_ => ?_)
          generalize wr.drew = w1 at HO_0 HO_7 HB HX hx hHeld ⊢
          refine pure_ (i := 0) (N := some 20) (v := ?_) (a' := ?_) #[true, false, false, false, false, false, false, false, false, false, false, false, false, false] rfl rfl (any_of HT_.out (by kernel_rfl)) (fun _ _ _ h => h) (Or.inl ⟨by rfl, ?_⟩) ?_ ?_
          rotate_left
          · intro w'
            go_simp
            with_reducible rfl
          rotate_left
          · simp only [Act.put, List.setIfInBounds_toArray, List.set_cons_zero, List.set_cons_succ, i64_w, i32_w]
            rfl
          refine pure_ (i := 1) (N := some 21) (v := ?_) (a' := ?_) #[true, true, false, false, false, false, false, false, false, false, false, false, false, false] rfl rfl (any_of HT_.out (by kernel_rfl)) (fun _ _ _ h => h) (Or.inl ⟨by rfl, ?_⟩) ?_ ?_
          rotate_left
          · intro w'
            go_simp
            with_reducible rfl
          rotate_left
          · simp only [Act.put, List.setIfInBounds_toArray, List.set_cons_zero, List.set_cons_succ, i64_w, i32_w]
            rfl
          refine pure_ (i := 2) (N := some 22) (v := ?_) (a' := ?_) #[true, true, true, false, false, false, false, false, false, false, false, false, false, false] rfl rfl (any_of HT_.out (by kernel_rfl)) (fun _ _ _ h => h) (Or.inl ⟨by rfl, ?_⟩) ?_ ?_
          rotate_left
          · intro w'
            go_simp
            with_reducible rfl
          rotate_left
          · simp only [Act.put, List.setIfInBounds_toArray, List.set_cons_zero, List.set_cons_succ, i64_w, i32_w]
            rfl
          refine take_ (i := 3) (N := some 23) (v := ?_) (a' := ?_) #[true, true, true, true, false, false, false, false, false, false, false, false, false, false] rfl rfl (take_ofW HT_.out HW_.out (by kernel_rfl)) (fun _ _ _ h => h) (Or.inl ⟨by rfl, ?_⟩) hHeld ?_ ?_
          rotate_left
          · rintro w' s0
            go_simp
            with_reducible rfl
          rotate_left
          · simp only [Act.put, List.setIfInBounds_toArray, List.set_cons_zero, List.set_cons_succ, i64_w, i32_w]
            rfl
          refine pure_ (i := 4) (N := some 24) (v := ?_) (a' := ?_) #[true, true, true, true, true, false, false, false, false, false, false, false, false, false] rfl rfl (any_of HT_.out (by kernel_rfl)) (fun _ _ _ h => h) (Or.inl ⟨by rfl, ?_⟩) ?_ ?_
          rotate_left
          · intro w'
            go_simp
            with_reducible rfl
          rotate_left
          · simp only [Act.put, List.setIfInBounds_toArray, List.set_cons_zero, List.set_cons_succ, i64_w, i32_w]
            rfl
          refine pure_ (i := 5) (N := some 25) (v := ?_) (a' := ?_) #[true, true, true, true, true, true, false, false, false, false, false, false, false, false] rfl rfl (any_of HT_.out (by kernel_rfl)) (fun _ _ _ h => h) (Or.inl ⟨by rfl, ?_⟩) ?_ ?_
          rotate_left
          · intro w'
            go_simp
            with_reducible rfl
          rotate_left
          · simp only [Act.put, List.setIfInBounds_toArray, List.set_cons_zero, List.set_cons_succ, i64_w, i32_w]
            rfl
          refine pure_ (i := 6) (N := some 26) (v := ?_) (a' := ?_) #[true, true, true, true, true, true, true, false, false, false, false, false, false, false] rfl rfl (any_of HT_.out (by kernel_rfl)) (fun _ _ _ h => h) (Or.inl ⟨by rfl, ?_⟩) ?_ ?_
          rotate_left
          · intro w'
            go_simp
            with_reducible rfl
          rotate_left
          · simp only [Act.put, List.setIfInBounds_toArray, List.set_cons_zero, List.set_cons_succ, i64_w, i32_w]
            rfl
          refine pure_ (i := 7) (N := some 27) (v := ?_) (a' := ?_) #[true, true, true, true, true, true, true, true, false, false, false, false, false, false] rfl rfl (any_of HT_.out (by kernel_rfl)) (fun _ _ _ h => h) (Or.inl ⟨by rfl, ?_⟩) ?_ ?_
          rotate_left
          · intro w'
            go_simp
            with_reducible rfl
          rotate_left
          · simp only [Act.put, List.setIfInBounds_toArray, List.set_cons_zero, List.set_cons_succ, i64_w, i32_w]
            rfl
          refine pure_ (i := 8) (N := some 28) (v := ?_) (a' := ?_) #[true, true, true, true, true, true, true, true, true, false, false, false, false, false] rfl rfl (any_of HT_.out (by kernel_rfl)) (fun _ _ _ h => h) (Or.inl ⟨by rfl, ?_⟩) ?_ ?_
          rotate_left
          · intro w'
            go_simp
            with_reducible rfl
          rotate_left
          · simp only [Act.put, List.setIfInBounds_toArray, List.set_cons_zero, List.set_cons_succ, i64_w, i32_w]
            rfl
          refine pure_ (i := 10) (N := some 30) (v := ?_) (a' := ?_) #[true, true, true, true, true, true, true, true, true, false, true, false, false, false] rfl rfl (any_of HT_.out (by kernel_rfl)) (fun _ _ _ h => h) (Or.inl ⟨by rfl, ?_⟩) ?_ ?_
          rotate_left
          · intro w'
            go_simp
            with_reducible rfl
          rotate_left
          · simp only [Act.put, List.setIfInBounds_toArray, List.set_cons_zero, List.set_cons_succ, i64_w, i32_w]
            rfl
          refine take_ (i := 9) (N := some 29) (v := ?_) (a' := ?_) #[true, true, true, true, true, true, true, true, true, true, true, false, false, false] rfl rfl (take_ofW HT_.out HW_.out (by kernel_rfl)) (fun _ _ _ h => h) (Or.inl ⟨by rfl, ?_⟩) hHeld ?_ ?_
          rotate_left
          · rintro w' s0
            go_simp
            with_reducible rfl
          rotate_left
          · simp only [Act.put, List.setIfInBounds_toArray, List.set_cons_zero, List.set_cons_succ, i64_w, i32_w]
            rfl
          refine one_ (i := 11) (N := some 31) #[true, true, true, true, true, true, true, true, true, true, true, true, false, false] rfl rfl (one_of HT_.out (by kernel_rfl)) (by decide) (fun K hK => ?_)
          refine goes_ Try.func21 (by kernel_rfl) rfl #[.int .i64 a1] (by rfl) rfl rfl (by (try simp only [List.map_toArray, List.map_cons, List.map_nil]); first | done | rfl | (simp only [List.length_drop, List.length_take]; rfl)) ?_
          with_reducible refine (PFair.hibernacleref14_Many.calls a1 (M : Int) _ HMany.out).mono ?_
          rintro e w2 ⟨rfl, hb⟩
          refine ⟨_, rfl, ?_⟩
          have hS := (hb.cell (World.block_lt_of_cell? _ _ hHeld)).trans hHeld
          replace HO_0 := Aside0.mk (Kd.V_below HO_0.out hb)
          replace HO_7 := Aside0.mk (Kd.R_below HO_7.out hb)
          replace HX := Aside0.mk (show Boxed w2 w.heap.size 3 (.int .i64 a2) from (hb.block _ (Boxed.lt HX.out)).trans HX.out)
          replace HB := Aside0.mk (below_step HB.out hb)
          clear hb
          refine hK.out _ _ hS (fun hHeld => ?_)
          clear hK K
          refine norm_ (a' := ?_) ?_ ?_
          rotate_left
          · show Act.put _ (some 31) _ = _
            simp only [Act.put, List.setIfInBounds_toArray, List.set_cons_zero, List.set_cons_succ, i64_w, i32_w]
            rfl
          refine pure_ (i := 12) (N := some 32) (v := ?_) (a' := ?_) #[true, true, true, true, true, true, true, true, true, true, true, true, true, false] rfl rfl (any_of HT_.out (by kernel_rfl)) (fun _ _ _ h => h) (Or.inl ⟨by rfl, ?_⟩) ?_ ?_
          rotate_left
          · intro w'
            go_simp
            with_reducible rfl
          rotate_left
          · simp only [Act.put, List.setIfInBounds_toArray, List.set_cons_zero, List.set_cons_succ, i64_w, i32_w]
            rfl
          refine pure_ (i := 13) (N := some 33) (v := ?_) (a' := ?_) #[true, true, true, true, true, true, true, true, true, true, true, true, true, true] rfl rfl (any_of HT_.out (by kernel_rfl)) (fun _ _ _ h => h) (Or.inl ⟨by rfl, ?_⟩) ?_ ?_
          rotate_left
          · intro w'
            go_simp
            with_reducible rfl
          rotate_left
          · simp only [Act.put, List.setIfInBounds_toArray, List.set_cons_zero, List.set_cons_succ, i64_w, i32_w]
            rfl
          refine done_ (done_of HT_.out (by kernel_rfl)) ?_
          try go_wp2
          go_roundg k1
          case measure => omega
          case rel => exact ⟨i + 1, (by first | rw [HW1.out] | (simp; done)), HI.out, by omega, ⟨by (with_reducible repeat (first | apply Kd.V_alloc | apply Kd.V_drewN | apply Kd.V_drew)); exact HO_0.out⟩, ⟨by rw [HWN.out]; (with_reducible repeat (first | apply Kd.R_alloc | apply Kd.R_drewN | apply Kd.R_drew)); exact HO_7.out⟩, ⟨by repeat (first | (with_reducible first | exact HB.out | apply below_alloc | apply pw_below_drewN | apply below_drew1) | exact HB.out)⟩, ⟨HX.out⟩⟩
      · have c8b : decide (0 ≤ (rd zs (i : Int))) = false := decide_eq_false c8
        have HWN := Aside0.mk (wants_no (zs := zs) (M := M) (k := i) (by rw [← hrd]; exact fun h => c8 h.1))
        clear c8 c6 hrd hmany A44
        try go_wp2
        replace HO_0 := Aside0.mk (Kd.V_drew HO_0.out)
        replace HO_7 := Aside0.mk (Kd.R_drew HO_7.out)
        replace HB := Aside0.mk (below_drew1 HB.out)
        replace HX := Aside0.mk (show Boxed wr.drew w.heap.size 3 (.int .i64 a2) from HX.out)
        obtain ⟨ad, e123, hx⟩ := Kd.at_int (Kd.V_reads' HO_0.out).2.2 (i : Int) p0 q0
        cases e123
        rw [Int.toNat_natCast] at hx
        replace p0 := eq_true p0
        replace q0 := eq_true q0
        refine start_ (n := 14) (S := fun w' => w'.cell? (ad.add i) = some (.int .i64 (rd zs (i : Int)))) (ds := []) #[false, false, false, false, false, false, false, false, false, false, false, false, false, false] (by kernel_rfl) rfl rfl hx (fun hHeld => ?_); refine with_tabW FairEach.tab6 FairEach.bits6 (fun HT_ HW_ => ?_)
        generalize wr.drew = w1 at HO_0 HO_7 HB HX hx hHeld ⊢
        refine pure_ (i := 0) (N := some 20) (v := ?_) (a' := ?_) #[true, false, false, false, false, false, false, false, false, false, false, false, false, false] rfl rfl (any_of HT_.out (by kernel_rfl)) (fun _ _ _ h => h) (Or.inl ⟨by rfl, ?_⟩) ?_ ?_
        rotate_left
        · intro w'
          go_simp
          with_reducible rfl
        rotate_left
        · simp only [Act.put, List.setIfInBounds_toArray, List.set_cons_zero, List.set_cons_succ, i64_w, i32_w]
          rfl
        refine pure_ (i := 1) (N := some 21) (v := ?_) (a' := ?_) #[true, true, false, false, false, false, false, false, false, false, false, false, false, false] rfl rfl (any_of HT_.out (by kernel_rfl)) (fun _ _ _ h => h) (Or.inl ⟨by rfl, ?_⟩) ?_ ?_
        rotate_left
        · intro w'
          go_simp
          with_reducible rfl
        rotate_left
        · simp only [Act.put, List.setIfInBounds_toArray, List.set_cons_zero, List.set_cons_succ, i64_w, i32_w]
          rfl
        refine pure_ (i := 2) (N := some 22) (v := ?_) (a' := ?_) #[true, true, true, false, false, false, false, false, false, false, false, false, false, false] rfl rfl (any_of HT_.out (by kernel_rfl)) (fun _ _ _ h => h) (Or.inl ⟨by rfl, ?_⟩) ?_ ?_
        rotate_left
        · intro w'
          go_simp
          with_reducible rfl
        rotate_left
        · simp only [Act.put, List.setIfInBounds_toArray, List.set_cons_zero, List.set_cons_succ, i64_w, i32_w]
          rfl
        refine take_ (i := 3) (N := some 23) (v := ?_) (a' := ?_) #[true, true, true, true, false, false, false, false, false, false, false, false, false, false] rfl rfl (take_ofW HT_.out HW_.out (by kernel_rfl)) (fun _ _ _ h => h) (Or.inl ⟨by rfl, ?_⟩) hHeld ?_ ?_
        rotate_left
        · rintro w' s0
          go_simp
          with_reducible rfl
        rotate_left
        · simp only [Act.put, List.setIfInBounds_toArray, List.set_cons_zero, List.set_cons_succ, i64_w, i32_w]
          rfl
        refine pure_ (i := 4) (N := some 24) (v := ?_) (a' := ?_) #[true, true, true, true, true, false, false, false, false, false, false, false, false, false] rfl rfl (any_of HT_.out (by kernel_rfl)) (fun _ _ _ h => h) (Or.inl ⟨by rfl, ?_⟩) ?_ ?_
        rotate_left
        · intro w'
          go_simp
          with_reducible rfl
        rotate_left
        · simp only [Act.put, List.setIfInBounds_toArray, List.set_cons_zero, List.set_cons_succ, i64_w, i32_w]
          rfl
        refine pure_ (i := 5) (N := some 25) (v := ?_) (a' := ?_) #[true, true, true, true, true, true, false, false, false, false, false, false, false, false] rfl rfl (any_of HT_.out (by kernel_rfl)) (fun _ _ _ h => h) (Or.inl ⟨by rfl, ?_⟩) ?_ ?_
        rotate_left
        · intro w'
          go_simp
          with_reducible rfl
        rotate_left
        · simp only [Act.put, List.setIfInBounds_toArray, List.set_cons_zero, List.set_cons_succ, i64_w, i32_w]
          rfl
        refine pure_ (i := 6) (N := some 26) (v := undef) (a' := ?_) #[true, true, true, true, true, true, true, false, false, false, false, false, false, false] rfl rfl (any_of HT_.out (by kernel_rfl)) (fun _ _ _ h => h) (Or.inr ⟨by rfl, rfl⟩) ?_ ?_
        rotate_left
        · simp only [Act.put, List.setIfInBounds_toArray, List.set_cons_zero, List.set_cons_succ, i64_w, i32_w]
          rfl
        refine pure_ (i := 7) (N := some 27) (v := undef) (a' := ?_) #[true, true, true, true, true, true, true, true, false, false, false, false, false, false] rfl rfl (any_of HT_.out (by kernel_rfl)) (fun _ _ _ h => h) (Or.inr ⟨by rfl, rfl⟩) ?_ ?_
        rotate_left
        · simp only [Act.put, List.setIfInBounds_toArray, List.set_cons_zero, List.set_cons_succ, i64_w, i32_w]
          rfl
        refine pure_ (i := 8) (N := some 28) (v := undef) (a' := ?_) #[true, true, true, true, true, true, true, true, true, false, false, false, false, false] rfl rfl (any_of HT_.out (by kernel_rfl)) (fun _ _ _ h => h) (Or.inr ⟨by rfl, rfl⟩) ?_ ?_
        rotate_left
        · simp only [Act.put, List.setIfInBounds_toArray, List.set_cons_zero, List.set_cons_succ, i64_w, i32_w]
          rfl
        refine pure_ (i := 9) (N := some 29) (v := undef) (a' := ?_) #[true, true, true, true, true, true, true, true, true, true, false, false, false, false] rfl rfl (any_of HT_.out (by kernel_rfl)) (fun _ _ _ h => h) (Or.inr ⟨by rfl, rfl⟩) ?_ ?_
        rotate_left
        · simp only [Act.put, List.setIfInBounds_toArray, List.set_cons_zero, List.set_cons_succ, i64_w, i32_w]
          rfl
        refine pure_ (i := 10) (N := some 30) (v := undef) (a' := ?_) #[true, true, true, true, true, true, true, true, true, true, true, false, false, false] rfl rfl (any_of HT_.out (by kernel_rfl)) (fun _ _ _ h => h) (Or.inr ⟨by rfl, rfl⟩) ?_ ?_
        rotate_left
        · simp only [Act.put, List.setIfInBounds_toArray, List.set_cons_zero, List.set_cons_succ, i64_w, i32_w]
          rfl
        refine pure_ (i := 11) (N := some 31) (v := undef) (a' := ?_) #[true, true, true, true, true, true, true, true, true, true, true, true, false, false] rfl rfl (any_of HT_.out (by kernel_rfl)) (fun _ _ _ h => h) (Or.inr ⟨by rfl, rfl⟩) ?_ ?_
        rotate_left
        · simp only [Act.put, List.setIfInBounds_toArray, List.set_cons_zero, List.set_cons_succ, i64_w, i32_w]
          rfl
        refine pure_ (i := 12) (N := some 32) (v := undef) (a' := ?_) #[true, true, true, true, true, true, true, true, true, true, true, true, true, false] rfl rfl (any_of HT_.out (by kernel_rfl)) (fun _ _ _ h => h) (Or.inr ⟨by rfl, rfl⟩) ?_ ?_
        rotate_left
        · simp only [Act.put, List.setIfInBounds_toArray, List.set_cons_zero, List.set_cons_succ, i64_w, i32_w]
          rfl
        refine pure_ (i := 13) (N := some 33) (v := ?_) (a' := ?_) #[true, true, true, true, true, true, true, true, true, true, true, true, true, true] rfl rfl (any_of HT_.out (by kernel_rfl)) (fun _ _ _ h => h) (Or.inl ⟨by rfl, ?_⟩) ?_ ?_
        rotate_left
        · intro w'
          go_simp
          with_reducible rfl
        rotate_left
        · simp only [Act.put, List.setIfInBounds_toArray, List.set_cons_zero, List.set_cons_succ, i64_w, i32_w]
          rfl
        refine done_ (done_of HT_.out (by kernel_rfl)) ?_
        try go_wp2
        go_roundg k1
        case measure => omega
        case rel => exact ⟨i + 1, (by first | rw [HW1.out] | (simp; done)), HI.out, by omega, ⟨by (with_reducible repeat (first | apply Kd.V_alloc | apply Kd.V_drewN | apply Kd.V_drew)); exact HO_0.out⟩, ⟨by rw [HWN.out]; (with_reducible repeat (first | apply Kd.R_alloc | apply Kd.R_drewN | apply Kd.R_drew)); exact HO_7.out⟩, ⟨by repeat (first | (with_reducible first | exact HB.out | apply below_alloc | apply pw_below_drewN | apply below_drew1) | exact HB.out)⟩, ⟨HX.out⟩⟩
    · obtain rfl : i = zs.length := by omega
      have c6b : decide ((zs.length : Int) < (zs.length : Int)) = false := decide_eq_false c6
      clear c6 hq hi
      have hXlt := Boxed.lt (show Boxed wr w.heap.size 3 (.int .i64 a2) from HX.out)
      go_wp2_with (first | ((with_reducible refine gate_callee (f := 22) rfl ?_); refine goesL_ (some 40) rfl rfl Try.func22 (by kernel_rfl) rfl #[.slice Az zs.length cz, .int .i64 a1] rfl (by (try simp only [List.map_toArray, List.map_cons, List.map_nil]); first | done | rfl) ?_; refine (each_calls Az zs.length cz a1 _).mono ?_; rintro e w2 ⟨rfl, hb2, hBs, hBw, hsz2⟩; refine ⟨_, rfl, ?_⟩; have hX2 : Boxed w2 w.heap.size 3 (.int .i64 a2) := (hb2.block _ hXlt).trans HX.out; have hXc := hX2.cell; have hnf := func_not_nil #[.pointer (some ⟨wr.heap.size, 0, none⟩), .pointer (some ⟨wr.heap.size + 1, 0, none⟩)]) | ((with_reducible refine gate_callee (f := 17) rfl ?_); refine goesL_ (some 44) rfl rfl Try.func17 (by kernel_rfl) rfl #[.int .i64 a2, .int .i64 31] rfl (by (try simp only [List.map_toArray, List.map_cons, List.map_nil]); first | done | rfl) ?_; refine (around_world a2 31 (m : Int) _ A44).mono ?_; rintro e w3 ⟨rfl, hb3, hsz3⟩; refine ⟨_, rfl, ?_⟩; have hX3 : Boxed w3 w.heap.size 3 (.int .i64 a2) := (hb3.block _ (by omega)).trans hX2; have hXc3 := hX3.cell; have hXf3 := hX3.frozen; clear hXc))
      obtain ⟨ws, hws⟩ : ∃ ws, w3.setCell { block := w.heap.size, off := 0 } (Value.int IntKind.i64 (m : Int)) = ws := ⟨_, rfl⟩
      have hs_size : ws.heap.size = wr.heap.size + 2 := by rw [← hws]; simp; omega
      have hs_far : ∀ k, k ≠ w.heap.size → k < wr.heap.size + 2 → ws.heap[k]? = w2.heap[k]? := fun k hk hlt => by rw [← hws]; exact (Below.heap_setCell w3 _ _ k hk).trans (hb3.block k (by omega))
      have hs_old : ∀ k, k ≠ w.heap.size → k < wr.heap.size → ws.heap[k]? = wr.heap[k]? := fun k h1 h2 => (hs_far k h1 (by omega)).trans (hb2.block k h2)
      have hsX : Boxed ws w.heap.size 3 (.int .i64 (m : Int)) := by rw [← hws]; exact hX3.set _
      have hsBs : Boxed ws wr.heap.size 22 (.slice Az zs.length cz) := (hs_far _ (by omega) (by omega)).trans hBs
      have hsBw : Boxed ws (wr.heap.size + 1) 3 (.int .i64 a1) := (hs_far _ (by omega) (by omega)).trans hBw
      have hsB : Below w.heap.size w ws := by rw [← hws]; exact (below_step (below_step HB.out hb2) hb3).setCell (p := ⟨w.heap.size, 0, none⟩) (Nat.le_refl _) _
      have hsV := Kd.V_step (w1 := ws) HO_0.out (fun k hk hlt => hs_old k hk.1 hlt)
      have hsI : Ints (· < ws.heap.size) ws Az zs := Ints.of_C (Kd.V_reads' hsV).2.2
      have hsR := Aside0.mk (Kd.R_move (w1 := ws) (Kd.R_bound HO_7.out) (fun k hk => hs_old k hk.1 hk.2.2.1))
      rw [hws]
      clear hws hs_far hs_old hsV hX2 hX3 hXc3 hXf3 hBs hBw hb2 hb3 hsz2 hsz3 HO_0 HO_7 HX HB hnf
      have hWsz : (ws.alloc (.cells #[.slice none 0 0] 22)).heap.size = wr.heap.size + 2 + 1 := by rw [World.size_alloc, hs_size]
      have hDX : wr.heap.size + 2 ≤ (ws.alloc (.cells #[.slice none 0 0] 22)).heap.size := by omega
      have hb00 : Below (wr.heap.size + 2) ws (ws.alloc (.cells #[.slice none 0 0] 22)) := (Below.refl _ _).alloc (by omega) _
      have hnew : Boxed (ws.alloc (.cells #[.slice none 0 0] 22)) (wr.heap.size + 2) 22 (.slice none 0 0) := by have := Boxed.new ws 22 (.slice none 0 0); rwa [hs_size] at this
      refine wpIn_wide.1 (wpIn_rangeFunc_ownG (n := 4) rfl (by omega) (gf := 48) (lb := #[.pointer (some ⟨wr.heap.size, 0, none⟩), .pointer (some ⟨wr.heap.size + 1, 0, none⟩)]) rfl trivial (enters_of Try.func48 (by kernel_rfl) rfl)
        (each_stops 3 (by omega) wr.heap.size (wr.heap.size + 1) cz (fun k => k < wr.heap.size + 2) Az zs a1 M hmany (by omega) _ (by omega) (by omega) (fun k hk => by rw [hWsz]; omega) (Boxed.cell (Boxed.alloc hsBs _)) (Boxed.cell (Boxed.alloc hsBw _)) ((hsI.mono (fun k hk => by rw [hs_size] at hk; exact hk)).keep (Keeps.of_below hb00 (fun _ h => h))))
        Keeps.trans (keepsK_b (fun k hk => by rw [hWsz]; omega)) (Below.refl _ _) (fun _ => rfl)
        (fun pre W => (∃ v, Boxed W (wr.heap.size + 2) 22 v ∧ W.ownsRow (wr.heap.size + 2) 3 1 v (vals pre).length ((vals pre).map (Value.int .i64)) ∧ pre.length ≤ m) ∧ Below (wr.heap.size + 2) (ws.alloc (.cells #[.slice none 0 0] 22)) W)
        (fun c xs W => (∃ v, Boxed W (wr.heap.size + 2) 22 v ∧ W.ownsRow (wr.heap.size + 2) 3 1 v (vals xs.dropLast).length ((vals xs.dropLast).map (Value.int .i64)) ∧ (c = .exit 2 ∧ xs.length = m + 1)) ∧ Below (wr.heap.size + 2) (ws.alloc (.cells #[.slice none 0 0] 22)) W)
        (ESt.own _ _ (fun pre : List (Pos zs M) => vals pre) hDX hDX (fun pre : List (Pos zs M) => pre.length ≤ m)) (fun c => ESt.own _ _ (fun xs : List (Pos zs M) => vals xs.dropLast) hDX hDX (fun xs : List (Pos zs M) => c = .exit 2 ∧ xs.length = m + 1))
        ⟨⟨_, hnew, World.ownsRow_nil _ _ _ _, Nat.zero_le _⟩, Below.refl _ _⟩
        (fun x => { tmps := #[.slice Az zs.length cz, .int .i64 a1, .int .i64 a2, undef, undef, .pointer (some ⟨w.heap.size, 0, none⟩), .bool false, u7, .int .i64 (zs.length : Int), (.func (.func 48) #[] #[.pointer (some ⟨wr.heap.size, 0, none⟩), .pointer (some ⟨wr.heap.size + 1, 0, none⟩)]), .pointer (some ⟨wr.heap.size + 2, 0, none⟩), .int .i64 (x.1 : Int), .slice A0 l0.length c0, .slice Az zs.length cz, .int .i64 (zs.length : Int), .slice Az zs.length cz, .int .i64 (zs.length : Int), .bool false, u18, u19, u20, u21, u22, u23, u24, u25, u26, u27, u28, u29, u30, u31, u32, u33, u34, u35, u36, u37, .slice Az zs.length cz, .int .i64 a1, (.func (.func 48) #[] #[.pointer (some ⟨wr.heap.size, 0, none⟩), .pointer (some ⟨wr.heap.size + 1, 0, none⟩)]), (.func (.func 48) #[] #[.pointer (some ⟨wr.heap.size, 0, none⟩), .pointer (some ⟨wr.heap.size + 1, 0, none⟩)]), .bool false, .int .i64 a2, .int .i64 (m : Int), (.func (.func 48) #[] #[.pointer (some ⟨wr.heap.size, 0, none⟩), .pointer (some ⟨wr.heap.size + 1, 0, none⟩)]), .int .i64 (x.1 : Int), undef, undef, undef, undef, undef, undef, undef, undef, undef, undef, undef, undef, undef, undef, undef, undef, undef, undef, undef], defers := [] }) ?assign ?body ?done ?stop)
      case assign =>
        intro l x W K hK
        gi_wp2
        exact hK
      case body =>
        rintro l pre x W ⟨⟨v, hv, hrow, hle⟩, hBW⟩ hlt
        obtain ⟨Av, cv, rfl⟩ := own_slice hrow
        have hc := hv.cell
        have hcX := (show Boxed W w.heap.size 3 (.int .i64 (m : Int)) from (hBW.block _ (by omega)).trans (hsX.alloc _)).cell
        obtain ⟨gl, hgl⟩ : ∃ gl, vals pre = gl := ⟨_, rfl⟩
        have hlen : gl.length = pre.length := by rw [← hgl]; simp [vals]
        rw [hgl] at hrow hc hv
        have hi := HI0.out
        by_cases hm : pre.length = m
        · have hd : ((gl.length : Int) == (m : Int)) = true := by simp [hlen, hm]
          have Hend := Aside0.mk (show (vals (pre ++ [x]).dropLast) = gl ∧ (pre ++ [x]).length = m + 1 by simp [hm, hgl])
          have Hrow := Aside0.mk hrow
          clear hrow hm hlen hle hgl
          gi_wp2
          exact ⟨KeepsFrom.refl _ _, ⟨_, hv, by rw [Hend.out.1]; exact Hrow.out, rfl, Hend.out.2⟩, hBW⟩
        · have hd : ((gl.length : Int) == (m : Int)) = false := by simp [hlen]; omega
          have Hlt := Aside0.mk (show pre.length < m ∧ gl.length = pre.length by omega)
          have Hgl := Aside0.mk hgl
          clear hm hlen hgl
          gi_wp2_with (gi_at_builtin; refine wpListIn_append_own _ rfl _ _ 22 rfl (wr.heap.size + 2) 3 i0 (.int .i64 0) 1 8 Try.underlying22 hi hz0 hz1 hz2 rfl (by decide) _ _ _ rfl (hrow.alloc _) ⟨W.heap.size, 0, none⟩ 1 1 [.int .i64 (x.1 : Int)] rfl rfl (cell_one_new _ _ _) (by simp [Value.oneCell']) (by have := Hlt.out; have := HM30.out; simp [maxLen]; omega) (by have := Hlt.out; have := HM30.out; omega) (by have := hv.lt; simp; omega) ?_; intro v' w1 hown' hgrow _; obtain ⟨g', cap', rfl⟩ := ownsRow_succ hown'; obtain ⟨hv1, hv2, hr2, hk2, hb2⟩ := hv.appended (by decide) hrow (Nat.le_of_lt hv.lt) (Nat.le_refl _) hown' hgrow; have hc1 := hv1.cell; have hf1 := hv1.frozen)
          exact ⟨hk2.from _, Keeps.of_below hb2 (fun _ h => h), ⟨_, hv2, by rw [show vals (pre ++ [x]) = gl ++ [(x.1 : Int)] by rw [← Hgl.out]; simp [vals]]; simpa using hr2, by have := Hlt.out; simp; omega⟩, hBW.trans hb2⟩
      case done =>
        rintro D xs W hD hS ⟨⟨v, hv, hrow, hle⟩, hBW⟩ hK
        obtain ⟨gs, hgs⟩ : ∃ gs, vals xs = gs := ⟨_, rfl⟩
        have hfin : gs = (wants zs M zs.length).take (min m (wants zs M zs.length).length) := by
          have h1 : gs = wants zs M zs.length := by rw [← hgs]; exact vals_wants hS
          have h2 : gs.length ≤ m := by rw [← hgs, vals, List.length_map]; exact hle
          rw [h1] at h2 ⊢
          rw [Nat.min_eq_right h2, List.take_length]
        rw [hgs] at hrow
        obtain ⟨Av, cv, rfl⟩ := own_slice hrow
        have hG : Kd.R (Kd.int .i64) 3 W (wr.heap.size + 2) (fun _ => True) (.slice Av gs.length cv) gs := Kd.R_of_own (h1 := fun _ => rfl) (enc := Value.int .i64) hrow (fun _ _ => trivial)
        have hXr := Kd.R_move (w1 := W) (Kd.R_bound hsR.out) (fun k hk => (hBW.block k (by have := hk.2.2.1; omega)).trans (hb00.block k (by have := hk.2.2.1; omega)))
        have hcX := (show Boxed W w.heap.size 3 (.int .i64 (m : Int)) from (hBW.block _ (by omega)).trans (hsX.alloc _)).cell
        have hc := hv.cell
        obtain ⟨ys, hys⟩ : ∃ ys, wants zs M zs.length = ys := ⟨_, rfl⟩
        have hyl : ys.length ≤ 30 := by rw [← hys]; exact Nat.le_trans (wants_length _ _ _) hzs
        rw [hys] at hXr hfin
        obtain ⟨Ax, cx, ex⟩ := Kd.R_slice hXr
        subst ex
        obtain ⟨ts, hts⟩ : ∃ ts, ys.take (min m ys.length) = ts := ⟨_, rfl⟩
        have htl : min m ys.length = ts.length := by rw [← hts, List.length_take]; omega
        rw [hts] at hfin
        have hmin : (if (ys.length : Int) < (m : Int) then (ys.length : Int) else (m : Int)) = (ts.length : Int) := by rw [← htl]; split <;> omega
        have hmin2 : (if ys.length < m then (ys.length : Int) else (m : Int)) = (ts.length : Int) := by rw [← htl]; split <;> omega
        have htle : ts.length ≤ ys.length := by omega
        obtain ⟨i1, hi1, _, _, _⟩ := info_parts info3
        have hroom : ys.length ≤ cx := (Kd.R_reads' hXr).2.1
        have hcut := cut_to (P := Try.prog) 22 3 .i64 Try.underlying22 hi1 Ax ys.length cx (ts.length : Int) (by omega) (by omega) hroom
        rw [Int.toNat_natCast] at hcut
        have hr := Kd.C_take (m := ts.length) (Kd.R_reads' hXr).2.2 (by omega)
        rw [← htl, hts] at hr
        have hg1 := Kd.C_drew (Kd.R_reads' hG).2.2
        have hg2 := (Kd.R_reads' hG).2.1
        have hx1 := Kd.C_drew hr
        have hx2 : ts.length ≤ cx := by omega
        have HB1 := Aside0.mk (below_drew1 ((hsB.trans ((Below.refl _ ws).alloc (by have := hsB.size; omega) (.cells #[.slice none 0 0] 22))).trans (⟨hBW.os, hBW.tape, hBW.output, hBW.size, fun k hk => hBW.block k (by omega)⟩ : Below w.heap.size _ W)))
        have HK1 := Aside0.mk (show W.drew.heap[D]? = some (.deferred (some [])) from hK)
        have hsame : PEach.hibernacleref03_SameInts.f 100 gs ts = some true := by rw [hfin]; exact same_self ts (by omega)
        have HDlt := Aside0.mk (show w.heap.size ≤ D by omega)
        have HS := Aside0.mk (And.intro (show W.drew.cell? ⟨wr.heap.size + 2, 0, none⟩ = _ from hc) (show W.drew.cell? ⟨w.heap.size, 0, none⟩ = _ from hcX))
        clear hr hXr hG hv hrow hBW hroom hi1 htl hys hts hfin hyl hmany HMany hsI hsX hsBs hsBw hsB hsR hnew hb00 hc hcX htle hK
        go_wp2
        refine start_ (n := 12) (S := fun w' => w'.cell? ⟨wr.heap.size + 2, 0, none⟩ = some (.slice Av gs.length cv) ∧ w'.cell? ⟨w.heap.size, 0, none⟩ = some (.int .i64 (m : Int))) (ds := []) #[false, false, false, false, false, false, false, false, false, false, false, false] (by kernel_rfl) rfl rfl HS.out (fun hHeld => ?_); refine with_tabW FairEach.tab17 FairEach.bits17 (fun HT_ HW_ => ?_)
        generalize W.drew = w1 at hg1 hx1 HB1 HK1 HS hHeld ⊢
        refine take_ (i := 0) (N := some 55) (v := ?_) (a' := ?_) #[true, false, false, false, false, false, false, false, false, false, false, false] rfl rfl (take_ofW HT_.out HW_.out (by kernel_rfl)) (fun _ _ _ h => h) (Or.inl ⟨by rfl, ?_⟩) hHeld ?_ ?_
        rotate_left
        · rintro w' ⟨s0, s1⟩
          go_simp
          with_reducible rfl
        rotate_left
        · simp only [Act.put, List.setIfInBounds_toArray, List.set_cons_zero, List.set_cons_succ, i64_w, i32_w]
          rfl
        refine pure_ (i := 1) (N := some 56) (v := ?_) (a' := ?_) #[true, true, false, false, false, false, false, false, false, false, false, false] rfl rfl (any_of HT_.out (by kernel_rfl)) (fun _ _ _ h => h) (Or.inl ⟨by rfl, ?_⟩) ?_ ?_
        rotate_left
        · intro w'
          go_simp
          with_reducible rfl
        rotate_left
        · simp only [Act.put, List.setIfInBounds_toArray, List.set_cons_zero, List.set_cons_succ, i64_w, i32_w]
          rfl
        refine take_ (i := 2) (N := some 57) (v := ?_) (a' := ?_) #[true, true, true, false, false, false, false, false, false, false, false, false] rfl rfl (take_ofW HT_.out HW_.out (by kernel_rfl)) (fun _ _ _ h => h) (Or.inl ⟨by rfl, ?_⟩) hHeld ?_ ?_
        rotate_left
        · rintro w' ⟨s0, s1⟩
          go_simp
          with_reducible rfl
        rotate_left
        · simp only [Act.put, List.setIfInBounds_toArray, List.set_cons_zero, List.set_cons_succ, i64_w, i32_w]
          rfl
        refine pure_ (i := 3) (N := some 58) (v := ?_) (a' := ?_) #[true, true, true, true, false, false, false, false, false, false, false, false] rfl rfl (any_of HT_.out (by kernel_rfl)) (fun _ _ _ h => h) (Or.inl ⟨by rfl, ?_⟩) ?_ ?_
        rotate_left
        · intro w'
          go_simp
          with_reducible rfl
        rotate_left
        · simp only [Act.put, List.setIfInBounds_toArray, List.set_cons_zero, List.set_cons_succ, i64_w, i32_w]
          rfl
        refine pure_ (i := 4) (N := some 59) (v := ?_) (a' := ?_) #[true, true, true, true, true, false, false, false, false, false, false, false] rfl rfl (any_of HT_.out (by kernel_rfl)) (fun _ _ _ h => h) (Or.inl ⟨by rfl, ?_⟩) ?_ ?_
        rotate_left
        · intro w'
          go_simp
          with_reducible rfl
        rotate_left
        · simp only [Act.put, List.setIfInBounds_toArray, List.set_cons_zero, List.set_cons_succ, i64_w, i32_w]
          rfl
        refine pure_ (i := 5) (N := some 60) (v := ?_) (a' := ?_) #[true, true, true, true, true, true, false, false, false, false, false, false] rfl rfl (any_of HT_.out (by kernel_rfl)) (fun _ _ _ h => h) (Or.inl ⟨by rfl, ?_⟩) ?_ ?_
        rotate_left
        · intro w'
          go_simp
          with_reducible rfl
        rotate_left
        · simp only [Act.put, List.setIfInBounds_toArray, List.set_cons_zero, List.set_cons_succ, i64_w, i32_w]
          rfl
        refine pure_ (i := 6) (N := some 61) (v := ?_) (a' := ?_) #[true, true, true, true, true, true, true, false, false, false, false, false] rfl rfl (any_of HT_.out (by kernel_rfl)) (fun _ _ _ h => h) (Or.inl ⟨by rfl, ?_⟩) ?_ ?_
        rotate_left
        · intro w'
          go_simp
          with_reducible rfl
        rotate_left
        · simp only [Act.put, List.setIfInBounds_toArray, List.set_cons_zero, List.set_cons_succ, i64_w, i32_w]
          rfl
        refine one_ (i := 7) (N := some 62) #[true, true, true, true, true, true, true, true, false, false, false, false] rfl rfl (one_of HT_.out (by kernel_rfl)) (by decide) (fun K hK => ?_)
        refine goes_ Try.func23 (by kernel_rfl) rfl #[.slice Av gs.length cv, .slice Ax ts.length cx] (by rfl) rfl rfl (by (try simp only [List.map_toArray, List.map_cons, List.map_nil]); first | done | rfl | (simp only [List.length_drop, List.length_take]; rfl)) ?_
        with_reducible refine (PEach.hibernacleref03_SameInts.calls 100 _ _ gs _ _ ts true _ ?side1 ?side2 ?side3 ?side4 hsame).mono ?_
        (case side1 => exact hg1)
        (case side2 => exact hg2)
        (case side3 => exact hx1)
        (case side4 => exact hx2)
        rintro e w2 ⟨rfl, ⟨nd, rfl⟩⟩
        refine ⟨_, rfl, ?_⟩
        refine hK.out _ _ hHeld (fun hHeld => ?_)
        clear hK K
        refine norm_ (a' := ?_) ?_ ?_
        rotate_left
        · show Act.put _ (some 62) _ = _
          simp only [Act.put, List.setIfInBounds_toArray, List.set_cons_zero, List.set_cons_succ, i64_w, i32_w]
          rfl
        refine pure_ (i := 8) (N := some 63) (v := ?_) (a' := ?_) #[true, true, true, true, true, true, true, true, true, false, false, false] rfl rfl (any_of HT_.out (by kernel_rfl)) (fun _ _ _ h => h) (Or.inl ⟨by rfl, ?_⟩) ?_ ?_
        rotate_left
        · intro w'
          go_simp
          with_reducible rfl
        rotate_left
        · simp only [Act.put, List.setIfInBounds_toArray, List.set_cons_zero, List.set_cons_succ, i64_w, i32_w]
          rfl
        refine one_ (i := 9) (N := some 64) #[true, true, true, true, true, true, true, true, true, true, false, false] rfl rfl (one_of HT_.out (by kernel_rfl)) (by decide) (fun K hK => ?_)
        refine goes_ Try.func20 (by kernel_rfl) rfl #[] (by rfl) rfl rfl (by (try simp only [List.map_toArray, List.map_cons, List.map_nil]); first | done | rfl | (simp only [List.length_drop, List.length_take]; rfl)) ?_
        with_reducible refine (PFair.hibernaclelaw14_lives.calls 1000 true _ (lives_at (Nat.le_refl _))).mono ?_
        rintro e w3 ⟨rfl, hb⟩
        refine ⟨_, rfl, ?_⟩
        have hS := (And.intro ((hb.cell (World.block_lt_of_cell? _ _ hHeld.1)).trans hHeld.1) ((hb.cell (World.block_lt_of_cell? _ _ hHeld.2)).trans hHeld.2))
        refine hK.out _ _ hS (fun hHeld => ?_)
        clear hK K
        refine norm_ (a' := ?_) ?_ ?_
        rotate_left
        · show Act.put _ (some 64) _ = _
          simp only [Act.put, List.setIfInBounds_toArray, List.set_cons_zero, List.set_cons_succ, i64_w, i32_w]
          rfl
        replace HB1 := Aside0.mk (below_step (pw_below_drewN HB1.out _) hb)
        replace HK1 := Aside0.mk ((hb.block _ (Array.getElem?_eq_some_iff.1 HK1.out).1).trans HK1.out)
        refine pure_ (i := 10) (N := some 65) (v := ?_) (a' := ?_) #[true, true, true, true, true, true, true, true, true, true, true, false] rfl rfl (any_of HT_.out (by kernel_rfl)) (fun _ _ _ h => h) (Or.inl ⟨by rfl, ?_⟩) ?_ ?_
        rotate_left
        · intro w'
          go_simp
          with_reducible rfl
        rotate_left
        · simp only [Act.put, List.setIfInBounds_toArray, List.set_cons_zero, List.set_cons_succ, i64_w, i32_w]
          rfl
        refine pure_ (i := 11) (N := some 6) (v := ?_) (a' := ?_) #[true, true, true, true, true, true, true, true, true, true, true, true] rfl rfl (any_of HT_.out (by kernel_rfl)) (fun _ _ _ h => h) (Or.inl ⟨by rfl, ?_⟩) ?_ ?_
        rotate_left
        · intro w'
          go_simp
          with_reducible rfl
        rotate_left
        · simp only [Act.put, List.setIfInBounds_toArray, List.set_cons_zero, List.set_cons_succ, i64_w, i32_w]
          rfl
        refine done_ (done_of HT_.out (by kernel_rfl)) ?_
        try go_wp2
        refine ⟨by simp, .inl ⟨_, _, rfl, run_takeDeferred HK1.out, ?_⟩⟩
        exact ⟨_, results_tmp rfl _ _ _, rfl, HB1.out.trans (belowK_b (w := w) (Nat.le_refl _) _ D _ _ HDlt.out HK1.out rfl rfl)⟩
      case stop =>
        rintro D c xs W hD hSp ⟨⟨v, hv, hrow, rfl, hxl⟩, hBW⟩ hK
        obtain ⟨gs, hgs⟩ : ∃ gs, vals xs.dropLast = gs := ⟨_, rfl⟩
        have hfin : gs = (wants zs M zs.length).take (min m (wants zs M zs.length).length) := by
          obtain ⟨k, hk, hp⟩ := hSp
          obtain ⟨r, hr⟩ := pl_prefix zs M (zs.length - k) k
          rw [show k + (zs.length - k) = zs.length by omega] at hr
          have h1 : wants zs M zs.length = vals xs ++ r.map (fun j : Nat => (j : Int)) := by rw [wants, hr, List.map_append, vals_wants hp]; rfl
          have h2 : (vals xs).length = m + 1 := by rw [vals, List.length_map]; exact hxl
          have h3 : (wants zs M zs.length).length ≥ m + 1 := by rw [h1, List.length_append]; omega
          rw [Nat.min_eq_left (by omega), h1, List.take_append_of_le_length (by omega), ← hgs, vals, List.map_dropLast, List.dropLast_eq_take]
          rw [vals] at h2
          rw [h2]; rfl
        rw [hgs] at hrow
        obtain ⟨Av, cv, rfl⟩ := own_slice hrow
        have hG : Kd.R (Kd.int .i64) 3 W (wr.heap.size + 2) (fun _ => True) (.slice Av gs.length cv) gs := Kd.R_of_own (h1 := fun _ => rfl) (enc := Value.int .i64) hrow (fun _ _ => trivial)
        have hXr := Kd.R_move (w1 := W) (Kd.R_bound hsR.out) (fun k hk => (hBW.block k (by have := hk.2.2.1; omega)).trans (hb00.block k (by have := hk.2.2.1; omega)))
        have hcX := (show Boxed W w.heap.size 3 (.int .i64 (m : Int)) from (hBW.block _ (by omega)).trans (hsX.alloc _)).cell
        have hc := hv.cell
        obtain ⟨ys, hys⟩ : ∃ ys, wants zs M zs.length = ys := ⟨_, rfl⟩
        have hyl : ys.length ≤ 30 := by rw [← hys]; exact Nat.le_trans (wants_length _ _ _) hzs
        rw [hys] at hXr hfin
        obtain ⟨Ax, cx, ex⟩ := Kd.R_slice hXr
        subst ex
        obtain ⟨ts, hts⟩ : ∃ ts, ys.take (min m ys.length) = ts := ⟨_, rfl⟩
        have htl : min m ys.length = ts.length := by rw [← hts, List.length_take]; omega
        rw [hts] at hfin
        have hmin : (if (ys.length : Int) < (m : Int) then (ys.length : Int) else (m : Int)) = (ts.length : Int) := by rw [← htl]; split <;> omega
        have hmin2 : (if ys.length < m then (ys.length : Int) else (m : Int)) = (ts.length : Int) := by rw [← htl]; split <;> omega
        have htle : ts.length ≤ ys.length := by omega
        obtain ⟨i1, hi1, _, _, _⟩ := info_parts info3
        have hroom : ys.length ≤ cx := (Kd.R_reads' hXr).2.1
        have hcut := cut_to (P := Try.prog) 22 3 .i64 Try.underlying22 hi1 Ax ys.length cx (ts.length : Int) (by omega) (by omega) hroom
        rw [Int.toNat_natCast] at hcut
        have hr := Kd.C_take (m := ts.length) (Kd.R_reads' hXr).2.2 (by omega)
        rw [← htl, hts] at hr
        have hg1 := Kd.C_drew (Kd.R_reads' hG).2.2
        have hg2 := (Kd.R_reads' hG).2.1
        have hx1 := Kd.C_drew hr
        have hx2 : ts.length ≤ cx := by omega
        have HB1 := Aside0.mk (below_drew1 ((hsB.trans ((Below.refl _ ws).alloc (by have := hsB.size; omega) (.cells #[.slice none 0 0] 22))).trans (⟨hBW.os, hBW.tape, hBW.output, hBW.size, fun k hk => hBW.block k (by omega)⟩ : Below w.heap.size _ W)))
        have HK1 := Aside0.mk (show W.drew.heap[D]? = some (.deferred (some [])) from hK)
        have hsame : PEach.hibernacleref03_SameInts.f 100 gs ts = some true := by rw [hfin]; exact same_self ts (by omega)
        have HDlt := Aside0.mk (show w.heap.size ≤ D by omega)
        have HS := Aside0.mk (And.intro (show W.drew.cell? ⟨wr.heap.size + 2, 0, none⟩ = _ from hc) (show W.drew.cell? ⟨w.heap.size, 0, none⟩ = _ from hcX))
        clear hr hXr hG hv hrow hBW hroom hi1 htl hys hts hfin hyl hmany HMany hsI hsX hsBs hsBw hsB hsR hnew hb00 hc hcX htle hK
        refine wpIn_wide.2 ?_
        go_wp2
        refine start_ (n := 12) (S := fun w' => w'.cell? ⟨wr.heap.size + 2, 0, none⟩ = some (.slice Av gs.length cv) ∧ w'.cell? ⟨w.heap.size, 0, none⟩ = some (.int .i64 (m : Int))) (ds := []) #[false, false, false, false, false, false, false, false, false, false, false, false] (by kernel_rfl) rfl rfl HS.out (fun hHeld => ?_); refine with_tabW FairEach.tab17 FairEach.bits17 (fun HT_ HW_ => ?_)
        generalize W.drew = w1 at hg1 hx1 HB1 HK1 HS hHeld ⊢
        refine take_ (i := 0) (N := some 55) (v := ?_) (a' := ?_) #[true, false, false, false, false, false, false, false, false, false, false, false] rfl rfl (take_ofW HT_.out HW_.out (by kernel_rfl)) (fun _ _ _ h => h) (Or.inl ⟨by rfl, ?_⟩) hHeld ?_ ?_
        rotate_left
        · rintro w' ⟨s0, s1⟩
          go_simp
          with_reducible rfl
        rotate_left
        · simp only [Act.put, List.setIfInBounds_toArray, List.set_cons_zero, List.set_cons_succ, i64_w, i32_w]
          rfl
        refine pure_ (i := 1) (N := some 56) (v := ?_) (a' := ?_) #[true, true, false, false, false, false, false, false, false, false, false, false] rfl rfl (any_of HT_.out (by kernel_rfl)) (fun _ _ _ h => h) (Or.inl ⟨by rfl, ?_⟩) ?_ ?_
        rotate_left
        · intro w'
          go_simp
          with_reducible rfl
        rotate_left
        · simp only [Act.put, List.setIfInBounds_toArray, List.set_cons_zero, List.set_cons_succ, i64_w, i32_w]
          rfl
        refine take_ (i := 2) (N := some 57) (v := ?_) (a' := ?_) #[true, true, true, false, false, false, false, false, false, false, false, false] rfl rfl (take_ofW HT_.out HW_.out (by kernel_rfl)) (fun _ _ _ h => h) (Or.inl ⟨by rfl, ?_⟩) hHeld ?_ ?_
        rotate_left
        · rintro w' ⟨s0, s1⟩
          go_simp
          with_reducible rfl
        rotate_left
        · simp only [Act.put, List.setIfInBounds_toArray, List.set_cons_zero, List.set_cons_succ, i64_w, i32_w]
          rfl
        refine pure_ (i := 3) (N := some 58) (v := ?_) (a' := ?_) #[true, true, true, true, false, false, false, false, false, false, false, false] rfl rfl (any_of HT_.out (by kernel_rfl)) (fun _ _ _ h => h) (Or.inl ⟨by rfl, ?_⟩) ?_ ?_
        rotate_left
        · intro w'
          go_simp
          with_reducible rfl
        rotate_left
        · simp only [Act.put, List.setIfInBounds_toArray, List.set_cons_zero, List.set_cons_succ, i64_w, i32_w]
          rfl
        refine pure_ (i := 4) (N := some 59) (v := ?_) (a' := ?_) #[true, true, true, true, true, false, false, false, false, false, false, false] rfl rfl (any_of HT_.out (by kernel_rfl)) (fun _ _ _ h => h) (Or.inl ⟨by rfl, ?_⟩) ?_ ?_
        rotate_left
        · intro w'
          go_simp
          with_reducible rfl
        rotate_left
        · simp only [Act.put, List.setIfInBounds_toArray, List.set_cons_zero, List.set_cons_succ, i64_w, i32_w]
          rfl
        refine pure_ (i := 5) (N := some 60) (v := ?_) (a' := ?_) #[true, true, true, true, true, true, false, false, false, false, false, false] rfl rfl (any_of HT_.out (by kernel_rfl)) (fun _ _ _ h => h) (Or.inl ⟨by rfl, ?_⟩) ?_ ?_
        rotate_left
        · intro w'
          go_simp
          with_reducible rfl
        rotate_left
        · simp only [Act.put, List.setIfInBounds_toArray, List.set_cons_zero, List.set_cons_succ, i64_w, i32_w]
          rfl
        refine pure_ (i := 6) (N := some 61) (v := ?_) (a' := ?_) #[true, true, true, true, true, true, true, false, false, false, false, false] rfl rfl (any_of HT_.out (by kernel_rfl)) (fun _ _ _ h => h) (Or.inl ⟨by rfl, ?_⟩) ?_ ?_
        rotate_left
        · intro w'
          go_simp
          with_reducible rfl
        rotate_left
        · simp only [Act.put, List.setIfInBounds_toArray, List.set_cons_zero, List.set_cons_succ, i64_w, i32_w]
          rfl
        refine one_ (i := 7) (N := some 62) #[true, true, true, true, true, true, true, true, false, false, false, false] rfl rfl (one_of HT_.out (by kernel_rfl)) (by decide) (fun K hK => ?_)
        refine goes_ Try.func23 (by kernel_rfl) rfl #[.slice Av gs.length cv, .slice Ax ts.length cx] (by rfl) rfl rfl (by (try simp only [List.map_toArray, List.map_cons, List.map_nil]); first | done | rfl | (simp only [List.length_drop, List.length_take]; rfl)) ?_
        with_reducible refine (PEach.hibernacleref03_SameInts.calls 100 _ _ gs _ _ ts true _ ?side1 ?side2 ?side3 ?side4 hsame).mono ?_
        (case side1 => exact hg1)
        (case side2 => exact hg2)
        (case side3 => exact hx1)
        (case side4 => exact hx2)
        rintro e w2 ⟨rfl, ⟨nd, rfl⟩⟩
        refine ⟨_, rfl, ?_⟩
        refine hK.out _ _ hHeld (fun hHeld => ?_)
        clear hK K
        refine norm_ (a' := ?_) ?_ ?_
        rotate_left
        · show Act.put _ (some 62) _ = _
          simp only [Act.put, List.setIfInBounds_toArray, List.set_cons_zero, List.set_cons_succ, i64_w, i32_w]
          rfl
        refine pure_ (i := 8) (N := some 63) (v := ?_) (a' := ?_) #[true, true, true, true, true, true, true, true, true, false, false, false] rfl rfl (any_of HT_.out (by kernel_rfl)) (fun _ _ _ h => h) (Or.inl ⟨by rfl, ?_⟩) ?_ ?_
        rotate_left
        · intro w'
          go_simp
          with_reducible rfl
        rotate_left
        · simp only [Act.put, List.setIfInBounds_toArray, List.set_cons_zero, List.set_cons_succ, i64_w, i32_w]
          rfl
        refine one_ (i := 9) (N := some 64) #[true, true, true, true, true, true, true, true, true, true, false, false] rfl rfl (one_of HT_.out (by kernel_rfl)) (by decide) (fun K hK => ?_)
        refine goes_ Try.func20 (by kernel_rfl) rfl #[] (by rfl) rfl rfl (by (try simp only [List.map_toArray, List.map_cons, List.map_nil]); first | done | rfl | (simp only [List.length_drop, List.length_take]; rfl)) ?_
        with_reducible refine (PFair.hibernaclelaw14_lives.calls 1000 true _ (lives_at (Nat.le_refl _))).mono ?_
        rintro e w3 ⟨rfl, hb⟩
        refine ⟨_, rfl, ?_⟩
        have hS := (And.intro ((hb.cell (World.block_lt_of_cell? _ _ hHeld.1)).trans hHeld.1) ((hb.cell (World.block_lt_of_cell? _ _ hHeld.2)).trans hHeld.2))
        refine hK.out _ _ hS (fun hHeld => ?_)
        clear hK K
        refine norm_ (a' := ?_) ?_ ?_
        rotate_left
        · show Act.put _ (some 64) _ = _
          simp only [Act.put, List.setIfInBounds_toArray, List.set_cons_zero, List.set_cons_succ, i64_w, i32_w]
          rfl
        replace HB1 := Aside0.mk (below_step (pw_below_drewN HB1.out _) hb)
        replace HK1 := Aside0.mk ((hb.block _ (Array.getElem?_eq_some_iff.1 HK1.out).1).trans HK1.out)
        refine pure_ (i := 10) (N := some 65) (v := ?_) (a' := ?_) #[true, true, true, true, true, true, true, true, true, true, true, false] rfl rfl (any_of HT_.out (by kernel_rfl)) (fun _ _ _ h => h) (Or.inl ⟨by rfl, ?_⟩) ?_ ?_
        rotate_left
        · intro w'
          go_simp
          with_reducible rfl
        rotate_left
        · simp only [Act.put, List.setIfInBounds_toArray, List.set_cons_zero, List.set_cons_succ, i64_w, i32_w]
          rfl
        refine pure_ (i := 11) (N := some 6) (v := ?_) (a' := ?_) #[true, true, true, true, true, true, true, true, true, true, true, true] rfl rfl (any_of HT_.out (by kernel_rfl)) (fun _ _ _ h => h) (Or.inl ⟨by rfl, ?_⟩) ?_ ?_
        rotate_left
        · intro w'
          go_simp
          with_reducible rfl
        rotate_left
        · simp only [Act.put, List.setIfInBounds_toArray, List.set_cons_zero, List.set_cons_succ, i64_w, i32_w]
          rfl
        refine done_ (done_of HT_.out (by kernel_rfl)) ?_
        try go_wp2
        refine ⟨by simp, .inl ⟨_, _, rfl, run_takeDeferred HK1.out, ?_⟩⟩
        exact ⟨_, results_tmp rfl _ _ _, rfl, HB1.out.trans (belowK_b (w := w) (Nat.le_refl _) _ D _ _ HDlt.out HK1.out rfl rfl)⟩

theorem law_walk (a0 : Option Addr) (len0 cap0 : Nat) (z0 : List Int) (a1 : Int) (a2 : Int) (w : World) (w0 : (a0 = none ∧ len0 = 0 ∧ cap0 = 0 ∧ z0 = []) ∨ ∃ x, a0 = some x ∧ len0 ≤ cap0 ∧ cap0 ≤ maxLen ∧ z0.length = cap0 ∧ (∀ i, i < z0.length → w.cell? (x.add i) = some (.int .i64 (z0.getD i 0))) ∧ ∀ n ∈ z0, (Lit.int .i64 n).wf = true) (w2 : (Lit.int .i64 a2).wf = true) :
    Calls Try.prog 4 #[.slice a0 len0 cap0, .int .i64 a1, .int .i64 a2] w fun e w' => e = .returned (.bool true) ∧ Below w.heap.size w w' := by
  obtain ⟨l0, rfl, hr0, hm0, hw0, hc0⟩ := ReadsInt.ofRowC w0
  exact walk _ _ l0 a1 a2 w (Kd.C_of_reads (d := (0 : Int)) (h1 := fun _ => rfl) hr0) hc0 (bounds_i64 w2).1
end Go.Proofs.Ytkncpbaknigamaa.EachLaw
