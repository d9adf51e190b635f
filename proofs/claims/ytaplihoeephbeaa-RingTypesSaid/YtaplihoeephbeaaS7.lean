/- S7: a text of a symbolic executor that is proved sound, and contracts that are proved with it. -/
import Derived.Test.YtaplihoeephbeaaS5
set_option linter.unusedVariables false
set_option linter.unusedSimpArgs false
namespace Go.Proofs.Ytaplihoeephbeaa.V
open Go Go.Proofs
set_option maxRecDepth 100000
set_option maxHeartbeats 4000000
/-- A program, as it lies. -/
structure Fu where
  loc : Int
  code : List (Int × Int)
deriving DecidableEq
structure Pg where
  fu : List Fu
  mu : Int
  co : List Int
  se : List Int
  ch : List Int
  cs : List (List Int)
  th : Int
deriving DecidableEq
@[reducible] def inD (x : Int × Int) : D := .agg [.int .i64 x.1, .int .i64 x.2]
@[reducible] def fuD (f : Fu) : D := .agg [.int .i64 f.loc, .lst 2 false (f.code.map inD)]
@[reducible] def pgD (p : Pg) : D := .agg [.lst 2 false (p.fu.map fuD), .int .i64 p.mu, ints p.co, ints p.se, ints p.ch, .lst 1 false (p.cs.map ints), .int .i64 p.th]
def oneP : Pg := ⟨[⟨1, []⟩], 0, [], [], [], [], 1⟩
theorem one117 : Spec Try.prog 117 [] [] (fun d os' => d = pgD oneP ∧ os' = []) := by
  refine Spec.frz (post' := fun d => d = pgD oneP) ?_
  refine Spec.by Try.func117 rfl (by decide) (by decide +kernel) rfl ?_
  (refine goA ?_)
  refine App.only false rfl rfl ?_
  (refine goA ?_)
  refine Ret.mk [.cell 0 26] rfl ?_; (refine goA ?_)
  exact ⟨pgD oneP, View.agg (.cons (View.lst (by simp) (.cons (.agg (.cons (.same _) (.cons (.nils _ _) .nil))) .nil) rfl) (.cons (.same _) (.cons (.nils _ _) (.cons (.nils _ _) (.cons (.nils _ _) (.cons (.nils _ _) (.same _))))))), rfl, rfl⟩
/-- A new frame. -/
def newFm (p : Pg) (f : Int) : Fm := ⟨f, 0, List.replicate ((p.fu[f.toNat]?).map (·.loc.toNat) |>.getD 0) 0⟩
theorem frame118 (p : Pg) (f : Nat) (u : Fu) (hu : p.fu[f]? = some u) (h0 : 0 ≤ u.loc ∧ u.loc ≤ 100) : Spec Try.prog 118 [pgD p, .int .i64 f] [] (fun d os' => d = frD ⟨f, 0, List.replicate u.loc.toNat 0⟩ ∧ os' = []) := by
  refine Spec.frz (post' := fun d => d = frD ⟨f, 0, List.replicate u.loc.toNat 0⟩) ?_
  refine Spec.by Try.func118 rfl (by decide) (by decide +kernel) rfl ?_
  (refine goA ?_)
  refine Opt.of (get_map hu) ?_
  (refine goA ?_)
  refine App.only false rfl rfl ?_
  (refine goA ?_)
  refine Ret.mk [.cell 4 34] rfl ?_; (refine goA ?_)
  refine ⟨frD ⟨f, 0, List.replicate u.loc.toNat 0⟩, View.agg (.cons (.same _) (.cons (.same _) (.cons ?_ .nil))), rfl, rfl⟩
  show View _ _ _ (D.lst 1 false ((List.replicate u.loc.toNat (0 : Int)).map (D.int .i64)))
  rw [List.map_replicate]
  exact .same _
theorem new38 (p : Pg) (f : Nat) (u : Fu) (hu : p.fu[f]? = some u) (h0 : 0 ≤ u.loc ∧ u.loc ≤ 100) : Spec Try.prog 38 [pgD p, .int .i64 f] [] (fun d os' => d = thD ⟨0, 0, [⟨f, 0, List.replicate u.loc.toNat 0⟩], [], 0⟩ ∧ os' = []) := by
  refine Spec.frz (post' := fun d => d = thD ⟨0, 0, [⟨f, 0, List.replicate u.loc.toNat 0⟩], [], 0⟩) ?_
  refine Spec.by Try.func38 rfl (by decide) (by decide +kernel) rfl ?_
  (refine goA ?_)
  refine Call.mk ((frame118 p f u hu h0).only _ rfl (by rintro d rfl; rfl)) ?_
  rintro d os' ⟨rfl, rfl⟩
  (refine goA ?_)
  refine App.only false rfl rfl ?_
  (refine goA ?_)
  refine Ret.mk [.cell 4 29] rfl ?_; (refine goA ?_)
  exact ⟨thD ⟨0, 0, [⟨f, 0, List.replicate u.loc.toNat 0⟩], [], 0⟩, View.agg (.cons (.same _) (.cons (.same _) (.cons (.same _) (.cons (.nils _ _) (.same _))))), rfl, rfl⟩
def pushT (t : Th) (v : Int) : Th × Bool := if t.sk.length = 16 then (t, false) else ({ t with sk := t.sk ++ [keep v] }, true)
theorem push40 (t : Th) (v : Int) (hl : t.sk.length * 8 ≤ 70368744177664) : Spec Try.prog 40 [thD t, .int .i64 v] [] (fun d os' => d = .tup [thD (pushT t v).1, .bool (pushT t v).2] ∧ os' = []) := by
  refine Spec.frz (post' := fun d => d = .tup [thD (pushT t v).1, .bool (pushT t v).2]) ?_
  refine Spec.by Try.func40 rfl (by decide) (by decide +kernel) rfl ?_
  (refine goA ?_)
  refine Br.dec (fun h => ?_) (fun h => ?_)
  · (refine goA ?_)
    refine Ret.mk [.cell 4 29, .tmp 5] rfl ?_; (refine goA ?_)
    have h' : t.sk.length = 16 := by simp at h; omega
    simp only [pushT, if_pos h']
    exact ⟨_, View.same _, rfl, rfl⟩
  · (refine goA ?_)
    refine Nm.mk (t.sk.map (D.int .i64)) (by rw [Int.toNat_natCast, List.take_length]; rfl) ?_
    (refine goA ?_)
    refine Call.mk (keep35 v _) ?_
    rintro d os' ⟨rfl, rfl⟩
    (refine goA ?_)
    refine App.only false rfl rfl ?_
    (refine goA ?_)
    refine App.only false rfl rfl ?_
    (refine goA ?_)
    refine Ret.mk [.cell 4 29, .tmp 5] rfl ?_; (refine goA ?_)
    have h' : ¬ t.sk.length = 16 := by simp at h; omega
    simp only [pushT, if_neg h']
    refine ⟨.tup [thD { t with sk := t.sk ++ [keep v] }, .bool true], View.tup (.cons (.agg (.cons (.same _) (.cons (.same _) (.cons (.same _) (.cons ?_ (.same _)))))) (.same _)), rfl, rfl⟩
    show View _ _ _ (D.lst 1 false ((t.sk ++ [keep v]).map (D.int .i64)))
    rw [List.map_append]
    exact .same _
end Go.Proofs.Ytaplihoeephbeaa.V
