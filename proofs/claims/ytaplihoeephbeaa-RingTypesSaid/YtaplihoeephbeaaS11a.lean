/- S11a: a text of a symbolic executor that is proved sound, and contracts that are proved with it. -/
import Derived.Test.YtaplihoeephbeaaS10
set_option linter.unusedVariables false
set_option linter.unusedSimpArgs false
namespace Go.Proofs.Ytaplihoeephbeaa.V
open Go Go.Proofs
set_option maxRecDepth 100000
set_option maxHeartbeats 4000000
def lok (l : List Int) : Prop := l.length * 8 ≤ 140737488351232 ∧ ∀ v ∈ l, I64 v
structure Pg.okB (p : Pg) : Prop where
  fl : p.fu.length * 32 ≤ 140737488351232
  fu : ∀ f ∈ p.fu, I64 f.loc ∧ f.code.length * 16 ≤ 140737488351232 ∧ ∀ x ∈ f.code, I64 x.1 ∧ I64 x.2
  mu : I64 p.mu
  co : lok p.co
  se : lok p.se
  ch : lok p.ch
  cl : p.cs.length * 24 ≤ 140737488351232
  cs : ∀ l ∈ p.cs, lok l
  th : I64 p.th
/-- A program that is made. -/
structure GoodP (g : Pg) : Prop where
  sz : Szs g
  fu : ∀ f ∈ g.fu, (0 ≤ f.loc ∧ f.loc ≤ 3) ∧ f.code.length ≤ 24 ∧ ∀ x ∈ f.code, inOk g.fu.length g f.loc f.code.length x
  co : ∀ v ∈ g.co, 0 ≤ v ∧ v < g.mu
  se : ∀ v ∈ g.se, 0 ≤ v ∧ v ≤ 3
  ch : ∀ v ∈ g.ch, 0 ≤ v ∧ v ≤ 3
  cs : ∀ l ∈ g.cs, l ≠ [] ∧ small (g.ch.length - 1) l
  th : 1 ≤ g.th ∧ g.th ≤ 8
@[reducible] def rowC (l : List (List Int)) : Fam := one (.row 23 1 true (l.map ints))
@[reducible] def outD (fu : D) (mu : Int) (co se ch : List Int) (cs : D) (th : Int) : Fam := one (.row 26 7 false [.agg [fu, .int .i64 mu, ints co, ints se, ints ch, cs, .int .i64 th]])
@[reducible] def zP : D := .agg [.nils, .int .i64 0, .nils, .nils, .nils, .nils, .int .i64 0]
/-- The row of functions whose codes lie in the family b. -/
def fuK (b : Nat) : Nat → List Fu → List D
  | _, [] => []
  | k, f :: fs => .agg [.int .i64 f.loc, .sl b k 2 0 f.code.length none] :: fuK b (k + 1) fs
def fuR (fs : List Fu) : List D := fuK 5 0 fs
def fuC (fs : List Fu) (k : Nat) : List D := ((fs[k]?).map (fun f => f.code.map inD)).getD []
theorem fuK_length (b : Nat) : ∀ (k : Nat) (fs : List Fu), (fuK b k fs).length = fs.length
  | _, [] => rfl
  | k, f :: fs => by simp [fuK, fuK_length b (k + 1) fs]
theorem fuK_get (b : Nat) : ∀ (k : Nat) (fs : List Fu) (i : Nat), (fuK b k fs)[i]? = (fs[i]?).map (fun f => D.agg [.int .i64 f.loc, .sl b (k + i) 2 0 f.code.length none])
  | _, [], i => by simp [fuK]
  | k, f :: fs, 0 => by simp [fuK]
  | k, f :: fs, i + 1 => by simp only [fuK, List.getElem?_cons_succ, fuK_get b (k + 1) fs i]; rw [Nat.add_right_comm, Nat.add_assoc]
theorem fuK_snoc (b : Nat) (f : Fu) : ∀ (k : Nat) (fs : List Fu), fuK b k (fs ++ [f]) = fuK b k fs ++ [.agg [.int .i64 f.loc, .sl b (k + fs.length) 2 0 f.code.length none]]
  | _, [] => rfl
  | k, g :: fs => by simp only [List.cons_append, fuK, fuK_snoc b f (k + 1) fs, List.length_cons]; rw [Nat.add_right_comm, Nat.add_assoc]
theorem fuK_lt (b n : Nat) (h : Nat.blt b n = true) : ∀ (k : Nat) (fs : List Fu), D.ltL n (fuK b k fs) = true
  | _, [] => rfl
  | k, f :: fs => by simp [fuK, D.ltL, D.lt, h, fuK_lt b n h (k + 1) fs]
theorem fuK_names (b n : Nat) (h : Nat.beq b n = false) : ∀ (k : Nat) (fs : List Fu), D.namesL n (fuK b k fs) = false
  | _, [] => rfl
  | k, f :: fs => by simp [fuK, D.namesL, D.names, h, fuK_names b n h (k + 1) fs]
theorem fuK_ren (b x y : Nat) (h : Nat.beq b x = false) : ∀ (k : Nat) (fs : List Fu), D.renL x y (fuK b k fs) = fuK b k fs
  | _, [] => rfl
  | k, f :: fs => by simp [fuK, D.renL, D.ren, h, fuK_ren b x y h (k + 1) fs]
theorem fuK_swp (b a n : Nat) (h : Nat.beq b a = false) : ∀ (k : Nat) (fs : List Fu), k + fs.length ≤ n → D.mapIdL (swp a b n) (fuK b k fs) = fuK b k fs
  | _, [], _ => rfl
  | k, f :: fs, hl => by
    have hk : k ≠ n := by simp at hl; omega
    have e : swp a b n b k = (b, k) := swp_ne (fun e => by rw [e.1, Nat.beq_refl] at h; simp at h) (fun e => hk e.2)
    simp only [fuK, D.mapIdL, D.mapId, e, fuK_swp b a n h (k + 1) fs (by simp at hl; omega)]
theorem fuC_snoc (fs : List Fu) (f : Fu) : (fun k => bif Nat.beq k fs.length then f.code.map inD else fuC fs k) = fuC (fs ++ [f]) := by
  funext k
  unfold fuC
  by_cases h : k = fs.length
  · subst h; simp [Nat.beq_refl]
  · rw [beq_ne h]
    simp only [cond_false]
    rcases Nat.lt_or_ge k fs.length with hk | hk
    · rw [List.getElem?_append_left hk]
    · rw [List.getElem?_eq_none hk, List.getElem?_eq_none (by simp; omega)]
theorem fuC_set (fs : List Fu) (i : Nat) (f : Fu) (h : i < fs.length) : (fun k => bif Nat.beq k i then f.code.map inD else fuC fs k) = fuC (fs.set i f) := by
  funext k
  unfold fuC
  rw [List.getElem?_set]
  by_cases hk : i = k
  · subst hk; simp [Nat.beq_refl, h]
  · rw [beq_ne (Ne.symm hk), if_neg hk]; rfl
theorem fuK_set (b : Nat) (f : Fu) : ∀ (k : Nat) (fs : List Fu) (i : Nat) (g : Fu), fs[i]? = some g → g.loc = f.loc → g.code.length = f.code.length → fuK b k (fs.set i f) = fuK b k fs
  | _, [], i, g, h, _, _ => by simp at h
  | k, x :: fs, 0, g, h, h1, h2 => by simp at h; subst h; simp [fuK, h1, h2]
  | k, x :: fs, i + 1, g, h, h1, h2 => by simp only [List.set_cons_succ, fuK]; rw [fuK_set b f (k + 1) fs i g (by simpa using h) h1 h2]
theorem view_fu {F : Nat → Bool} {os : Objs} {fs : List Fu} {n : Nat} (hn : fs.length = n) (h4 : os.at 4 0 = .row 45 2 false (fuR fs)) (h5 : ∀ j, os.at 5 j = .row 139 2 true (fuC fs j)) (F4 : F 4 = true) (F5 : F 5 = true) : View F os (.sl 4 0 2 0 n none) (.lst 2 false (fs.map fuD)) := by
  refine View.slAll F4 h4 (by rw [fuR, fuK_length]; exact hn) (by simp) (ViewL.of (by rw [fuR, fuK_length, List.length_map]) (fun i d d' h1 h2 => ?_)) (pureL_map (fun _ => rfl) _)
  rw [fuR, fuK_get] at h1
  rw [List.getElem?_map] at h2
  cases hf : fs[i]? with
  | none => rw [hf] at h1; simp at h1
  | some f =>
    rw [hf] at h1 h2
    simp only [Option.map_some, Option.some.injEq] at h1 h2
    subst h1 h2
    refine View.agg (.cons (.same _) (.cons (View.slAll F5 (h5 (0 + i)) (by simp [fuC, hf]) (by simp) ?_ (pureL_map (fun _ => rfl) _)) .nil))
    rw [Nat.zero_add]
    simp only [fuC, hf, Option.map_some, Option.getD_some]
    exact .same _
@[reducible] def P3 : List (Nat × D) := [(1, .ptr 0 0 7 0 0), (2, .ptr 1 0 7 0 0), (3, .ptr 2 0 7 0 0)]
/-- A function that is made, its code not yet. -/
def rawF (f : Fu) : Prop := (0 ≤ f.loc ∧ f.loc ≤ 3) ∧ f.code.length ≤ 24 ∧ ∀ x ∈ f.code, I64 x.1 ∧ I64 x.2
@[reducible] def gO (p : Pg) (mu : Int) (co se ch : List Int) (cs : List (List Int)) (th : Int) (fu : D) (R : Fam) (C : Nat → List D) (r : Objs) : Objs :=
  one (.row 26 7 false [pgD p]) :: one (.row 26 7 false [zP]) :: outD fu mu co se ch (.lst 1 false (cs.map ints)) (1 + th) :: one .gone :: R :: .rows 139 2 C :: r
theorem mapIdL_append (φ : Nat → Nat → Nat × Nat) : ∀ (a b : List D), D.mapIdL φ (a ++ b) = D.mapIdL φ a ++ D.mapIdL φ b
  | [], b => rfl
  | d :: a, b => by simp only [List.cons_append, D.mapIdL, mapIdL_append φ a b]
end Go.Proofs.Ytaplihoeephbeaa.V
