/- C0: a text of a symbolic executor that is proved sound, and contracts that are proved with it. -/
import Derived.Test.YtkceciebmkklpaaGreatVA
import Derived.Test.YtkceciebmkklpaaGreatVB
import Derived.Test.YtkceciebmkklpaaGreatVT
import Derived.Test.YtkceciebmkklpaaGreatVC
set_option linter.unusedVariables false
set_option linter.unusedSimpArgs false
section
namespace Go.Proofs.YtkceciebmkklpaaGreat.V
open Go Go.Proofs
set_option maxRecDepth 100000
@[reducible] def ints (xs : List Int) : D := .lst 1 false (xs.map (D.int .i64))
@[reducible] def idxD (o : Option Nat) : D := .int .i64 (match o with | some i => (i : Int) | none => -1)
theorem find_at {α : Type} {xs : List α} {q : α → Bool} {i : Nat} (hi : i < xs.length) (hb : q xs[i] = true) (hf : ∀ x ∈ xs.take i, q x = false) : xs.findIdx? q = some i := by
  rw [List.findIdx?_eq_some_iff_getElem]
  refine ⟨hi, hb, fun j hj => ?_⟩
  have : xs[j] ∈ xs.take i := by rw [List.mem_take_iff_getElem]; exact ⟨j, by omega, rfl⟩
  simp [hf _ this]
theorem find_none {α : Type} {xs : List α} {q : α → Bool} {i : Nat} (hi : xs.length ≤ i) (hf : ∀ x ∈ xs.take i, q x = false) : xs.findIdx? q = none := by
  rw [List.findIdx?_eq_none_iff]
  intro x hx
  exact hf x (by rw [List.take_of_length_le hi]; exact hx)
theorem take_more {α : Type} {xs : List α} {q : α → Bool} {i : Nat} (hi : i < xs.length) (hb : q xs[i] = false) (hf : ∀ x ∈ xs.take i, q x = false) : ∀ x ∈ xs.take (i + 1), q x = false := by
  intro x hx
  rw [List.take_add_one, List.getElem?_eq_getElem hi] at hx
  rcases List.mem_append.1 hx with h | h
  · exact hf x h
  · simp at h; rw [h]; exact hb
def keep (n : Int) : Int := if n < -1073741824 then -1073741824 else if 1073741824 < n then 1073741824 else n
theorem keep35 (n : Int) (os : Objs) : Spec Tryz.prog 99 [.int .i64 n] os (fun d os' => d = .int .i64 (keep n) ∧ os' = os) := by
  refine Spec.by Tryz.func99 rfl (by decide) (by decide +kernel) rfl ?_
  (refine goA ?_)
  refine Ret.mk [.tmp _] rfl ?_; refine And.intro ?_ rfl
  unfold keep
  congr 1
  split <;> split <;> (try split) <;> omega
def kept (xs : List Int) : Bool := !(xs.any fun n => decide (n ≠ keep n))
theorem same50 (xs ys : List Int) (hl : xs.length ≤ 9223372036854775806) : Spec Tryz.prog 51 [ints xs, ints ys] [] (fun d os' => d = .bool (decide (xs = ys)) ∧ os' = []) := by
  refine Spec.by Tryz.func51 rfl (by decide) (by decide +kernel) rfl ?_
  (refine goA ?_)
  refine Br.cs (fun hb => ?_) (fun hb => ?_)
  · (refine goA ?_)
    refine Ret.mk [.tmp _] rfl ?_; refine And.intro ?_ rfl
    have : ¬ xs = ys := fun e => by subst e; simp at hb
    simp [this]
  · simp only [List.length_map, Bool.not_eq_false', decide_eq_true_eq] at hb
    have hlen : xs.length = ys.length := by omega
    (refine goA ?_)
    refine Loop.inv (A := Nat) [] (fun i => [(5, .int .i64 (i : Int))]) (fun _ => []) (fun i => i ≤ xs.length ∧ xs.take i = ys.take i) (fun i => xs.length - i) 0 ⟨Nat.zero_le _, by simp⟩ (Weak.start tld) ?_
    intro i ⟨hi, hf⟩
    (refine goA ?_)
    refine Br.dec (fun h => ?_) (fun h => ?_)
    · simp only [List.length_map] at h
      (refine goA ?_)
      refine Opt.of (get_map (List.getElem?_eq_getElem (l := xs) (i := i) (by omega))) ?_
      (refine goA ?_)
      refine Opt.of (get_map (List.getElem?_eq_getElem (l := ys) (i := i) (by omega))) ?_
      (refine goA ?_)
      refine Br.cs (fun hb => ?_) (fun hb => ?_)
      · simp at hb
        (refine goA ?_)
        refine Ret.mk [.tmp _] rfl ?_; refine And.intro ?_ rfl
        have : ¬ xs = ys := fun e => by subst e; exact hb rfl
        simp [this]
      · simp at hb
        (refine goA ?_)
        refine Loop.next (i + 1) ?_ ?_ (Weak.back rfl tld rfl rfl)
        · exact ⟨by omega, by rw [List.take_add_one, List.take_add_one, hf, List.getElem?_eq_getElem (by omega), List.getElem?_eq_getElem (by omega), hb]⟩
        · omega
    · simp only [List.length_map] at h
      (refine goA ?_)
      refine Ret.mk [.tmp _] rfl ?_; refine And.intro ?_ rfl
      have : xs = ys := by
        rw [List.take_of_length_le (by omega), List.take_of_length_le (by omega)] at hf
        exact hf
      simp [this]
end Go.Proofs.YtkceciebmkklpaaGreat.V
end
section
namespace Go.Proofs.YtkceciebmkklpaaGreat.V
open Go Go.Proofs
set_option maxRecDepth 100000
structure Fm where
  fn : Int
  pc : Int
  ls : List Int
deriving DecidableEq
structure Th where
  st : Int
  on : Int
  fr : List Fm
  sk : List Int
  code : Int
deriving DecidableEq
@[reducible] def frD (f : Fm) : D := .agg [.int .i64 f.fn, .int .i64 f.pc, ints f.ls]
@[reducible] def frs (l : List Fm) : D := .lst 3 false (l.map frD)
@[reducible] def thD (t : Th) : D := .agg [.int .i64 t.st, .int .i64 t.on, frs t.fr, ints t.sk, .int .i64 t.code]
def Fm.ok (f : Fm) : Prop := f.ls.length ≤ 9223372036854775806
theorem fm_eq (f g : Fm) : f = g ↔ f.fn = g.fn ∧ f.pc = g.pc ∧ f.ls = g.ls := by cases f; cases g; simp
end Go.Proofs.YtkceciebmkklpaaGreat.V
end
section
namespace Go.Proofs.YtkceciebmkklpaaGreat.V
open Go Go.Proofs
set_option maxRecDepth 100000
structure Th.ok (t : Th) : Prop where
  fl : t.fr.length ≤ 9223372036854775806
  sl : t.sk.length ≤ 9223372036854775806
  fo : ∀ f ∈ t.fr, f.ok
theorem th_eq (f g : Th) : f = g ↔ f.st = g.st ∧ f.on = g.on ∧ f.fr = g.fr ∧ f.sk = g.sk ∧ f.code = g.code := by cases f; cases g; simp
theorem same53 (t u : Th) (hf : t.ok) : Spec Tryz.prog 24 [thD t, thD u] [] (fun d os' => d = .bool (decide (t = u)) ∧ os' = []) := by
  obtain ⟨h1, h2, h3⟩ := hf
  refine Spec.by Tryz.func24 rfl (by decide) (by decide +kernel) rfl ?_
  (refine goA ?_)
  refine Br.cs (fun b1_ => ?_) (fun b1_ => ?_) <;> have b1 := b1_ <;> simp at b1
  · (refine goA ?_)
    refine Ret.trim 0 (by simp) rfl (Nat.le_of_ble_eq_true rfl) ?_
    refine Ret.mk [.tmp _] rfl ?_; refine And.intro ?_ rfl
    simp [th_eq, b1]
  (refine goA ?_)
  refine Br.cs (fun b2_ => ?_) (fun b2_ => ?_) <;> have b2 := b2_ <;> simp at b2
  · (refine goA ?_)
    refine Ret.trim 0 (by simp) rfl (Nat.le_of_ble_eq_true rfl) ?_
    refine Ret.mk [.tmp _] rfl ?_; refine And.intro ?_ rfl
    simp [th_eq, b2]
  (refine goA ?_)
  refine Br.cs (fun b3_ => ?_) (fun b3_ => ?_) <;> have b3 := b3_ <;> simp at b3
  · (refine goA ?_)
    refine Ret.trim 0 (by simp) rfl (Nat.le_of_ble_eq_true rfl) ?_
    refine Ret.mk [.tmp _] rfl ?_; refine And.intro ?_ rfl
    simp [th_eq, b3]
  (refine goA ?_)
  refine Br.cs (fun b4_ => ?_) (fun b4_ => ?_) <;> have b4 := b4_ <;> simp at b4
  · (refine goA ?_)
    refine Ret.trim 0 (by simp) rfl (Nat.le_of_ble_eq_true rfl) ?_
    refine Ret.mk [.tmp _] rfl ?_; refine And.intro ?_ rfl
    have : ¬ t = u := fun e => by subst e; exact b4 rfl
    simp [this]
  (refine goA ?_)
  refine Call.mk ((same50 t.sk u.sk h2).read (ViewL.same _) rfl (by rintro d rfl; exact ⟨rfl, rfl⟩)) ?_
  rintro d os' ⟨rfl, rfl⟩
  (refine goA ?_)
  refine Br.cs (fun b5_ => ?_) (fun b5_ => ?_) <;> have b5 := b5_ <;> simp at b5
  · (refine goA ?_)
    refine Ret.trim 0 (by simp) rfl (Nat.le_of_ble_eq_true rfl) ?_
    refine Ret.mk [.tmp _] rfl ?_; refine And.intro ?_ rfl
    simp [th_eq, b5]
  (refine goA ?_)
  have hlen : t.fr.length = u.fr.length := by omega
  refine Loop.inv (A := Nat) [] (fun i => [(5, .int .i64 (i : Int))]) (fun _ => [one (.row 42 5 false [thD t]), one (.row 42 5 false [thD u])]) (fun i => i ≤ t.fr.length ∧ t.fr.take i = u.fr.take i) (fun i => t.fr.length - i) 0 ⟨Nat.zero_le _, by simp⟩ (Weak.start tld) ?_
  intro i ⟨hi, hf⟩
  (refine goA ?_)
  refine Br.dec (fun h => ?_) (fun h => ?_)
  · simp only [List.length_map] at h
    (refine goA ?_)
    refine Opt.of (get_map (List.getElem?_eq_getElem (l := t.fr) (i := i) (by omega))) ?_
    (refine goA ?_)
    refine Opt.of (get_map (List.getElem?_eq_getElem (l := u.fr) (i := i) (by omega))) ?_
    (refine goA ?_)
    refine Br.cs (fun c1_ => ?_) (fun c1_ => ?_) <;> have c1 := c1_ <;> simp at c1
    · (refine goA ?_)
      refine Ret.trim 0 (by simp) rfl (Nat.le_of_ble_eq_true rfl) ?_
      refine Ret.mk [.tmp _] rfl ?_; refine And.intro ?_ rfl
      have : ¬ t = u := fun e => by subst e; exact c1 rfl
      simp [this]
    (refine goA ?_)
    refine Br.cs (fun c2_ => ?_) (fun c2_ => ?_) <;> have c2 := c2_ <;> simp at c2
    · (refine goA ?_)
      refine Ret.trim 0 (by simp) rfl (Nat.le_of_ble_eq_true rfl) ?_
      refine Ret.mk [.tmp _] rfl ?_; refine And.intro ?_ rfl
      have : ¬ t = u := fun e => by subst e; exact c2 rfl
      simp [this]
    (refine goA ?_)
    refine Call.mk ((same50 t.fr[i].ls u.fr[i].ls (h3 _ (List.getElem_mem _))).read (ViewL.same _) rfl (by rintro d rfl; exact ⟨rfl, rfl⟩)) ?_
    rintro d os' ⟨rfl, rfl⟩
    (refine goA ?_)
    refine Br.cs (fun c3_ => ?_) (fun c3_ => ?_) <;> have c3 := c3_ <;> simp at c3
    · (refine goA ?_)
      refine Ret.trim 0 (by simp) rfl (Nat.le_of_ble_eq_true rfl) ?_
      refine Ret.mk [.tmp _] rfl ?_; refine And.intro ?_ rfl
      have : ¬ t = u := fun e => by subst e; exact c3 rfl
      simp [this]
    (refine goA ?_)
    refine Loop.next (i + 1) ?_ ?_ (Weak.backT 2 (by simp) rfl rfl (Nat.le_of_ble_eq_true rfl) tld rfl rfl)
    · have he : t.fr[i] = u.fr[i] := by rw [fm_eq]; exact ⟨c1, c2, c3⟩
      exact ⟨by omega, by rw [List.take_add_one, List.take_add_one, hf, List.getElem?_eq_getElem (by omega), List.getElem?_eq_getElem (by omega), he]⟩
    · omega
  · simp only [List.length_map] at h
    (refine goA ?_)
    refine Ret.trim 0 (by simp) rfl (Nat.le_of_ble_eq_true rfl) ?_
    refine Ret.mk [.tmp _] rfl ?_; refine And.intro ?_ rfl
    have : t.fr = u.fr := by
      rw [List.take_of_length_le (by omega), List.take_of_length_le (by omega)] at hf
      exact hf
    simp [th_eq, this, b1, b2, b3, b5]
end Go.Proofs.YtkceciebmkklpaaGreat.V
end
section
namespace Go.Proofs.YtkceciebmkklpaaGreat.V
open Go Go.Proofs
set_option maxRecDepth 100000
theorem clone130 (xs : List Int) (hl : xs.length * 8 ≤ 140737488351232) : Spec Tryz.prog 80 [ints xs] [] (fun d os' => d = ints xs ∧ os' = []) := by
  refine Spec.by Tryz.func80 rfl (by decide) (by decide +kernel) rfl ?_
  (refine goA ?_)
  refine And.intro (fun hn => ?_) (fun hn => And.intro ?_ ?_)
  · (refine goA ?_)
    refine App.own ?_
    (refine goA ?_)
    refine Ret.frz allF [(2, ints xs)] ⟨View.slAll rfl rfl (by simp [setAll]) (by simp) (ViewL.same _) (pureL_map (fun _ => rfl) _), trivial⟩ ?_
    refine Ret.trim 0 (by simp) rfl (Nat.le_of_ble_eq_true rfl) ?_
    refine Ret.mk [.tmp _] rfl ?_; refine And.intro ?_ rfl
    rfl
  · (refine goA ?_)
    refine Ret.frz allF [(2, ints xs)] ⟨by rw [ints, hn]; exact View.nils 1 false, trivial⟩ ?_
    refine Ret.trim 0 (by simp) rfl (Nat.le_of_ble_eq_true rfl) ?_
    refine Ret.mk [.tmp _] rfl ?_; refine And.intro ?_ rfl
    rfl
  · (refine goA ?_)
    refine App.own ?_
    (refine goA ?_)
    refine Ret.frz allF [(2, ints xs)] ⟨View.slAll rfl rfl (by simp [setAll]) (by simp) (ViewL.same _) (pureL_map (fun _ => rfl) _), trivial⟩ ?_
    refine Ret.trim 0 (by simp) rfl (Nat.le_of_ble_eq_true rfl) ?_
    refine Ret.mk [.tmp _] rfl ?_; refine And.intro ?_ rfl
    rfl
@[reducible] def rowF (l : List Fm) : Fam := one (.row 116 3 true (l.map frD))
theorem clone131 (xs : List Fm) (hl : xs.length * 40 ≤ 140737488351232) : Spec Tryz.prog 127 [frs xs] [] (fun d os' => (xs = [] ∧ d = .nils ∧ os' = []) ∨ (d = .sl 0 0 3 0 xs.length none ∧ os' = [rowF xs])) := by
  refine Spec.by Tryz.func127 rfl (by decide) (by decide +kernel) rfl ?_
  (refine goA ?_)
  refine And.intro (fun hn => ?_) (fun hn => And.intro ?_ ?_)
  · (refine goA ?_)
    refine App.own ?_
    (refine goA ?_)
    refine Ret.weak (Weak.shift 1 0 (by decide) (by simp) (Nat.le_of_ble_eq_true rfl) (Nat.le_of_ble_eq_true rfl) (fun j => by cases j <;> rfl) rfl) ?_
    refine Ret.trim 1 (by simp) rfl (Nat.le_of_ble_eq_true rfl) ?_
    refine Ret.mk [.tmp _] rfl (.inr (And.intro ?_ rfl))
    show D.sl 0 0 3 0 (0 + (xs.map frD).length) none = _
    simp
  · (refine goA ?_)
    refine Ret.mk [.tmp _] rfl (.inl ⟨?_, rfl, rfl⟩)
    simpa using hn
  · (refine goA ?_)
    refine App.own ?_
    (refine goA ?_)
    refine Ret.weak (Weak.shift 1 0 (by decide) (by simp) (Nat.le_of_ble_eq_true rfl) (Nat.le_of_ble_eq_true rfl) (fun j => by cases j <;> rfl) rfl) ?_
    refine Ret.trim 1 (by simp) rfl (Nat.le_of_ble_eq_true rfl) ?_
    refine Ret.mk [.tmp _] rfl (.inr (And.intro ?_ rfl))
    show D.sl 0 0 3 0 (0 + (xs.map frD).length) none = _
    simp
def Th.okB (t : Th) : Prop := t.fr.length * 40 ≤ 140737488351232 ∧ t.sk.length * 8 ≤ 140737488351232 ∧ ∀ f ∈ t.fr, f.ls.length * 8 ≤ 140737488351232
theorem clone61 (t : Th) (h : t.okB) : Spec Tryz.prog 81 [thD t] [] (fun d os' => d = thD t ∧ os' = []) := by
  refine Spec.frz (post' := fun d => d = thD t) ?_
  obtain ⟨h1, h2, h3⟩ := h
  refine Spec.by Tryz.func81 rfl (by decide) (by decide +kernel) rfl ?_
  (refine goA ?_)
  refine Call.mk ((clone130 t.sk h2).only _ rfl (by rintro d rfl; rfl)) ?_
  rintro d os' ⟨rfl, rfl⟩
  (refine goA ?_)
  refine Call.mk ((clone131 t.fr h1).onto _ rfl) ?_
  rintro d os' ⟨d1, os1, ⟨he, rfl, rfl⟩ | ⟨rfl, rfl⟩, rfl, rfl⟩
  · (refine goA ?_)
    refine Loop.inv (A := Unit) [] (fun i => [(16, .int .i64 0)]) (fun _ => _) (fun i => True) (fun i => 0) () trivial (Weak.start tld) ?_
    intro i _
    (refine goA ?_)
    refine Ret.mk [.cell 2 42] rfl ?_; (refine goA ?_)
    exact ⟨thD t, View.agg (.cons (.same _) (.cons (.same _) (.cons (by rw [he]; exact .nils _ _) (.same _)))), rfl, rfl⟩
  · (refine goA ?_)
    refine Loop.inv (A := Nat) [] (fun i => [(16, .int .i64 (i : Int))]) (fun _ => _) (fun i => i ≤ t.fr.length) (fun i => t.fr.length - i) 0 (Nat.zero_le _) (Weak.start tld) ?_
    intro i hi
    (refine goA ?_)
    refine Br.dec (fun h => ?_) (fun h => ?_)
    · (refine goA ?_)
      have hget : t.fr[0 + i]? = some t.fr[i] := by rw [Nat.zero_add]; exact List.getElem?_eq_getElem (by omega)
      refine Opt.of (get_map hget) ?_
      (refine goA ?_)
      refine Call.mk ((clone130 t.fr[i].ls (h3 _ (List.getElem_mem _))).only _ rfl (by rintro d rfl; rfl)) ?_
      rintro d os' ⟨rfl, rfl⟩
      (refine goA ?_)
      refine Opt.of (get_map hget) ?_
      (refine goA ?_)
      refine Loop.next (i + 1) ?_ ?_ (Weak.backT 3 (by simp) ?_ rfl (Nat.le_of_ble_eq_true rfl) tld rfl rfl)
      · omega
      · omega
      · exact congrArg (fun r => ([_, _, one (.row 116 3 true r)] : Objs)) (set_same hget)
    · (refine goA ?_)
      refine Ret.mk [.cell 2 42] rfl ?_; (refine goA ?_)
      exact ⟨thD t, View.agg (.cons (.same _) (.cons (.same _) (.cons (.slAll rfl rfl (by simp) (by simp) (.same _) (pureL_map (fun _ => rfl) _)) (.same _)))), rfl, rfl⟩
end Go.Proofs.YtkceciebmkklpaaGreat.V
end
section
namespace Go.Proofs.YtkceciebmkklpaaGreat.V
open Go Go.Proofs
set_option maxRecDepth 100000
set_option maxHeartbeats 4000000
/-- A program, as it lies. -/
structure Fu where
  loc : Int
  code : List (Int × Int)
deriving DecidableEq
structure Pg where
  fu : List Fu
  mu : Int
  co : List Int
  se : List Int
  ch : List Int
  cs : List (List Int)
  th : Int
deriving DecidableEq
@[reducible] def inD (x : Int × Int) : D := .agg [.int .i64 x.1, .int .i64 x.2]
@[reducible] def fuD (f : Fu) : D := .agg [.int .i64 f.loc, .lst 2 false (f.code.map inD)]
@[reducible] def pgD (p : Pg) : D := .agg [.lst 2 false (p.fu.map fuD), .int .i64 p.mu, ints p.co, ints p.se, ints p.ch, .lst 1 false (p.cs.map ints), .int .i64 p.th]
/-- A new frame. -/
def newFm (p : Pg) (f : Int) : Fm := ⟨f, 0, List.replicate ((p.fu[f.toNat]?).map (·.loc.toNat) |>.getD 0) 0⟩
theorem frame118 (p : Pg) (f : Nat) (u : Fu) (hu : p.fu[f]? = some u) (h0 : 0 ≤ u.loc ∧ u.loc ≤ 100) : Spec Tryz.prog 130 [pgD p, .int .i64 f] [] (fun d os' => d = frD ⟨f, 0, List.replicate u.loc.toNat 0⟩ ∧ os' = []) := by
  refine Spec.frz (post' := fun d => d = frD ⟨f, 0, List.replicate u.loc.toNat 0⟩) ?_
  refine Spec.by Tryz.func130 rfl (by decide) (by decide +kernel) rfl ?_
  (refine goA ?_)
  refine Opt.of (get_map hu) ?_
  (refine goA ?_)
  refine App.only false rfl rfl ?_
  (refine goA ?_)
  refine Ret.mk [.cell 4 116] rfl ?_; (refine goA ?_)
  refine ⟨frD ⟨f, 0, List.replicate u.loc.toNat 0⟩, View.agg (.cons (.same _) (.cons (.same _) (.cons ?_ .nil))), rfl, rfl⟩
  show View _ _ _ (D.lst 1 false ((List.replicate u.loc.toNat (0 : Int)).map (D.int .i64)))
  rw [List.map_replicate]
  exact .same _
theorem new38 (p : Pg) (f : Nat) (u : Fu) (hu : p.fu[f]? = some u) (h0 : 0 ≤ u.loc ∧ u.loc ≤ 100) : Spec Tryz.prog 87 [pgD p, .int .i64 f] [] (fun d os' => d = thD ⟨0, 0, [⟨f, 0, List.replicate u.loc.toNat 0⟩], [], 0⟩ ∧ os' = []) := by
  refine Spec.frz (post' := fun d => d = thD ⟨0, 0, [⟨f, 0, List.replicate u.loc.toNat 0⟩], [], 0⟩) ?_
  refine Spec.by Tryz.func87 rfl (by decide) (by decide +kernel) rfl ?_
  (refine goA ?_)
  refine Call.mk ((frame118 p f u hu h0).only _ rfl (by rintro d rfl; rfl)) ?_
  rintro d os' ⟨rfl, rfl⟩
  (refine goA ?_)
  refine App.only false rfl rfl ?_
  (refine goA ?_)
  refine Ret.mk [.cell 4 42] rfl ?_; (refine goA ?_)
  exact ⟨thD ⟨0, 0, [⟨f, 0, List.replicate u.loc.toNat 0⟩], [], 0⟩, View.agg (.cons (.same _) (.cons (.same _) (.cons (.same _) (.cons (.nils _ _) (.same _))))), rfl, rfl⟩
def pushT (t : Th) (v : Int) : Th × Bool := if t.sk.length = 16 then (t, false) else ({ t with sk := t.sk ++ [keep v] }, true)
theorem push40 (t : Th) (v : Int) (hl : t.sk.length * 8 ≤ 70368744177664) : Spec Tryz.prog 213 [thD t, .int .i64 v] [] (fun d os' => d = .tup [thD (pushT t v).1, .bool (pushT t v).2] ∧ os' = []) := by
  refine Spec.frz (post' := fun d => d = .tup [thD (pushT t v).1, .bool (pushT t v).2]) ?_
  refine Spec.by Tryz.func213 rfl (by decide) (by decide +kernel) rfl ?_
  (refine goA ?_)
  refine Br.dec (fun h => ?_) (fun h => ?_)
  · (refine goA ?_)
    refine Ret.mk [.cell 4 42, .tmp 5] rfl ?_; (refine goA ?_)
    have h' : t.sk.length = 16 := by simp at h; omega
    simp only [pushT, if_pos h']
    exact ⟨_, View.same _, rfl, rfl⟩
  · (refine goA ?_)
    refine Nm.mk (t.sk.map (D.int .i64)) (by rw [Int.toNat_natCast, List.take_length]; rfl) ?_
    (refine goA ?_)
    refine Call.mk (keep35 v _) ?_
    rintro d os' ⟨rfl, rfl⟩
    (refine goA ?_)
    refine App.only false rfl rfl ?_
    (refine goA ?_)
    refine App.only false rfl rfl ?_
    (refine goA ?_)
    refine Ret.mk [.cell 4 42, .tmp 5] rfl ?_; (refine goA ?_)
    have h' : ¬ t.sk.length = 16 := by simp at h; omega
    simp only [pushT, if_neg h']
    refine ⟨.tup [thD { t with sk := t.sk ++ [keep v] }, .bool true], View.tup (.cons (.agg (.cons (.same _) (.cons (.same _) (.cons (.same _) (.cons ?_ (.same _)))))) (.same _)), rfl, rfl⟩
    show View _ _ _ (D.lst 1 false ((t.sk ++ [keep v]).map (D.int .i64)))
    rw [List.map_append]
    exact .same _
end Go.Proofs.YtkceciebmkklpaaGreat.V
end
section
namespace Go.Proofs.YtkceciebmkklpaaGreat.V
open Go Go.Proofs
set_option maxRecDepth 100000
set_option maxHeartbeats 4000000
def oddF (p : Pg) (f : Fm) : Bool := if f.fn < 0 ∨ (p.fu.length : Int) ≤ f.fn then true else match p.fu[f.fn.toNat]? with
  | none => true
  | some u => decide (f.pc < 0) || decide ((u.code.length : Int) < f.pc) || decide ((f.ls.length : Int) ≠ u.loc) || !kept f.ls
end Go.Proofs.YtkceciebmkklpaaGreat.V
end
section
namespace Go.Proofs.YtkceciebmkklpaaGreat.V
open Go Go.Proofs
set_option maxRecDepth 100000
set_option maxHeartbeats 4000000
@[reducible] def rowI (l : List Int) : Fam := one (.row 3 1 true (l.map (D.int .i64)))
end Go.Proofs.YtkceciebmkklpaaGreat.V
end
section
namespace Go.Proofs.YtkceciebmkklpaaGreat.V
open Go Go.Proofs
set_option maxRecDepth 100000
set_option maxHeartbeats 4000000
def around (n m : Int) : Int := if n < 0 then (-(n + 1)).tmod m else n.tmod m
theorem around33 (n m : Int) (hn : -9223372036854775808 ≤ n ∧ n ≤ 9223372036854775807) (hm : 1 ≤ m) : Spec Tryz.prog 21 [.int .i64 n, .int .i64 m] [] (fun d os' => d = .int .i64 (around n m) ∧ os' = []) := by
  refine Spec.by Tryz.func21 rfl (by decide) (by decide +kernel) rfl ?_
  (refine goA ?_)
  refine Br.dec (fun h => ?_) (fun h => ?_)
  · (refine goA ?_)
    refine Ret.mk [.tmp _] rfl ?_; refine And.intro ?_ rfl
    simp [around, h]
  · (refine goA ?_)
    refine Ret.mk [.tmp _] rfl ?_; refine And.intro ?_ rfl
    simp [around, h]
theorem around_lt (n m : Int) (hm : 1 ≤ m) : 0 ≤ around n m ∧ around n m < m := by
  unfold around
  split
  · rw [Int.tmod_eq_emod_of_nonneg (by omega)]
    exact ⟨Int.emod_nonneg _ (by omega), Int.emod_lt_of_pos _ (by omega)⟩
  · rw [Int.tmod_eq_emod_of_nonneg (by omega)]
    exact ⟨Int.emod_nonneg _ (by omega), Int.emod_lt_of_pos _ (by omega)⟩
end Go.Proofs.YtkceciebmkklpaaGreat.V
end
section
namespace Go.Proofs.YtkceciebmkklpaaGreat.V
open Go Go.Proofs
set_option maxRecDepth 100000
set_option maxHeartbeats 4000000
def I64 (n : Int) : Prop := -9223372036854775808 ≤ n ∧ n ≤ 9223372036854775807
/-- The first four numbers, each made from 0 to one. -/
def small (to : Int) (l : List Int) : Prop := l.length ≤ 4 ∧ ∀ v ∈ l, 0 ≤ v ∧ v ≤ to
theorem map_snoc (l : List Int) (v : Int) : l.map (D.int .i64) ++ [D.int .i64 v] = (l ++ [v]).map (D.int .i64) := by simp
theorem things108 (xs : List Int) (to : Int) (hx : ∀ v ∈ xs, I64 v) (hl : xs.length ≤ 9223372036854775806) (ht : -1 ≤ to ∧ to ≤ 1000) : Spec Tryz.prog 58 [ints xs, .int .i64 to] [] (fun d os' => (∃ l, small to l ∧ d = ints l) ∧ os' = []) := by
  refine Spec.frz (post' := fun d => ∃ l, small to l ∧ d = ints l) ?_
  refine Spec.by Tryz.func58 rfl (by decide) (by decide +kernel) rfl ?_
  (refine goA ?_)
  refine Loop.inv (A := Nat × List Int) [] (fun a => [(6, .int .i64 (a.1 : Int)), (5, .sl 0 0 1 0 a.2.length none)]) (fun a => [rowI a.2]) (fun a => a.1 ≤ xs.length ∧ a.1 ≤ 4 ∧ a.2.length = a.1 ∧ ∀ v ∈ a.2, 0 ≤ v ∧ v ≤ to) (fun a => 4 - a.1) (0, []) ⟨Nat.zero_le _, by omega, rfl, by simp⟩ ?_ ?_
  · refine Weak.trans (Weak.nilrow 5 rfl 3 1 true) ?_
    exact Weak.start' rfl rfl ⟨rfl, rfl, trivial⟩
  rintro ⟨i, l⟩ ⟨hi, h4, hil, hl4⟩
  dsimp only at hi h4 hil hl4 ⊢
  (refine goA ?_)
  refine Br.dec (fun h => ?_) (fun h => ?_)
  · (refine goR ?_)
    refine Br.dec (fun h2 => ?_) (fun h2 => ?_)
    · (refine goR ?_)
      refine Br.dec (fun h3 => ?_) (fun h3 => ?_)
      · simp only [List.length_map] at h
        (refine goA ?_)
        refine Opt.of (get_map (List.getElem?_eq_getElem (l := xs) (i := i) (by omega))) ?_
        (refine goR ?_)
        refine Call.mk ((around33 xs[i] (to + 1) (hx _ (List.getElem_mem _)) (by omega)).only _ rfl (by rintro d rfl; rfl)) ?_
        rintro d os' ⟨rfl, rfl⟩
        have hr := around_lt xs[i] (to + 1) (by omega)
        (refine goR ?_)
        refine App.only false rfl rfl ?_
        (refine goA ?_)
        refine ⟨_, _, _, ?_, ⟨(i + 1, l ++ [around xs[i] (to + 1)]), ?_, rfl, rfl, rfl⟩, ?_⟩
        · show 4 - (i + 1) < 4 - i
          omega
        · refine ⟨by show i + 1 ≤ _; omega, by show i + 1 ≤ _; omega, by simp [hil], ?_⟩
          intro v hv
          rcases List.mem_append.1 hv with hv | hv
          · exact hl4 v hv
          · simp at hv; subst hv; omega
        refine Weak.trans (Weak.shift 1 0 (by decide) (by simp) (Nat.le_of_ble_eq_true rfl) (Nat.le_of_ble_eq_true rfl) (fun j => by cases j <;> rfl) rfl) ?_
        refine Weak.backT 1 (by simp) ?_ (by kernel_rfl) (Nat.le_of_ble_eq_true rfl) ?_ (by kernel_rfl) (by kernel_rfl)
        · exact congrArg (fun r => ([one (.row 3 1 true r)] : Objs)) (map_snoc _ _)
        · refine ⟨rfl, ?_, trivial⟩
          show D.sl 0 0 1 0 (l ++ [around xs[i] (to + 1)]).length none = D.sl 0 0 1 0 (l.length + 1) none
          simp
      · (refine goA ?_)
        refine Ret.mk [.tmp 4] rfl ?_; (refine goA ?_)
        exact ⟨ints l, View.slAll rfl rfl (by simp) (by simp) (ViewL.same _) (pureL_map (fun _ => rfl) _), rfl, l, ⟨by omega, hl4⟩, rfl⟩
    · (refine goA ?_)
      refine Ret.mk [.tmp 4] rfl ?_; (refine goA ?_)
      exact ⟨ints l, View.slAll rfl rfl (by simp) (by simp) (ViewL.same _) (pureL_map (fun _ => rfl) _), rfl, l, ⟨by omega, hl4⟩, rfl⟩
  · (refine goA ?_)
    refine Ret.mk [.tmp 4] rfl ?_; (refine goA ?_)
    exact ⟨ints l, View.slAll rfl rfl (by simp) (by simp) (ViewL.same _) (pureL_map (fun _ => rfl) _), rfl, l, ⟨by omega, hl4⟩, rfl⟩
def asksB (op : Int) : Bool := decide (op = 0) || (decide (5 ≤ op) && decide (op ≤ 9)) || decide (op = 11) || (decide (15 ≤ op) && decide (op ≤ 24))
theorem asks184 (op : Int) : Spec Tryz.prog 101 [.int .i64 op] [] (fun d os' => d = .bool (asksB op) ∧ os' = []) := by
  refine Spec.by Tryz.func101 rfl (by decide) (by decide +kernel) rfl ?_
  (refine goA ?_)
  repeat' (refine Br.dec (fun _ => ?_) (fun _ => ?_) <;> ((refine goA ?_)))
  all_goals (refine Ret.mk [.tmp _] rfl (And.intro (congrArg D.bool ?_) rfl); simp [asksB, *] <;> omega)
def mostF (g : Pg) (loc : Int) (cl : Nat) (op : Int) : Int :=
  if op = 0 then 1073741825 else if op = 5 ∨ op = 6 then loc else if op = 7 ∨ op = 8 then cl + 1 else if op = 9 ∨ op = 11 then g.fu.length else if op = 15 ∨ op = 16 then g.mu
  else if op = 17 ∨ op = 18 ∨ op = 19 then g.co.length else if op = 20 ∨ op = 21 then g.se.length else if op = 22 ∨ op = 23 then g.ch.length else if op = 24 then g.cs.length else 0
theorem most183 (g : Pg) (f : Fu) (op : Int) (hc : f.code.length ≤ 9223372036854775806) : Spec Tryz.prog 100 [pgD g, fuD f, .int .i64 op] [] (fun d os' => d = .int .i64 (mostF g f.loc f.code.length op) ∧ os' = []) := by
  have hc' : (f.code.map inD).length ≤ 9223372036854775806 := by rw [List.length_map]; exact hc
  refine Spec.by Tryz.func100 rfl (by decide) (by decide +kernel) rfl ?_
  (refine goA ?_)
  repeat' (refine Br.dec (fun _ => ?_) (fun _ => ?_) <;> ((refine goA ?_)))
  all_goals (refine Ret.trim 0 (by simp) rfl (Nat.le_of_ble_eq_true rfl) ?_; refine Ret.mk [.tmp _] rfl (And.intro (congrArg (D.int .i64) ?_) rfl); simp [mostF, *])
/-- An instruction that may be: nf functions, mu mutexes .. -/
def inOk (nf : Nat) (g : Pg) (loc : Int) (cl : Nat) (x : Int × Int) : Prop :=
  (0 ≤ x.1 ∧ x.1 ≤ 26) ∧ (-1073741824 ≤ x.2 ∧ x.2 ≤ 1073741824) ∧ (x.1 = 5 ∨ x.1 = 6 → 0 ≤ x.2 ∧ x.2 < loc) ∧ (x.1 = 7 ∨ x.1 = 8 → 0 ≤ x.2 ∧ x.2 ≤ cl) ∧ (x.1 = 9 ∨ x.1 = 11 → 0 ≤ x.2 ∧ x.2 < nf) ∧
  (x.1 = 15 ∨ x.1 = 16 → 0 ≤ x.2 ∧ x.2 < g.mu) ∧ (x.1 = 17 ∨ x.1 = 18 ∨ x.1 = 19 → 0 ≤ x.2 ∧ x.2 < g.co.length) ∧ (x.1 = 20 ∨ x.1 = 21 → 0 ≤ x.2 ∧ x.2 < g.se.length) ∧ (x.1 = 22 ∨ x.1 = 23 → 0 ≤ x.2 ∧ x.2 < g.ch.length) ∧ (x.1 = 24 → 0 ≤ x.2 ∧ x.2 < g.cs.length) ∧
  (x.1 = 1 ∨ x.1 = 2 ∨ x.1 = 3 ∨ x.1 = 4 ∨ x.1 = 10 ∨ x.1 = 12 ∨ x.1 = 13 ∨ x.1 = 14 ∨ x.1 = 25 ∨ x.1 = 26 → x.2 = 0)
/-- The sizes of a program that is made. -/
structure Szs (g : Pg) : Prop where
  fu : 1 ≤ g.fu.length ∧ g.fu.length ≤ 4
  mu : 0 ≤ g.mu ∧ g.mu ≤ 3
  co : g.co.length ≤ 4
  se : g.se.length ≤ 4
  ch : g.ch.length ≤ 4
  cs : g.cs.length ≤ 4
theorem mostF_le (g : Pg) (hg : Szs g) (loc : Int) (hl : 0 ≤ loc ∧ loc ≤ 3) (cl : Nat) (hc : cl ≤ 24) (op : Int) : 0 ≤ mostF g loc cl op ∧ mostF g loc cl op ≤ 1073741825 := by
  obtain ⟨h1, h2, h3, h4, h5, h6⟩ := hg
  unfold mostF
  repeat' split
  all_goals omega
theorem instr_plain (g : Pg) (loc : Int) (cl : Nat) (op : Int) (ho : 0 ≤ op ∧ op < 27) (h : asksB op = false) : inOk g.fu.length g loc cl (op, 0) := by
  simp [asksB] at h
  unfold inOk
  dsimp only
  refine ⟨by omega, by omega, ?_, ?_, ?_, ?_, ?_, ?_, ?_, ?_, ?_⟩ <;> omega
theorem instr_twelve (g : Pg) (loc : Int) (cl : Nat) : inOk g.fu.length g loc cl (12, 0) := by
  unfold inOk
  dsimp only
  refine ⟨by omega, by omega, ?_, ?_, ?_, ?_, ?_, ?_, ?_, ?_, ?_⟩ <;> omega
theorem instr_zero (g : Pg) (loc : Int) (cl : Nat) (a : Int) : inOk g.fu.length g loc cl (0, a.tmod 1000) := by
  have h := Int.tmod_lt_of_pos a (show (0 : Int) < 1000 by omega)
  have h' : -1000 < a.tmod 1000 := Int.lt_tmod_of_pos a (by omega)
  unfold inOk
  dsimp only
  refine ⟨by omega, by omega, ?_, ?_, ?_, ?_, ?_, ?_, ?_, ?_, ?_⟩ <;> omega
theorem instr_most (g : Pg) (hg : Szs g) (loc : Int) (hl : 0 ≤ loc ∧ loc ≤ 3) (cl : Nat) (hc : cl ≤ 24) (op a : Int) (ho : 0 ≤ op ∧ op < 27) (h0 : op ≠ 0) (hk : asksB op = true) (hm : mostF g loc cl op ≠ 0) : inOk g.fu.length g loc cl (op, around a (mostF g loc cl op)) := by
  have hle := mostF_le g hg loc hl cl hc op
  have hr := around_lt a (mostF g loc cl op) (by omega)
  generalize around a (mostF g loc cl op) = v at hr ⊢
  obtain ⟨h1, h2, h3, h4, h5, h6⟩ := hg
  simp [asksB] at hk
  unfold inOk
  dsimp only
  unfold mostF at hr hle hm
  refine ⟨by omega, by omega, ?_, ?_, ?_, ?_, ?_, ?_, ?_, ?_, ?_⟩ <;> intro ho' <;> (repeat' (split at hr)) <;> omega
theorem instr109 (g : Pg) (hg : Szs g) (f : Fu) (x : Int × Int) (hl : 0 ≤ f.loc ∧ f.loc ≤ 3) (hc : f.code.length ≤ 24) (hx : I64 x.1 ∧ I64 x.2) : Spec Tryz.prog 59 [pgD g, fuD f, inD x] [] (fun d os' => (∃ y, inOk g.fu.length g f.loc f.code.length y ∧ d = inD y) ∧ os' = []) := by
  refine Spec.frz (post' := fun d => ∃ y, inOk g.fu.length g f.loc f.code.length y ∧ d = inD y) ?_
  refine Spec.by Tryz.func59 rfl (by decide) (by decide +kernel) rfl ?_
  (refine goA ?_)
  refine Call.mk ((around33 x.1 27 hx.1 (by omega)).only _ rfl (by rintro d rfl; rfl)) ?_
  rintro d os' ⟨rfl, rfl⟩
  have ho := around_lt x.1 27 (by omega)
  generalize around x.1 27 = op at ho ⊢
  (refine goA ?_)
  refine Call.mk ((most183 g f op (by omega)).only _ rfl (by rintro d rfl; rfl)) ?_
  rintro d os' ⟨rfl, rfl⟩
  have hle := mostF_le g hg f.loc hl f.code.length hc op
  (refine goA ?_)
  refine Call.mk ((asks184 op).only _ rfl (by rintro d rfl; rfl)) ?_
  rintro d os' ⟨rfl, rfl⟩
  (refine goA ?_)
  refine Br.cs (fun h1_ => ?_) (fun h1_ => ?_) <;> have h1 := h1_ <;> simp at h1
  · (refine goA ?_)
    refine Ret.mk [.cell 6 65] rfl ?_; (refine goA ?_)
    exact ⟨inD (op, 0), View.same _, rfl, _, instr_plain g _ _ op ho h1, rfl⟩
  (refine goA ?_)
  refine Br.dec (fun h2 => ?_) (fun h2 => ?_)
  · (refine goA ?_)
    refine Ret.mk [.cell 6 65] rfl ?_; (refine goA ?_)
    exact ⟨inD (12, 0), View.same _, rfl, _, instr_twelve g _ _, rfl⟩
  (refine goA ?_)
  refine Br.dec (fun h3 => ?_) (fun h3 => ?_)
  · (refine goA ?_)
    refine Ret.mk [.cell 6 65] rfl ?_; (refine goA ?_)
    exact ⟨inD (0, x.2.tmod 1000), View.same _, rfl, _, instr_zero g _ _ _, rfl⟩
  (refine goA ?_)
  refine Call.mk ((around33 x.2 (mostF g f.loc f.code.length op) hx.2 (by omega)).only _ rfl (by rintro d rfl; rfl)) ?_
  rintro d os' ⟨rfl, rfl⟩
  (refine goA ?_)
  refine Ret.mk [.cell 6 65] rfl ?_; (refine goA ?_)
  exact ⟨inD (op, around x.2 (mostF g f.loc f.code.length op)), View.same _, rfl, _, instr_most g hg f.loc hl f.code.length hc op x.2 ho h3 h1 h2, rfl⟩
end Go.Proofs.YtkceciebmkklpaaGreat.V
end
section
namespace Go.Proofs.YtkceciebmkklpaaGreat.V
open Go Go.Proofs
set_option maxRecDepth 100000
set_option maxHeartbeats 4000000
theorem keep_range (n : Int) : -1073741824 ≤ keep n ∧ keep n ≤ 1073741824 := by
  unfold keep; split <;> (try split) <;> omega
theorem keep_id (n : Int) : n = keep n ↔ -1073741824 ≤ n ∧ n ≤ 1073741824 := by
  unfold keep; split <;> (try split) <;> omega
theorem kept_iff (xs : List Int) : kept xs = true ↔ ∀ v ∈ xs, -1073741824 ≤ v ∧ v ≤ 1073741824 := by
  unfold kept
  simp only [Bool.not_eq_true', List.any_eq_false, decide_eq_true_eq, Decidable.not_not, keep_id]
/-- Which threads may be. -/
def mayP (st code : Int) (fl sl : Nat) : Prop := 0 ≤ st ∧ st ≤ 9 ∧ 0 ≤ code ∧ code ≤ 6 ∧ (st = 9 ↔ fl = 0) ∧ (st = 9 → sl = 0) ∧ (st ≠ 9 → code = 0) ∧ fl ≤ 8 ∧ sl ≤ 16
instance (st code : Int) (fl sl : Nat) : Decidable (mayP st code fl sl) := by unfold mayP; infer_instance
end Go.Proofs.YtkceciebmkklpaaGreat.V
end
section
namespace Go.Proofs.YtkceciebmkklpaaGreat.V
open Go Go.Proofs
set_option maxRecDepth 100000
set_option maxHeartbeats 4000000
def lok (l : List Int) : Prop := l.length * 8 ≤ 140737488351232 ∧ ∀ v ∈ l, I64 v
structure Pg.okB (p : Pg) : Prop where
  fl : p.fu.length * 32 ≤ 140737488351232
  fu : ∀ f ∈ p.fu, I64 f.loc ∧ f.code.length * 16 ≤ 140737488351232 ∧ ∀ x ∈ f.code, I64 x.1 ∧ I64 x.2
  mu : I64 p.mu
  co : lok p.co
  se : lok p.se
  ch : lok p.ch
  cl : p.cs.length * 24 ≤ 140737488351232
  cs : ∀ l ∈ p.cs, lok l
  th : I64 p.th
/-- A program that is made. -/
structure GoodP (g : Pg) : Prop where
  sz : Szs g
  fu : ∀ f ∈ g.fu, (0 ≤ f.loc ∧ f.loc ≤ 3) ∧ f.code.length ≤ 24 ∧ ∀ x ∈ f.code, inOk g.fu.length g f.loc f.code.length x
  co : ∀ v ∈ g.co, 0 ≤ v ∧ v < g.mu
  se : ∀ v ∈ g.se, 0 ≤ v ∧ v ≤ 3
  ch : ∀ v ∈ g.ch, 0 ≤ v ∧ v ≤ 3
  cs : ∀ l ∈ g.cs, l ≠ [] ∧ small (g.ch.length - 1) l
  th : 1 ≤ g.th ∧ g.th ≤ 8
@[reducible] def rowC (l : List (List Int)) : Fam := one (.row 23 1 true (l.map ints))
@[reducible] def outD (fu : D) (mu : Int) (co se ch : List Int) (cs : D) (th : Int) : Fam := one (.row 26 7 false [.agg [fu, .int .i64 mu, ints co, ints se, ints ch, cs, .int .i64 th]])
@[reducible] def zP : D := .agg [.nils, .int .i64 0, .nils, .nils, .nils, .nils, .int .i64 0]
/-- The row of functions whose codes lie in the family b. -/
def fuK (b : Nat) : Nat → List Fu → List D
  | _, [] => []
  | k, f :: fs => .agg [.int .i64 f.loc, .sl b k 2 0 f.code.length none] :: fuK b (k + 1) fs
def fuR (fs : List Fu) : List D := fuK 5 0 fs
def fuC (fs : List Fu) (k : Nat) : List D := ((fs[k]?).map (fun f => f.code.map inD)).getD []
theorem fuK_length (b : Nat) : ∀ (k : Nat) (fs : List Fu), (fuK b k fs).length = fs.length
  | _, [] => rfl
  | k, f :: fs => by simp [fuK, fuK_length b (k + 1) fs]
theorem fuK_get (b : Nat) : ∀ (k : Nat) (fs : List Fu) (i : Nat), (fuK b k fs)[i]? = (fs[i]?).map (fun f => D.agg [.int .i64 f.loc, .sl b (k + i) 2 0 f.code.length none])
  | _, [], i => by simp [fuK]
  | k, f :: fs, 0 => by simp [fuK]
  | k, f :: fs, i + 1 => by simp only [fuK, List.getElem?_cons_succ, fuK_get b (k + 1) fs i]; rw [Nat.add_right_comm, Nat.add_assoc]
theorem fuK_snoc (b : Nat) (f : Fu) : ∀ (k : Nat) (fs : List Fu), fuK b k (fs ++ [f]) = fuK b k fs ++ [.agg [.int .i64 f.loc, .sl b (k + fs.length) 2 0 f.code.length none]]
  | _, [] => rfl
  | k, g :: fs => by simp only [List.cons_append, fuK, fuK_snoc b f (k + 1) fs, List.length_cons]; rw [Nat.add_right_comm, Nat.add_assoc]
theorem fuK_lt (b n : Nat) (h : Nat.blt b n = true) : ∀ (k : Nat) (fs : List Fu), D.ltL n (fuK b k fs) = true
  | _, [] => rfl
  | k, f :: fs => by simp [fuK, D.ltL, D.lt, h, fuK_lt b n h (k + 1) fs]
theorem fuK_names (b n : Nat) (h : Nat.beq b n = false) : ∀ (k : Nat) (fs : List Fu), D.namesL n (fuK b k fs) = false
  | _, [] => rfl
  | k, f :: fs => by simp [fuK, D.namesL, D.names, h, fuK_names b n h (k + 1) fs]
theorem fuK_ren (b x y : Nat) (h : Nat.beq b x = false) : ∀ (k : Nat) (fs : List Fu), D.renL x y (fuK b k fs) = fuK b k fs
  | _, [] => rfl
  | k, f :: fs => by simp [fuK, D.renL, D.ren, h, fuK_ren b x y h (k + 1) fs]
theorem fuK_swp (b a n : Nat) (h : Nat.beq b a = false) : ∀ (k : Nat) (fs : List Fu), k + fs.length ≤ n → D.mapIdL (swp a b n) (fuK b k fs) = fuK b k fs
  | _, [], _ => rfl
  | k, f :: fs, hl => by
    have hk : k ≠ n := by simp at hl; omega
    have e : swp a b n b k = (b, k) := swp_ne (fun e => by rw [e.1, Nat.beq_refl] at h; simp at h) (fun e => hk e.2)
    simp only [fuK, D.mapIdL, D.mapId, e, fuK_swp b a n h (k + 1) fs (by simp at hl; omega)]
theorem fuC_snoc (fs : List Fu) (f : Fu) : (fun k => bif Nat.beq k fs.length then f.code.map inD else fuC fs k) = fuC (fs ++ [f]) := by
  funext k
  unfold fuC
  by_cases h : k = fs.length
  · subst h; simp [Nat.beq_refl]
  · rw [beq_ne h]
    simp only [cond_false]
    rcases Nat.lt_or_ge k fs.length with hk | hk
    · rw [List.getElem?_append_left hk]
    · rw [List.getElem?_eq_none hk, List.getElem?_eq_none (by simp; omega)]
theorem fuC_set (fs : List Fu) (i : Nat) (f : Fu) (h : i < fs.length) : (fun k => bif Nat.beq k i then f.code.map inD else fuC fs k) = fuC (fs.set i f) := by
  funext k
  unfold fuC
  rw [List.getElem?_set]
  by_cases hk : i = k
  · subst hk; simp [Nat.beq_refl, h]
  · rw [beq_ne (Ne.symm hk), if_neg hk]; rfl
theorem fuK_set (b : Nat) (f : Fu) : ∀ (k : Nat) (fs : List Fu) (i : Nat) (g : Fu), fs[i]? = some g → g.loc = f.loc → g.code.length = f.code.length → fuK b k (fs.set i f) = fuK b k fs
  | _, [], i, g, h, _, _ => by simp at h
  | k, x :: fs, 0, g, h, h1, h2 => by simp at h; subst h; simp [fuK, h1, h2]
  | k, x :: fs, i + 1, g, h, h1, h2 => by simp only [List.set_cons_succ, fuK]; rw [fuK_set b f (k + 1) fs i g (by simpa using h) h1 h2]
theorem view_fu {F : Nat → Bool} {os : Objs} {fs : List Fu} {n : Nat} (hn : fs.length = n) (h4 : os.at 4 0 = .row 68 2 false (fuR fs)) (h5 : ∀ j, os.at 5 j = .row 65 2 true (fuC fs j)) (F4 : F 4 = true) (F5 : F 5 = true) : View F os (.sl 4 0 2 0 n none) (.lst 2 false (fs.map fuD)) := by
  refine View.slAll F4 h4 (by rw [fuR, fuK_length]; exact hn) (by simp) (ViewL.of (by rw [fuR, fuK_length, List.length_map]) (fun i d d' h1 h2 => ?_)) (pureL_map (fun _ => rfl) _)
  rw [fuR, fuK_get] at h1
  rw [List.getElem?_map] at h2
  cases hf : fs[i]? with
  | none => rw [hf] at h1; simp at h1
  | some f =>
    rw [hf] at h1 h2
    simp only [Option.map_some, Option.some.injEq] at h1 h2
    subst h1 h2
    refine View.agg (.cons (.same _) (.cons (View.slAll F5 (h5 (0 + i)) (by simp [fuC, hf]) (by simp) ?_ (pureL_map (fun _ => rfl) _)) .nil))
    rw [Nat.zero_add]
    simp only [fuC, hf, Option.map_some, Option.getD_some]
    exact .same _
@[reducible] def P3 : List (Nat × D) := [(1, .ptr 0 0 7 0 0), (2, .ptr 1 0 7 0 0), (3, .ptr 2 0 7 0 0)]
/-- A function that is made, its code not yet. -/
def rawF (f : Fu) : Prop := (0 ≤ f.loc ∧ f.loc ≤ 3) ∧ f.code.length ≤ 24 ∧ ∀ x ∈ f.code, I64 x.1 ∧ I64 x.2
@[reducible] def gO (p : Pg) (mu : Int) (co se ch : List Int) (cs : List (List Int)) (th : Int) (fu : D) (R : Fam) (C : Nat → List D) (r : Objs) : Objs :=
  one (.row 26 7 false [pgD p]) :: one (.row 26 7 false [zP]) :: outD fu mu co se ch (.lst 1 false (cs.map ints)) (1 + th) :: one .gone :: R :: .rows 65 2 C :: r
theorem mapIdL_append (φ : Nat → Nat → Nat × Nat) : ∀ (a b : List D), D.mapIdL φ (a ++ b) = D.mapIdL φ a ++ D.mapIdL φ b
  | [], b => rfl
  | d :: a, b => by simp only [List.cons_append, D.mapIdL, mapIdL_append φ a b]
end Go.Proofs.YtkceciebmkklpaaGreat.V
end
section
namespace Go.Proofs.YtkceciebmkklpaaGreat.V
open Go Go.Proofs
set_option maxRecDepth 100000
set_option maxHeartbeats 4000000
theorem frame111 (p : Pg) (f : Nat) (u : Fu) (hu : p.fu[f]? = some u) (h0 : 0 ≤ u.loc ∧ u.loc ≤ 100) : Spec Tryz.prog 102 [pgD p, .int .i64 f] [] (fun d os' => d = .agg [.int .i64 f, .int .i64 0, .sl 0 0 1 0 u.loc.toNat none] ∧ os' = [rowI (List.replicate u.loc.toNat 0)]) := by
  refine Spec.weak (post := fun d os' => d = .agg [.int .i64 f, .int .i64 0, .sl 2 0 1 0 u.loc.toNat none] ∧ ∃ a b : Fam, os' = [a, b, rowI (List.replicate u.loc.toNat 0)]) ?_ ?_
  · refine Spec.by Tryz.func102 rfl (by decide) (by decide +kernel) rfl ?_
    (refine goA ?_)
    refine Opt.of (get_map hu) ?_
    (refine goA ?_)
    refine App.own ?_
    (refine goA ?_)
    refine Ret.mk [.cell 4 116] rfl ?_; (refine goA ?_)
    refine ⟨_, _, congrArg (fun r => ([_, _, one (.row 3 1 true r)] : Objs)) (?_ : List.replicate u.loc.toNat (D.int .i64 0) = _)⟩
    rw [List.map_replicate]
  · rintro d os' ⟨rfl, a, b, rfl⟩
    refine ⟨_, _, Weak.trans (Weak.frzK (fun i => Nat.blt i 2) [] trivial) (Weak.trans (Weak.shift 2 0 (by decide) (by simp) (by simp [dropF]) (by simp [dropF]) (fun j => by cases j <;> rfl) rfl) (Weak.trim 1 (by simp) rfl (by simp [dropF]))), rfl, rfl⟩
theorem frame111f (p : Pg) (f : Nat) (u : Fu) (hu : p.fu[f]? = some u) (h0 : 0 ≤ u.loc ∧ u.loc ≤ 100) : Spec Tryz.prog 102 [pgD p, .int .i64 f] [] (fun d os' => d = frD ⟨f, 0, List.replicate u.loc.toNat 0⟩ ∧ os' = []) := by
  refine Spec.frz (post' := fun d => d = frD ⟨f, 0, List.replicate u.loc.toNat 0⟩) ((frame111 p f u hu h0).mono ?_)
  rintro d os' ⟨rfl, rfl⟩
  exact ⟨_, View.agg (.cons (.same _) (.cons (.same _) (.cons (View.slAll rfl rfl (by simp) (by simp) (ViewL.same _) (pureL_map (fun _ => rfl) _)) .nil))), rfl, rfl⟩
theorem odd_not {g : Pg} {k : Nat} {u : Fu} (hu : g.fu[k]? = some u) {pc : Int} (hpc : 0 ≤ pc ∧ pc ≤ u.code.length) {l : List Int} (hl : l.length = u.loc.toNat) (h0 : 0 ≤ u.loc) (hk : kept l = true) : oddF g ⟨k, pc, l⟩ = false := by
  have hkl := (List.getElem?_eq_some_iff.1 hu).1
  unfold oddF
  dsimp only
  rw [if_neg (by omega), Int.toNat_natCast, hu]
  dsimp only
  rw [decide_eq_false (by omega), decide_eq_false (by omega), decide_eq_false (by omega), hk]
  rfl
/-- A thread that is made: Ready, with frames. -/
structure GoodT (g : Pg) (x : Th) : Prop where
  st : x.st = 0
  on : x.on = 0
  code : x.code = 0
  sk : x.sk.length ≤ 16
  kp : kept x.sk = true
  fl : 1 ≤ x.fr.length ∧ x.fr.length ≤ 8
  fr : ∀ f ∈ x.fr, oddF g f = false
end Go.Proofs.YtkceciebmkklpaaGreat.V
end
section
namespace Go.Proofs.YtkceciebmkklpaaGreat.V
open Go Go.Proofs
set_option maxRecDepth 100000
set_option maxHeartbeats 4000000
def enterT (t : Th) (f : Fm) : Th × Bool := if t.fr.length = 8 then (t, false) else ({ t with fr := t.fr ++ [f] }, true)
theorem enter39 (g : Pg) (t : Th) (k : Nat) (u : Fu) (hu : g.fu[k]? = some u) (h0 : 0 ≤ u.loc ∧ u.loc ≤ 100) (hl : t.fr.length * 40 ≤ 70368744177664) : Spec Tryz.prog 216 [pgD g, thD t, .int .i64 k] [] (fun d os' => d = .tup [thD (enterT t ⟨k, 0, List.replicate u.loc.toNat 0⟩).1, .bool (enterT t ⟨k, 0, List.replicate u.loc.toNat 0⟩).2] ∧ os' = []) := by
  refine Spec.frz (post' := fun d => d = .tup [thD (enterT t ⟨k, 0, List.replicate u.loc.toNat 0⟩).1, .bool (enterT t ⟨k, 0, List.replicate u.loc.toNat 0⟩).2]) ?_
  refine Spec.by Tryz.func216 rfl (by decide) (by decide +kernel) rfl ?_
  (refine goA ?_)
  refine Br.dec (fun h => ?_) (fun h => ?_)
  · (refine goA ?_)
    refine Ret.mk [.cell 6 42, .tmp 7] rfl ?_; (refine goA ?_)
    have h' : t.fr.length = 8 := by simp at h; omega
    simp only [enterT, if_pos h']
    exact ⟨_, View.same _, rfl, rfl⟩
  · (refine goA ?_)
    refine Nm.mk (t.fr.map frD) (by rw [Int.toNat_natCast, List.take_length]; rfl) ?_
    (refine goA ?_)
    refine Call.mk ((frame118 g k u hu h0).only _ rfl (by rintro d rfl; rfl)) ?_
    rintro d os' ⟨rfl, rfl⟩
    (refine goA ?_)
    refine App.only false rfl rfl ?_
    (refine goA ?_)
    refine App.only false rfl rfl ?_
    (refine goA ?_)
    refine Ret.mk [.cell 6 42, .tmp 7] rfl ?_; (refine goA ?_)
    have h' : ¬ t.fr.length = 8 := by simp at h; omega
    simp only [enterT, if_neg h']
    refine ⟨.tup [thD { t with fr := t.fr ++ [⟨k, 0, List.replicate u.loc.toNat 0⟩] }, .bool true], View.tup (.cons (.agg (.cons (.same _) (.cons (.same _) (.cons ?_ (.same _))))) (.same _)), rfl, rfl⟩
    show View _ _ _ (D.lst 3 false ((t.fr ++ [_]).map frD))
    rw [List.map_append]
    exact .same _
end Go.Proofs.YtkceciebmkklpaaGreat.V
end
section
namespace Go.Proofs.YtkceciebmkklpaaGreat.V
open Go Go.Proofs
/-! States of programs, as pure things. -/
/-- What locks have: whose each mutex is, each semaphore's count, who waits. -/
structure Lk where
  ow : List Int
  co : List Int
  lk : List (List Int)
  wq : List (List Int)
  dq : List (List Int)
@[reducible] def ths (l : List Th) : D := .lst 5 false (l.map thD)
@[reducible] def lists (A : List (List Int)) : D := .lst 1 false (A.map ints)
/-- A state of a program. -/
structure Cr where
  now : Int
  th : List Th
  L : Lk
  bu : List (List Int)
  sq : List (List Int)
  rq : List (List Int)
@[reducible] def lkV (C : Cr) (S : Lk) : D := .agg [.int .i64 C.now, ths C.th, ints S.ow, ints S.co, lists C.bu, lists S.lk, lists S.wq, lists S.dq, lists C.sq, lists C.rq]
@[reducible] def coreV (C : Cr) : D := lkV C C.L
abbrev Ev := Int × Int × Int
@[reducible] def evD (e : Ev) : D := .agg [.int .i64 e.1, .int .i64 e.2.1, .int .i64 e.2.2]
@[reducible] def evs (l : List Ev) : D := .lst 3 false (l.map evD)
end Go.Proofs.YtkceciebmkklpaaGreat.V
end
section
namespace Go.Proofs.YtkceciebmkklpaaGreat.V
open Go Go.Proofs
set_option maxRecDepth 100000
set_option maxHeartbeats 40000000
/-- Objects are dropped. -/
theorem Weak.drops {n0 : Nat} {m : List (Nat × D)} {os os' : Objs} (h : ∀ i j, os'.at i j ≠ .gone → os'.at i j = os.at i j) (hl : os.length ≤ os'.length) : Weak n0 { m := m, objs := os } { m := m, objs := os' } := by
  intro ρ I w tm h1 h2 h3
  have h3' : n0 ≤ os.length := h3
  have hh : ∀ {i j}, os'.at i j ≠ .gone → os.at i j ≠ .gone := fun {i j} hne => by rw [← h i j hne]; exact hne
  have hfoot : ∀ c, foot ρ os' c → foot ρ os c := by
    rintro c ⟨i, j, p, hne, hp, hpos, rfl⟩
    exact ⟨i, j, p, hh hne, hp, hpos, rfl⟩
  refine ⟨ρ, I, ⟨h1.im, fun i j hne => ?_, fun i j i' j' p p' hne hne' hp hp' hpos hpos' he => ?_, fun c hc => h1.apart c (hfoot c hc), fun i j hi => h1.dom i j (Nat.le_trans hl hi)⟩, h2, Im.le_refl _, Nat.le_trans h3' hl, fun _ _ _ => rfl, fun _ h => .inl h, hfoot⟩
  · obtain ⟨p, hp, hok⟩ := h1.ok i j (hh hne)
    refine ⟨p, hp, ?_⟩
    show objOk ρ I w p (os'.at i j)
    rw [h i j hne]; exact hok
  · exact h1.inj i j i' j' p p' (hh hne) (hh hne') hp hp' hpos hpos' he
theorem Weak.dropAt {n0 : Nat} {m : List (Nat × D)} {os : Objs} (k : Nat) (hk : k < os.length) : Weak n0 { m := m, objs := os } { m := m, objs := os.put k 0 .gone } :=
  Weak.drops (fun i j hne => by
    by_cases hc : i = k ∧ j = 0
    · obtain ⟨rfl, rfl⟩ := hc
      exact absurd (at_put_self os 0 .gone hk) hne
    · exact at_put_ne _ _ _ _ hc) (by rw [length_put]; exact Nat.le_refl _)
theorem pureTh (l : List Th) : D.pureL (l.map thD) = true := pureL_map (fun _ => rfl) _
@[reducible] def rowT (l : List Th) : Fam := one (.row 42 5 true (l.map thD))
theorem idx212 (l : List Int) (v : Int) (hl : l.length ≤ 1000000) : Spec Tryz.prog 212 [ints l, .int .i64 v] [] (fun d os' => d = idxD (l.findIdx? (fun x => decide (v = x))) ∧ os' = []) := by
  have hm : (l.map (D.int .i64)).length = l.length := List.length_map ..
  refine Spec.by Tryz.func212 rfl (by decide) (by decide +kernel) rfl ?_
  (refine goA ?_)
  refine Loop.inv (A := Nat) [] (fun i => [(8, .int .i64 (i : Int))]) (fun _ => []) (fun i => i ≤ l.length ∧ ∀ x ∈ l.take i, decide (v = x) = false) (fun i => l.length - i) 0 ⟨Nat.zero_le _, by simp⟩ (Weak.start tld) ?_
  intro i ⟨hi, hf⟩
  (refine goA ?_)
  refine Br.dec (fun h => ?_) (fun h => ?_)
  · simp only [List.length_map] at h
    (refine goA ?_)
    refine Opt.of (get_map (List.getElem?_eq_getElem (l := l) (i := i) (by omega))) ?_
    (refine goA ?_)
    refine Br.cs (fun hb => ?_) (fun hb => ?_)
    · (refine goA ?_)
      refine Ret.mk [.tmp _] rfl ?_; refine And.intro ?_ rfl
      rw [find_at (by omega) hb hf]
    · (refine goA ?_)
      refine Loop.next (i + 1) ?_ ?_ (Weak.back rfl tld rfl rfl)
      · exact ⟨by omega, take_more (by omega) hb hf⟩
      · omega
  · (refine goA ?_)
    refine Ret.mk [.tmp _] rfl ?_; refine And.intro ?_ rfl
    rw [find_none (by simpa using h) hf]
theorem has156 (l : List Int) (v : Int) (hl : l.length ≤ 1000000) : Spec Tryz.prog 156 [ints l, .int .i64 v] [] (fun d os' => d = .bool (decide (v ∈ l)) ∧ os' = []) := by
  refine Spec.by Tryz.func156 rfl (by decide) (by decide +kernel) rfl ?_
  (refine goA ?_)
  refine Call.mk ((idx212 l v hl).only _ rfl (by rintro d rfl; rfl)) ?_; rintro d os' ⟨rfl, rfl⟩
  cases h : l.findIdx? (fun x => decide (v = x)) with
  | none =>
    (refine goA ?_)
    refine Ret.mk [.tmp _] rfl ?_; refine And.intro ?_ rfl
    rw [List.findIdx?_eq_none_iff] at h
    refine congrArg D.bool ?_
    rw [decide_eq_false (p := v ∈ l) (fun hc => by have := h v hc; simp at this)]
    rfl
  | some i =>
    (refine goA ?_)
    refine Ret.mk [.tmp _] rfl ?_; refine And.intro ?_ rfl
    rw [List.findIdx?_eq_some_iff_getElem] at h
    obtain ⟨h1, h2, _⟩ := h
    refine congrArg D.bool ?_
    rw [decide_eq_true (p := v ∈ l) (by rw [of_decide_eq_true h2]; exact List.getElem_mem _)]
    exact decide_eq_true (by show (0 : Int) ≤ (i : Int); omega)
theorem nan211 (v : Int) : Spec Tryz.prog 211 [.int .i64 v] [] (fun d os' => d = .bool false ∧ os' = []) := by
  have b1 : decide (v = v) = true := decide_eq_true rfl
  refine Spec.by Tryz.func211 rfl (by decide) (by decide +kernel) rfl ?_
  (refine goA ?_)
  refine Ret.mk [.tmp _] rfl ?_; refine And.intro ?_ rfl
  rw [b1]
  rfl
/-- How two numbers stand. -/
def cmpI (x y : Int) : Int := if x < y then -1 else if y < x then 1 else 0
theorem cmp154 (x y : Int) : Spec Tryz.prog 154 [.int .i64 x, .int .i64 y] [] (fun d os' => d = .int .i64 (cmpI x y) ∧ os' = []) := by
  unfold cmpI
  refine Spec.by Tryz.func154 rfl (by decide) (by decide +kernel) rfl ?_
  (refine goA ?_)
  refine Call.mk ((nan211 x).only _ rfl (by rintro d rfl; rfl)) ?_; rintro d os' ⟨rfl, rfl⟩
  (refine goA ?_)
  refine Call.mk ((nan211 y).only _ rfl (by rintro d rfl; rfl)) ?_; rintro d os' ⟨rfl, rfl⟩
  (refine goA ?_)
  refine Br.dec (fun h0 => ?_) (fun h0 => ?_)
  · rw [if_pos h0]
    (refine goA ?_)
    refine Ret.mk [.tmp _] rfl ?_; refine And.intro ?_ rfl
    rfl
  · rw [if_neg h0]
    (refine goA ?_)
    refine Br.dec (fun h1 => ?_) (fun h1 => ?_)
    · rw [if_pos h1]
      (refine goA ?_)
      refine Ret.mk [.tmp _] rfl ?_; refine And.intro ?_ rfl
      rfl
    · rw [if_neg h1]
      (refine goA ?_)
      refine Ret.mk [.tmp _] rfl ?_; refine And.intro ?_ rfl
      rfl
/-- Who is in a state. -/
def inS (l : List Th) (s : Int) : List Int := ((List.range l.length).filter (fun k => decide ((l.getD k ⟨9, 0, [], [], 0⟩).st = s))).map Int.ofNat
def inSi (l : List Th) (s : Int) (i : Nat) : List Int := ((List.range i).filter (fun k => decide ((l.getD k ⟨9, 0, [], [], 0⟩).st = s))).map Int.ofNat
theorem inSi_s (l : List Th) (s : Int) (i : Nat) (h : i < l.length) : inSi l s (i + 1) = if l[i].st = s then inSi l s i ++ [(i : Int)] else inSi l s i := by
  unfold inSi
  rw [List.range_succ, List.filter_append, List.map_append]
  have e : l.getD i ⟨9, 0, [], [], 0⟩ = l[i] := by rw [List.getD_eq_getElem?_getD, List.getElem?_eq_getElem h]; rfl
  by_cases h2 : l[i].st = s
  · rw [if_pos h2, List.filter_cons, e, if_pos (decide_eq_true h2)]; rfl
  · rw [if_neg h2, List.filter_cons, e, if_neg (by simpa using h2)]; simp
theorem inSi_len (l : List Th) (s : Int) (i : Nat) : (inSi l s i).length ≤ i := by
  unfold inSi
  rw [List.length_map]
  exact Nat.le_trans (List.length_filter_le ..) (by simp)
theorem in19 (C : Cr) (s : Int) (hl : C.th.length ≤ 1000) : Spec Tryz.prog 19 [coreV C, .int .i64 s] [] (fun d os' => d = ints (inS C.th s) ∧ os' = []) := by
  have hm : (C.th.map thD).length = C.th.length := List.length_map ..
  refine Spec.frz (post' := fun d => d = ints (inS C.th s)) ?_
  refine Spec.by Tryz.func19 rfl (by decide) (by decide +kernel) rfl ?_
  (refine goA ?_)
  refine Loop.inv (A := Nat × List Int) (List.range 27) (fun a => [(1, .int .i64 s), (2, .ptr 0 0 10 0 0), (5, .sl 1 0 1 0 a.2.length none), (6, .int .i64 (a.1 : Int))]) (fun a => [one (.row 30 10 false [coreV C]), rowI a.2]) (fun a => a.1 ≤ C.th.length ∧ a.2 = inSi C.th s a.1) (fun a => C.th.length - a.1) (0, []) ⟨Nat.zero_le _, rfl⟩ ?_ ?_
  · refine Weak.trans (Weak.nilrow 5 rfl 3 1 true) ?_
    exact Weak.start' rfl rfl tld
  rintro ⟨i, l⟩ ⟨hi, hle⟩
  dsimp only at hi hle ⊢
  have hil : l.length ≤ i := hle ▸ inSi_len C.th s i
  have hlm : (l.map (D.int .i64)).length = l.length := List.length_map ..
  (refine goA ?_)
  refine Br.dec (fun h0 => ?_) (fun h0 => ?_)
  · have hlt : i < C.th.length := by omega
    have hget : C.th[i]? = some C.th[i] := List.getElem?_eq_getElem hlt
    have hs := inSi_s C.th s i hlt
    (refine goA ?_)
    refine Opt.of (get_map hget) ?_
    (refine goA ?_)
    refine Br.dec (fun h1 => ?_) (fun h1 => ?_)
    · rw [if_pos h1, ← hle] at hs
      (refine goA ?_)
      refine App.only false rfl rfl ?_
      (refine goA ?_)
      refine ⟨_, _, _, ?_, ⟨(i + 1, l ++ [(i : Int)]), ?_, rfl, rfl, rfl⟩, ?_⟩
      · show C.th.length - (i + 1) < C.th.length - i; omega
      · exact ⟨hlt, hs.symm⟩
      · refine Weak.trans (Weak.shift 2 1 (by decide) (by simp) (Nat.le_of_ble_eq_true rfl) (Nat.le_of_ble_eq_true rfl) (fun j => by cases j <;> rfl) rfl) ?_
        refine Weak.backT 2 (by simp) ?_ (by kernel_rfl) (Nat.le_of_ble_eq_true rfl) tld (by kernel_rfl) (by kernel_rfl)
        exact congrArg (fun r => ([one (.row 30 10 false [coreV C]), one (.row 3 1 true r)] : Objs)) (map_snoc _ _)
    · rw [if_neg h1, ← hle] at hs
      (refine goA ?_)
      refine ⟨_, _, _, ?_, ⟨(i + 1, l), ?_, rfl, rfl, rfl⟩, ?_⟩
      · show C.th.length - (i + 1) < C.th.length - i; omega
      · exact ⟨hlt, hs.symm⟩
      · refine Weak.backT 2 (by simp) (by first | rfl | kernel_rfl) (by kernel_rfl) (Nat.le_of_ble_eq_true rfl) tld (by kernel_rfl) (by kernel_rfl)
  · have hi2 : i = C.th.length := by omega
    have hll : l = inS C.th s := by rw [hle, hi2]; rfl
    (refine goA ?_)
    refine Ret.mk [.tmp 4] rfl ?_; (refine goA ?_)
    refine ⟨_, View.slAll (f := false) rfl rfl hlm (by simp) (ViewL.same _) (pureL_map (fun _ => rfl) _), rfl, ?_⟩
    rw [hll]
end Go.Proofs.YtkceciebmkklpaaGreat.V
end
section
namespace Go.Proofs.YtkceciebmkklpaaGreat.V
open Go Go.Proofs
set_option maxRecDepth 100000
set_option maxHeartbeats 40000000
theorem in98 (l : List Int) : Spec Tryz.prog 98 [ints l] [] (fun d os' => d = .fn (.func 155) [] [.pel (ints l) 0] ∧ os' = []) := by
  refine Spec.frz (post' := fun d => d = .fn (.func 155) [] [.pel (ints l) 0]) ?_
  refine Spec.by Tryz.func98 rfl (by decide) (by decide +kernel) rfl ?_
  (refine goA ?_)
  refine Ret.mk [.tmp 2] rfl ?_; (refine goA ?_)
  exact ⟨_, View.fn .nil (.cons (View.ptr rfl rfl rfl (.same _) rfl) .nil), rfl, rfl⟩
theorem in155 (f : Th) (l : List Int) (hl : l.length ≤ 1000000) : Spec Tryz.prog 155 [thD f, .pel (ints l) 0] [] (fun d os' => d = .bool (decide (f.st ∈ l)) ∧ os' = []) := by
  refine Spec.frz (post' := fun d => d = .bool (decide (f.st ∈ l))) ?_
  refine Spec.by Tryz.func155 rfl (by decide) (by decide +kernel) rfl ?_
  (refine goA ?_)
  refine Call.mk ((has156 l f.st hl).only _ rfl (by rintro d rfl; rfl)) ?_; rintro d os' ⟨rfl, rfl⟩
  (refine goA ?_)
  refine Ret.mk [.tmp 3] rfl ?_; (refine goA ?_)
  exact ⟨_, .same _, rfl, rfl⟩
/-- Those of the first i whose state is one of these. -/
def ofi (T : List Th) (q : Th → Bool) (i : Nat) : List Int := ((List.range i).filter (fun k => q (T.getD k ⟨9, 0, [], [], 0⟩))).map Int.ofNat
def ofS (T : List Th) (q : Th → Bool) : List Int := ofi T q T.length
theorem ofi_s (T : List Th) (q : Th → Bool) (i : Nat) (h : i < T.length) : ofi T q (i + 1) = if q T[i] then ofi T q i ++ [(i : Int)] else ofi T q i := by
  unfold ofi
  rw [List.range_succ, List.filter_append, List.map_append]
  have e : T.getD i ⟨9, 0, [], [], 0⟩ = T[i] := by rw [List.getD_eq_getElem?_getD, List.getElem?_eq_getElem h]; rfl
  by_cases h2 : q T[i] = true
  · rw [if_pos h2, List.filter_cons, e, if_pos h2]; rfl
  · rw [if_neg h2, List.filter_cons, e, if_neg h2]; simp
theorem ofi_len (T : List Th) (q : Th → Bool) (i : Nat) : (ofi T q i).length ≤ i := by
  unfold ofi
  rw [List.length_map]
  exact Nat.le_trans (List.length_filter_le ..) (by simp)
theorem of97w (C : Cr) (m : List Int) (hml : m.length ≤ 1000) (hl : C.th.length ≤ 1000) : Spec Tryz.prog 97 [coreV C, .fn (.func 155) [] [.pel (ints m) 0]] [] (fun d os' => d = .sl 0 0 1 0 (ofS C.th (fun x => decide (x.st ∈ m))).length none ∧ os' = [rowI (ofS C.th (fun x => decide (x.st ∈ m)))]) := by
  have hm : (C.th.map thD).length = C.th.length := List.length_map ..
  obtain ⟨q, hq⟩ : ∃ q, (fun x : Th => decide (x.st ∈ m)) = q := ⟨_, rfl⟩
  rw [hq]
  refine Spec.by Tryz.func97 rfl (by decide) (by decide +kernel) rfl ?_
  (refine goA ?_)
  refine Loop.inv (A := Nat × List Int) (List.range 25) (fun c => [(1, .fn (.func 155) [] [.pel (ints m) 0]), (9, ths C.th), (10, .int .i64 (C.th.map thD).length), (5, .sl 1 0 1 0 c.2.length none), (11, .int .i64 (c.1 : Int))]) (fun c => [one (.row 30 10 false [coreV C]), rowI c.2]) (fun c => c.1 ≤ C.th.length ∧ c.2 = ofi C.th q c.1) (fun c => C.th.length - c.1) (0, []) ⟨Nat.zero_le _, rfl⟩ ?_ ?_
  · refine Weak.trans (Weak.nilrow 5 rfl 3 1 true) ?_
    exact Weak.start' rfl rfl tld
  rintro ⟨i, l⟩ ⟨hi, hle⟩
  dsimp only at hi hle ⊢
  have hil : l.length ≤ i := hle ▸ ofi_len C.th q i
  have hlm : (l.map (D.int .i64)).length = l.length := List.length_map ..
  (refine goA ?_)
  refine Br.dec (fun h0 => ?_) (fun h0 => ?_)
  · have hlt : i < C.th.length := by omega
    have hget : C.th[i]? = some C.th[i] := List.getElem?_eq_getElem hlt
    have hs := ofi_s C.th q i hlt
    (refine goA ?_)
    refine Opt.of (get_map hget) ?_
    (refine goA ?_)
    have hv : decide (C.th[i].st ∈ m) = q C.th[i] := congrFun hq C.th[i]
    refine Call.mk ((in155 C.th[i] m (by omega)).only _ rfl (by rintro d rfl; rfl)) ?_; rintro d os' ⟨rfl, rfl⟩
    rw [hv]
    (refine goA ?_)
    refine Br.cs (fun h1 => ?_) (fun h1 => ?_)
    · rw [if_pos h1, ← hle] at hs
      (refine goA ?_)
      refine App.only false rfl rfl ?_
      (refine goA ?_)
      refine ⟨_, _, _, ?_, ⟨(i + 1, l ++ [(i : Int)]), ?_, rfl, rfl, rfl⟩, ?_⟩
      · show C.th.length - (i + 1) < C.th.length - i; omega
      · exact ⟨hlt, hs.symm⟩
      · refine Weak.trans (Weak.shift 3 1 (by decide) (by simp) (Nat.le_of_ble_eq_true rfl) (Nat.le_of_ble_eq_true rfl) (fun j => by cases j <;> rfl) rfl) ?_
        refine Weak.backT 2 (by simp) ?_ (by kernel_rfl) (Nat.le_of_ble_eq_true rfl) tld (by kernel_rfl) (by kernel_rfl)
        exact congrArg (fun r => ([one (.row 30 10 false [coreV C]), one (.row 3 1 true r)] : Objs)) (map_snoc _ _)
    · rw [if_neg (by rw [h1]; decide), ← hle] at hs
      (refine goA ?_)
      refine ⟨_, _, _, ?_, ⟨(i + 1, l), ?_, rfl, rfl, rfl⟩, ?_⟩
      · show C.th.length - (i + 1) < C.th.length - i; omega
      · exact ⟨hlt, hs.symm⟩
      · refine Weak.backT 2 (by simp) (by first | rfl | kernel_rfl) (by kernel_rfl) (Nat.le_of_ble_eq_true rfl) tld (by kernel_rfl) (by kernel_rfl)
  · have hi2 : i = C.th.length := by omega
    have hll : l = ofS C.th q := by rw [hle, hi2]; rfl
    (refine goA ?_)
    refine Ret.weak (Weak.dropAt 0 (Nat.le_of_ble_eq_true rfl)) ?_
    refine Ret.weak (Weak.shift 1 0 (by decide) (by simp) (Nat.le_of_ble_eq_true rfl) (Nat.le_of_ble_eq_true rfl) (fun j => by cases j <;> rfl) rfl) ?_
    refine Ret.trim 1 (by simp) rfl (Nat.le_of_ble_eq_true rfl) ?_
    rw [hll]
    exact Ret.mk [.tmp 4] rfl ⟨rfl, rfl⟩
theorem of97 (C : Cr) (m : List Int) (hml : m.length ≤ 1000) (hl : C.th.length ≤ 1000) : Spec Tryz.prog 97 [coreV C, .fn (.func 155) [] [.pel (ints m) 0]] [] (fun d os' => d = ints (ofS C.th (fun x => decide (x.st ∈ m))) ∧ os' = []) := by
  refine Spec.frz (post' := fun d => d = ints (ofS C.th (fun x => decide (x.st ∈ m)))) ((of97w C m hml hl).mono ?_)
  rintro d os' ⟨rfl, rfl⟩
  exact ⟨_, View.slAll rfl rfl (List.length_map ..) (by simp) (ViewL.same _) (pureL_map (fun _ => rfl) _), rfl, rfl⟩
/-- Those who are so. -/
@[reducible] def ofK (C : Cr) (m : List Int) : List Int := ofS C.th (fun x => decide (x.st ∈ m))
theorem ofK_len (C : Cr) (m : List Int) : (ofK C m).length ≤ C.th.length := ofi_len ..
theorem ready52 (C : Cr) (hl : C.th.length ≤ 1000) : Spec Tryz.prog 52 [coreV C] [] (fun d os' => d = ints (ofK C [0]) ∧ os' = []) := by
  refine Spec.frz (post' := fun d => d = ints (ofK C [0])) ?_
  refine Spec.by Tryz.func52 rfl (by decide) (by decide +kernel) rfl ?_
  (refine goA ?_)
  refine App.only false rfl rfl ?_
  (refine goA ?_)
  refine Call.mk ((in98 [0]).only _ rfl (by rintro d rfl; rfl)) ?_; rintro d os' ⟨rfl, rfl⟩
  (refine goA ?_)
  refine Call.mk ((of97 C [0] (by simp) hl).only _ rfl (by rintro d rfl; rfl)) ?_; rintro d os' ⟨rfl, rfl⟩
  (refine goA ?_)
  refine Ret.mk [.tmp 2] rfl ?_; (refine goA ?_)
  exact ⟨_, .same _, rfl, rfl⟩
def overK (C : Cr) : Bool := decide (((ofK C [9]).length : Int) = (C.th.length : Int))
end Go.Proofs.YtkceciebmkklpaaGreat.V
end
section
namespace Go.Proofs.YtkceciebmkklpaaGreat.V
open Go Go.Proofs
set_option maxRecDepth 100000
set_option maxHeartbeats 40000000
theorem inS_of (T : List Th) (s : Int) : inS T s = ofS T (fun x => decide (x.st ∈ [s])) := by
  unfold inS ofS ofi
  refine congrArg (List.map Int.ofNat) (List.filter_congr ?_)
  intro k _
  refine decide_eq_decide.2 ?_
  simp
theorem over42 (C : Cr) (hl : C.th.length ≤ 1000) : Spec Tryz.prog 42 [coreV C] [] (fun d os' => d = .bool (overK C) ∧ os' = []) := by
  have hm : (C.th.map thD).length = C.th.length := List.length_map ..
  have hm2 : ((ofK C [9]).map (D.int .i64)).length = (ofK C [9]).length := List.length_map ..
  refine Spec.frz (post' := fun d => d = .bool (overK C)) ?_
  refine Spec.by Tryz.func42 rfl (by decide) (by decide +kernel) rfl ?_
  (refine goA ?_)
  refine Call.mk ((in19 C 9 hl).only _ rfl (by rintro d rfl; rfl)) ?_; rintro d os' ⟨rfl, rfl⟩
  rw [inS_of]
  (refine goA ?_)
  refine Ret.mk [.tmp 2] rfl ?_; (refine goA ?_)
  refine ⟨_, .same _, rfl, ?_⟩
  rw [hm, hm2]
  rfl
end Go.Proofs.YtkceciebmkklpaaGreat.V
end
section
namespace Go.Proofs.YtkceciebmkklpaaGreat.V
open Go Go.Proofs
set_option maxRecDepth 100000
set_option maxHeartbeats 40000000
theorem of_nil (T : List Th) (q : Th → Bool) : ((ofS T q).length : Int) = 0 ↔ ∀ k < T.length, q (T.getD k ⟨9, 0, [], [], 0⟩) = false := by
  unfold ofS ofi
  rw [List.length_map]
  constructor
  · intro h k hk
    have h2 : (List.filter (fun k => q (T.getD k ⟨9, 0, [], [], 0⟩)) (List.range T.length)) = [] := List.eq_nil_of_length_eq_zero (by omega)
    rw [List.filter_eq_nil_iff] at h2
    simpa using h2 k (List.mem_range.2 hk)
  · intro h
    have h2 : (List.filter (fun k => q (T.getD k ⟨9, 0, [], [], 0⟩)) (List.range T.length)) = [] := by
      rw [List.filter_eq_nil_iff]
      intro k hk
      rw [h k (List.mem_range.1 hk)]; decide
    rw [h2]; rfl
theorem of01 (C : Cr) : ((ofK C [0, 1]).length : Int) = 0 ↔ ((ofK C [0]).length : Int) = 0 ∧ ((ofK C [1]).length : Int) = 0 := by
  unfold ofK
  rw [of_nil, of_nil, of_nil]
  constructor
  · intro h
    exact ⟨fun k hk => by have := h k hk; simp at this ⊢; omega, fun k hk => by have := h k hk; simp at this ⊢; omega⟩
  · intro h k hk
    have h1 := h.1 k hk
    have h2 := h.2 k hk
    simp at h1 h2 ⊢
    omega
def stuckK (C : Cr) : Bool := decide (((ofK C [0, 1]).length : Int) = 0) && !overK C
theorem stuck43 (C : Cr) (hl : C.th.length ≤ 1000) : Spec Tryz.prog 43 [coreV C] [] (fun d os' => d = .bool (stuckK C) ∧ os' = []) := by
  have hm0 : ((ofK C [0]).map (D.int .i64)).length = (ofK C [0]).length := List.length_map ..
  have hm1 : ((ofK C [1]).map (D.int .i64)).length = (ofK C [1]).length := List.length_map ..
  have h01 := of01 C
  refine Spec.frz (post' := fun d => d = .bool (stuckK C)) ?_
  refine Spec.by Tryz.func43 rfl (by decide) (by decide +kernel) rfl ?_
  (refine goA ?_)
  refine Call.mk ((over42 C hl).only _ rfl (by rintro d rfl; rfl)) ?_; rintro d os' ⟨rfl, rfl⟩
  (refine goA ?_)
  refine Call.mk ((in19 C 0 hl).only _ rfl (by rintro d rfl; rfl)) ?_; rintro d os' ⟨rfl, rfl⟩
  rw [inS_of]
  (refine goA ?_)
  refine Br.dec (fun h0 => ?_) (fun h0 => ?_)
  · have h0' := h0
    rw [hm0] at h0'
    (refine goA ?_)
    refine Call.mk ((in19 C 1 hl).only _ rfl (by rintro d rfl; rfl)) ?_; rintro d os' ⟨rfl, rfl⟩
    rw [inS_of]
    (refine goA ?_)
    refine Br.dec (fun h1 => ?_) (fun h1 => ?_)
    · have h1' := h1
      rw [hm1] at h1'
      have e : stuckK C = !overK C := by unfold stuckK; rw [decide_eq_true (h01.2 ⟨h0', h1'⟩)]; rfl
      (refine goA ?_)
      refine Ret.mk [.tmp 2] rfl ?_; (refine goA ?_)
      exact ⟨_, .same _, rfl, congrArg D.bool e.symm⟩
    · have h1' := h1
      rw [hm1] at h1'
      have e : stuckK C = false := by unfold stuckK; rw [decide_eq_false (fun h => h1' (h01.1 h).2)]; rfl
      (refine goA ?_)
      refine Ret.mk [.tmp 2] rfl ?_; (refine goA ?_)
      exact ⟨_, .same _, rfl, congrArg D.bool e.symm⟩
  · have h0' := h0
    rw [hm0] at h0'
    have e : stuckK C = false := by unfold stuckK; rw [decide_eq_false (fun h => h0' (h01.1 h).1)]; rfl
    (refine goA ?_)
    refine Ret.mk [.tmp 2] rfl ?_; (refine goA ?_)
    exact ⟨_, .same _, rfl, congrArg D.bool e.symm⟩
end Go.Proofs.YtkceciebmkklpaaGreat.V
end
section
namespace Go.Proofs.YtkceciebmkklpaaGreat.V
open Go Go.Proofs
set_option maxRecDepth 100000
set_option maxHeartbeats 40000000
def onAt (T : List Th) (k : Int) : Int := (T.getD k.toNat ⟨9, 0, [], [], 0⟩).on
/-- The least of their ticks. -/
def minS (T : List Th) (at_ : Int) (b : Bool) : List Int → Int
  | [] => at_
  | k :: l => minS T (if b = true ∨ onAt T k < at_ then onAt T k else at_) false l
end Go.Proofs.YtkceciebmkklpaaGreat.V
end
section
namespace Go.Proofs.YtkceciebmkklpaaGreat.V
open Go Go.Proofs
set_option maxRecDepth 100000
set_option maxHeartbeats 4000000
theorem good29 (p : Pg) (hp : p.okB) : Spec Tryz.prog 17 [pgD p] [] (fun d os' => (∃ g, GoodP g ∧ d = pgD g) ∧ os' = []) := by
  refine Spec.frz (post' := fun d => ∃ g, GoodP g ∧ d = pgD g) ?_
  obtain ⟨h1, h2, h3, h4, h5, h6, h7, h8, h9⟩ := hp
  have lenL : ∀ l : List Int, lok l → l.length ≤ 9223372036854775806 := fun l h => by have := h.1; omega
  refine Spec.by Tryz.func17 rfl (by decide) (by decide +kernel) rfl ?_
  (refine goA ?_)
  refine Call.mk ((around33 p.mu 4 h3 (by omega)).only _ rfl (by rintro d rfl; rfl)) ?_
  rintro d os' ⟨rfl, rfl⟩
  have hmu := around_lt p.mu 4 (by omega)
  generalize around p.mu 4 = mu at hmu ⊢
  (refine goA ?_)
  refine Call.mk ((things108 p.co (mu - 1) h4.2 (lenL _ h4) (by omega)).only _ rfl (by rintro d ⟨l, _, rfl⟩; rfl)) ?_
  rintro d os' ⟨⟨co, hco, rfl⟩, rfl⟩
  (refine goA ?_)
  refine Call.mk ((things108 p.se 3 h5.2 (lenL _ h5) (by omega)).only _ rfl (by rintro d ⟨l, _, rfl⟩; rfl)) ?_
  rintro d os' ⟨⟨se, hse, rfl⟩, rfl⟩
  (refine goA ?_)
  refine Call.mk ((things108 p.ch 3 h6.2 (lenL _ h6) (by omega)).only _ rfl (by rintro d ⟨l, _, rfl⟩; rfl)) ?_
  rintro d os' ⟨⟨ch, hch, rfl⟩, rfl⟩
  (refine goA ?_)
  refine Call.mk ((around33 p.th 8 h9 (by omega)).only _ rfl (by rintro d rfl; rfl)) ?_
  rintro d os' ⟨rfl, rfl⟩
  have hth := around_lt p.th 8 (by omega)
  generalize around p.th 8 = th at hth ⊢
  (refine goA ?_)
  refine Loop.inv2 (A := Nat × List (List Int)) 0 (List.range 196) (fun a => (4, .int .i64 (a.1 : Int)) :: P3) (fun a => [one (.row 26 7 false [pgD p]), one (.row 26 7 false [zP]), outD .nils mu co se ch (.sl 3 0 1 0 a.2.length none) (1 + th), rowC a.2])
    (fun a => a.1 ≤ p.cs.length ∧ a.1 ≤ 4 ∧ a.2.length ≤ a.1 ∧ ∀ l ∈ a.2, l ≠ [] ∧ small (ch.length - 1) l) (fun a => a.2.length ≤ 4 ∧ ∀ l ∈ a.2, l ≠ [] ∧ small (ch.length - 1) l) (fun a => 4 - a.1) (0, []) ⟨Nat.zero_le _, by omega, Nat.le_refl _, by simp⟩ ?_ ?_ ?_
  · refine Weak.trans (Weak.nilO 2 3 rfl (es := [.agg [.nils, .int .i64 mu, ints co, ints se, ints ch, .nils, .int .i64 (1 + th)]]) rfl [.agg [.nils, .int .i64 mu, ints co, ints se, ints ch, .sl 3 0 1 0 0 none, .int .i64 (1 + th)]] rfl (.cons (.agg (.cons (.same _ _) (.cons (.same _ _) (.cons (.same _ _) (.cons (.same _ _) (.cons (.same _ _) (.cons (.nils _ _) (.same _ _)))))))) (.same _ _)) 23 1 true) ?_
    exact Weak.start' rfl rfl tld
  · intro cont
    rintro ⟨i, cs⟩ ⟨hi, hi4, hl, hcs⟩
    dsimp only at hi hi4 hl hcs ⊢
    (refine goA ?_)
    refine Br.dec (fun c1 => ?_) (fun c1 => ?_)
    · (refine goA ?_)
      refine Br.dec (fun c2 => ?_) (fun c2 => ?_)
      · simp only [List.length_map] at c1
        (refine goA ?_)
        have hget : p.cs[i]? = some (p.cs[i]'(by omega)) := List.getElem?_eq_getElem (by omega)
        have hin := h8 _ (List.getElem_mem (l := p.cs) (n := i) (by omega))
        have hch4 := hch.1
        refine Opt.of (get_map hget) ?_
        (refine goA ?_)
        refine Call.mk ((things108 p.cs[i] (((ch.map (D.int .i64)).length : Int) - 1) hin.2 (lenL _ hin) (by rw [List.length_map]; omega)).only _ rfl (by rintro d ⟨l, _, rfl⟩; rfl)) ?_
        rintro d os' ⟨⟨own, hown, rfl⟩, rfl⟩
        rw [List.length_map] at hown
        have hown4 := hown.1
        (refine goA ?_)
        refine Loop.inv2 (A := Nat × List Int) 2 (List.range 196) (fun a => (7, .int .i64 (a.1 : Int)) :: (6, .sl 4 0 1 0 a.2.length none) :: (4, .int .i64 (i : Int)) :: (5, ints own) :: P3) (fun a => [one (.row 26 7 false [pgD p]), one (.row 26 7 false [zP]), outD .nils mu co se ch (.sl 3 0 1 0 cs.length none) (1 + th), rowC cs, rowI a.2])
          (fun a => a.1 ≤ own.length ∧ a.2.length ≤ a.1 ∧ ∀ v ∈ a.2, 0 ≤ v ∧ v ≤ ch.length - 1) (fun a => a.2.length ≤ 4 ∧ ∀ v ∈ a.2, 0 ≤ v ∧ v ≤ ch.length - 1) (fun a => own.length - a.1) (0, []) ⟨Nat.zero_le _, Nat.le_refl _, by simp⟩ ?_ ?_ ?_
        · refine Weak.trans (Weak.nilrow 6 rfl 3 1 true) ?_
          exact Weak.start' rfl rfl tld
        · intro cont2
          rintro ⟨k, l⟩ ⟨hk, hlk, hlv⟩
          dsimp only at hk hlk hlv ⊢
          (refine goA ?_)
          refine Br.dec (fun c3 => ?_) (fun c3 => ?_)
          · simp only [List.length_map] at c3
            (refine goA ?_)
            have hgk : own[k]? = some (own[k]'(by omega)) := List.getElem?_eq_getElem (by omega)
            refine Loop.inv2 (A := Nat × Bool) 4 (List.range 196) (fun a => (9, .int .i64 (a.1 : Int)) :: (8, .bool a.2) :: (7, .int .i64 (k : Int)) :: (6, .sl 4 0 1 0 l.length none) :: (4, .int .i64 (i : Int)) :: (5, ints own) :: P3) (fun a => [one (.row 26 7 false [pgD p]), one (.row 26 7 false [zP]), outD .nils mu co se ch (.sl 3 0 1 0 cs.length none) (1 + th), rowC cs, rowI l])
              (fun a => a.1 ≤ l.length) (fun a => True) (fun a => l.length - a.1) (0, false) (Nat.zero_le _) (Weak.start tld) ?_ ?_
            · intro cont3
              rintro ⟨j, b⟩ hj
              dsimp only at hj ⊢
              (refine goA ?_)
              refine Br.dec (fun c4 => ?_) (fun c4 => ?_)
              · have hgj : l[0 + j]? = some (l[j]'(by omega)) := by rw [Nat.zero_add]; exact List.getElem?_eq_getElem (by omega)
                (refine goA ?_)
                refine Br.cs (fun hb => ?_) (fun hb => ?_)
                · (refine goA ?_)
                  refine ⟨_, _, _, ?_, ⟨(j + 1, b), ?_, rfl, rfl, rfl⟩, ?_⟩
                  · show l.length - (j + 1) < l.length - j
                    omega
                  · show j + 1 ≤ _
                    omega
                  · subst hb
                    refine Weak.backT 5 (by simp) (by first | rfl | kernel_rfl) (by kernel_rfl) (Nat.le_of_ble_eq_true rfl) tld (by kernel_rfl) (by kernel_rfl)
                · (refine goA ?_)
                  refine Opt.of (get_map hgj) ?_
                  (refine goA ?_)
                  refine Opt.of (get_map hgk) ?_
                  (refine goA ?_)
                  refine ⟨_, _, _, ?_, ⟨(j + 1, decide (l[j] = own[k])), ?_, rfl, rfl, rfl⟩, ?_⟩
                  · show l.length - (j + 1) < l.length - j
                    omega
                  · show j + 1 ≤ _
                    omega
                  · refine Weak.backT 5 (by simp) (by first | rfl | kernel_rfl) (by kernel_rfl) (Nat.le_of_ble_eq_true rfl) tld (by kernel_rfl) (by kernel_rfl)
              · (refine goR ?_)
                refine Pt.weak ?_ (cont3.h (j, b) trivial)
                refine Weak.backT 5 (by simp) (by first | rfl | kernel_rfl) (by kernel_rfl) (Nat.le_of_ble_eq_true rfl) tld (by kernel_rfl) (by kernel_rfl)
            · rintro ⟨j, b⟩ _
              dsimp only
              (refine goA ?_)
              refine Br.cs (fun hb => ?_) (fun hb => ?_)
              · (refine goA ?_)
                refine Opt.of (get_map hgk) ?_
                (refine goA ?_)
                refine App.only false rfl rfl ?_
                (refine goA ?_)
                refine ⟨_, _, _, ?_, ⟨(k + 1, l ++ [own[k]]), ?_, rfl, rfl, rfl⟩, ?_⟩
                · show own.length - (k + 1) < own.length - k
                  omega
                · refine ⟨by show k + 1 ≤ _; omega, by simp; omega, fun v hv => ?_⟩
                  rcases List.mem_append.1 hv with hv | hv
                  · exact hlv v hv
                  · simp at hv; subst hv; exact hown.2 _ (List.getElem_mem _)
                · refine Weak.trans (Weak.shift 5 4 (by decide) (by simp) (Nat.le_of_ble_eq_true rfl) (Nat.le_of_ble_eq_true rfl) (fun j => by cases j <;> rfl) rfl) ?_
                  refine Weak.backT 5 (by simp) ?_ (by kernel_rfl) (Nat.le_of_ble_eq_true rfl) tld (by kernel_rfl) (by kernel_rfl)
                  exact congrArg (fun r => ([one (.row 26 7 false [pgD p]), one (.row 26 7 false [zP]), outD .nils mu co se ch (.sl 3 0 1 0 cs.length none) (1 + th), rowC cs, one (.row 3 1 true r)] : Objs)) (map_snoc _ _)
              · (refine goA ?_)
                refine ⟨_, _, _, ?_, ⟨(k + 1, l), ?_, rfl, rfl, rfl⟩, ?_⟩
                · show own.length - (k + 1) < own.length - k
                  omega
                · exact ⟨by show k + 1 ≤ _; omega, by show l.length ≤ k + 1; omega, hlv⟩
                · refine Weak.backT 5 (by simp) (by first | rfl | kernel_rfl) (by kernel_rfl) (Nat.le_of_ble_eq_true rfl) tld (by kernel_rfl) (by kernel_rfl)
          · simp only [List.length_map] at c3
            (refine goR ?_)
            refine Pt.weak ?_ (cont2.h (k, l) ?_)
            · refine Weak.backT 5 (by simp) (by first | rfl | kernel_rfl) (by kernel_rfl) (Nat.le_of_ble_eq_true rfl) tld (by kernel_rfl) (by kernel_rfl)
            · exact ⟨by show l.length ≤ 4; omega, hlv⟩
        · rintro ⟨k, l⟩ ⟨hl4, hlv⟩
          dsimp only at hl4 hlv ⊢
          (refine goR ?_)
          ((with_reducible refine Pt.go ?_); conv => whnf)
          (refine goR ?_)
          refine Br.dec (fun c5 => ?_) (fun c5 => ?_)
          · (refine goR ?_)
            refine Pt.weak (Weak.frzK (fun i => Nat.beq i 4) [(6, ints l)] ⟨View.slAll rfl rfl (by simp) (by simp) (ViewL.same _) (pureL_map (fun _ => rfl) _), trivial⟩) ?_
            (refine goA ?_)
            refine App.only false rfl rfl ?_
            (refine goA ?_)
            refine ⟨_, _, _, ?_, ⟨(i + 1, cs ++ [l]), ?_, rfl, rfl, rfl⟩, ?_⟩
            · show 4 - (i + 1) < 4 - i
              omega
            · refine ⟨by show i + 1 ≤ _; omega, by show i + 1 ≤ 4; omega, by simp; omega, fun v hv => ?_⟩
              rcases List.mem_append.1 hv with hv | hv
              · exact hcs v hv
              · simp at hv; subst hv
                exact ⟨fun e => by subst e; simp at c5, hl4, hlv⟩
            · refine Weak.trans (Weak.shift 5 3 (by decide) (by simp) (Nat.le_of_ble_eq_true rfl) (Nat.le_of_ble_eq_true rfl) (fun j => by cases j <;> rfl) rfl) ?_
              refine Weak.backT 4 (by simp) ?_ (by kernel_rfl) (Nat.le_of_ble_eq_true rfl) tld (by kernel_rfl) (by kernel_rfl)
              have e : cs.map ints ++ [ints l] = (cs ++ [l]).map ints := by simp
              have e2 : cs.length + 1 = (cs ++ [l]).length := by simp
              rw [← e2]
              exact congrArg (fun r => ([one (.row 26 7 false [pgD p]), one (.row 26 7 false [zP]), outD .nils mu co se ch (.sl 3 0 1 0 (cs.length + 1) none) (1 + th), one (.row 23 1 true r)] : Objs)) e
          · (refine goA ?_)
            refine ⟨_, _, _, ?_, ⟨(i + 1, cs), ?_, rfl, rfl, rfl⟩, ?_⟩
            · show 4 - (i + 1) < 4 - i
              omega
            · exact ⟨by show i + 1 ≤ _; omega, by show i + 1 ≤ 4; omega, by show cs.length ≤ i + 1; omega, hcs⟩
            · refine Weak.backT 4 (by simp) (by first | rfl | kernel_rfl) (by kernel_rfl) (Nat.le_of_ble_eq_true rfl) tld (by kernel_rfl) (by kernel_rfl)
      · (refine goR ?_)
        refine Pt.weak ?_ (cont.h (i, cs) ?_)
        · refine Weak.backT 4 (by simp) (by first | rfl | kernel_rfl) (by kernel_rfl) (Nat.le_of_ble_eq_true rfl) tld (by kernel_rfl) (by kernel_rfl)
        · exact ⟨by show cs.length ≤ 4; omega, hcs⟩
    · (refine goR ?_)
      refine Pt.weak ?_ (cont.h (i, cs) ?_)
      · refine Weak.backT 4 (by simp) (by first | rfl | kernel_rfl) (by kernel_rfl) (Nat.le_of_ble_eq_true rfl) tld (by kernel_rfl) (by kernel_rfl)
      · exact ⟨by show cs.length ≤ 4; omega, hcs⟩
  · rintro ⟨i, cs⟩ ⟨hcl, hcs⟩
    dsimp only at hcl hcs ⊢
    (refine goR ?_)
    refine Pt.weak (Weak.frzO (fun i => Nat.beq i 3) [] 2 (ty := 26) (sz := 7) (es := [.agg [.nils, .int .i64 mu, ints co, ints se, ints ch, .sl 3 0 1 0 cs.length none, .int .i64 (1 + th)]]) rfl rfl [.agg [.nils, .int .i64 mu, ints co, ints se, ints ch, .lst 1 false (cs.map ints), .int .i64 (1 + th)]] rfl ?_ trivial) ?_
    · exact .cons (.agg (.cons (.same _) (.cons (.same _) (.cons (.same _) (.cons (.same _) (.cons (.same _) (.cons (View.slAll rfl rfl (by simp) (by simp) (ViewL.same _) (pureL_map (fun _ => rfl) _)) (.same _)))))))) .nil
    (refine goA ?_)
    refine Loop.inv2 (A := Nat × List Fu) 6 (List.range 196) (fun a => (10, .int .i64 (a.1 : Int)) :: P3) (fun a => gO p mu co se ch cs th (.sl 4 0 2 0 a.2.length none) (one (.row 68 2 false (fuR a.2))) (fuC a.2) [])
      (fun a => a.1 ≤ p.fu.length ∧ a.1 ≤ 4 ∧ a.2.length = a.1 ∧ ∀ f ∈ a.2, rawF f) (fun a => a.2.length ≤ 4 ∧ ∀ f ∈ a.2, rawF f) (fun a => 4 - a.1) (0, []) ⟨Nat.zero_le _, by omega, rfl, by simp⟩ ?_ ?_ ?_
    · refine Weak.trans (Weak.nilO 2 4 rfl (es := [.agg [.nils, .int .i64 mu, ints co, ints se, ints ch, .lst 1 false (cs.map ints), .int .i64 (1 + th)]]) rfl [.agg [.sl 4 0 2 0 0 none, .int .i64 mu, ints co, ints se, ints ch, .lst 1 false (cs.map ints), .int .i64 (1 + th)]] rfl (.cons (.agg (.cons (.nils _ _) (.same _ _))) (.same _ _)) 68 2 false) ?_
      refine Weak.trans (Weak.rows 65 2) ?_
      exact Weak.start' rfl rfl tld
    · intro cont4
      rintro ⟨i, fs⟩ ⟨hi, hi4, hl, hfs⟩
      dsimp only at hi hi4 hl hfs ⊢
      (refine goA ?_)
      refine Br.dec (fun c6 => ?_) (fun c6 => ?_)
      · (refine goA ?_)
        refine Br.dec (fun c7 => ?_) (fun c7 => ?_)
        · simp only [List.length_map] at c6
          have hgf : p.fu[i]? = some (p.fu[i]'(by omega)) := List.getElem?_eq_getElem (by omega)
          have hin := h2 _ (List.getElem_mem (l := p.fu) (n := i) (by omega))
          generalize p.fu[i] = f at hgf hin
          obtain ⟨hin1, hin2, hin3⟩ := hin
          (refine goA ?_)
          refine Opt.of (get_map hgf) ?_
          (refine goA ?_)
          refine Call.mk ((around33 f.loc 4 hin1 (by omega)).only _ rfl (by rintro d rfl; rfl)) ?_
          rintro d os' ⟨rfl, rfl⟩
          have hloc := around_lt f.loc 4 (by omega)
          generalize around f.loc 4 = loc at hloc ⊢
          (refine goA ?_)
          refine Loop.inv2 (A := Nat × List (Int × Int)) 8 (List.range 196) (fun a => (12, .int .i64 (a.1 : Int)) :: (10, .int .i64 (i : Int)) :: (11, .ptr 6 0 2 0 0) :: P3) (fun a => gO p mu co se ch cs th (.sl 4 0 2 0 fs.length none) (one (.row 68 2 false (fuR fs))) (fuC fs) [one (.row 68 2 false [.agg [.int .i64 loc, .sl 7 0 2 0 a.2.length none]]), one (.row 65 2 true (a.2.map inD))])
            (fun a => a.1 ≤ f.code.length ∧ a.1 ≤ 24 ∧ a.2.length = a.1 ∧ ∀ x ∈ a.2, I64 x.1 ∧ I64 x.2) (fun a => a.2.length ≤ 24 ∧ ∀ x ∈ a.2, I64 x.1 ∧ I64 x.2) (fun a => 24 - a.1) (0, []) ⟨Nat.zero_le _, by omega, rfl, by simp⟩ ?_ ?_ ?_
          · refine Weak.trans (Weak.nilO 6 7 rfl (es := [.agg [.int .i64 loc, .nils]]) rfl [.agg [.int .i64 loc, .sl 7 0 2 0 0 none]] rfl (.cons (.agg (.cons (.same _ _) (.cons (.nils _ _) (.same _ _)))) (.same _ _)) 65 2 true) ?_
            exact Weak.start' rfl rfl tld
          · intro cont5
            rintro ⟨k, code⟩ ⟨hk, hk24, hlc, hcode⟩
            dsimp only at hk hk24 hlc hcode ⊢
            (refine goA ?_)
            refine Opt.of (get_map hgf) ?_
            (refine goA ?_)
            refine Br.dec (fun c8 => ?_) (fun c8 => ?_)
            · (refine goA ?_)
              refine Br.dec (fun c9 => ?_) (fun c9 => ?_)
              · simp only [List.length_map] at c8
                have hgx : f.code[k]? = some (f.code[k]'(by omega)) := List.getElem?_eq_getElem (by omega)
                have hx := hin3 _ (List.getElem_mem (l := f.code) (n := k) (by omega))
                generalize f.code[k] = x at hgx hx
                (refine goA ?_)
                refine Opt.of (get_map hgf) ?_
                (refine goA ?_)
                refine Opt.of (get_map hgx) ?_
                (refine goA ?_)
                refine App.only false rfl rfl ?_
                (refine goA ?_)
                refine ⟨_, _, _, ?_, ⟨(k + 1, code ++ [x]), ?_, rfl, rfl, rfl⟩, ?_⟩
                · show 24 - (k + 1) < 24 - k
                  omega
                · refine ⟨by show k + 1 ≤ _; omega, by show k + 1 ≤ 24; omega, by simp; omega, fun v hv => ?_⟩
                  rcases List.mem_append.1 hv with hv | hv
                  · exact hcode v hv
                  · simp at hv; subst hv; exact hx
                · refine Weak.trans (Weak.objs (os' := gO p mu co se ch cs th (.sl 4 0 2 0 fs.length none) (one (.row 68 2 false (fuR fs))) (fuC fs) [one (.row 68 2 false [.agg [.int .i64 loc, .sl 8 0 2 0 (code.length + 1) none]]), one .gone, one (.row 65 2 true (code.map inD ++ [inD x]))]) (by kernel_rfl)) ?_
                  refine Weak.trans (Weak.shift 8 7 (by decide) (by simp) (Nat.le_of_ble_eq_true rfl) (Nat.le_of_ble_eq_true rfl) (fun j => by cases j <;> rfl) (by simp [Fam.names, O.names, D.namesL, D.names, fuR, fuK_names 5 7 rfl] <;> decide)) ?_
                  refine Weak.trans (Weak.objs (os' := gO p mu co se ch cs th (.sl 4 0 2 0 fs.length none) (one (.row 68 2 false (fuR fs))) (fuC fs) [one (.row 68 2 false [.agg [.int .i64 loc, .sl 7 0 2 0 (code ++ [x]).length none]]), one (.row 65 2 true ((code ++ [x]).map inD)), one .gone]) ?_) ?_
                  · have e2 : code.map inD ++ [inD x] = (code ++ [x]).map inD := by simp
                    have e3 : code.length + 1 = (code ++ [x]).length := by simp
                    rw [← e2, ← e3]
                    exact congrArg (fun r => gO p mu co se ch cs th (.sl 4 0 2 0 fs.length none) (one (.row 68 2 false r)) (fuC fs) [one (.row 68 2 false [.agg [.int .i64 loc, .sl 7 0 2 0 (code.length + 1) none]]), one (.row 65 2 true (code.map inD ++ [inD x])), one .gone]) (fuK_ren 5 8 7 rfl 0 fs)
                  · refine Weak.backT 8 (by simp) (by first | rfl | kernel_rfl) (by simp [Fam.lt, O.lt, D.lt, D.ltL, fuR, fuK_lt 5 8 rfl] <;> decide) (Nat.le_of_ble_eq_true rfl) tld (by kernel_rfl) (by kernel_rfl)
              · (refine goR ?_)
                refine Pt.weak ?_ (cont5.h (k, code) ?_)
                · refine Weak.backT 8 (by simp) (by first | rfl | kernel_rfl) (by simp [Fam.lt, O.lt, D.lt, D.ltL, fuR, fuK_lt 5 8 rfl] <;> decide) (Nat.le_of_ble_eq_true rfl) tld (by kernel_rfl) (by kernel_rfl)
                · exact ⟨by show code.length ≤ 24; omega, hcode⟩
            · (refine goR ?_)
              refine Pt.weak ?_ (cont5.h (k, code) ?_)
              · refine Weak.backT 8 (by simp) (by first | rfl | kernel_rfl) (by simp [Fam.lt, O.lt, D.lt, D.ltL, fuR, fuK_lt 5 8 rfl] <;> decide) (Nat.le_of_ble_eq_true rfl) tld (by kernel_rfl) (by kernel_rfl)
              · exact ⟨by show code.length ≤ 24; omega, hcode⟩
          · rintro ⟨k, code⟩ ⟨hcl24, hcode⟩
            dsimp only at hcl24 hcode ⊢
            have hR : (fuR fs).length = fs.length := by rw [fuR, fuK_length]
            (refine goA ?_)
            refine App.own ?_
            (refine goA ?_)
            subst hl
            refine ⟨_, _, _, ?_, ⟨(fs.length + 1, fs ++ [(⟨loc, code⟩ : Fu)]), ?_, rfl, rfl, rfl⟩, ?_⟩
            · show 4 - (fs.length + 1) < 4 - fs.length
              omega
            · refine ⟨by show fs.length + 1 ≤ _; omega, by show fs.length + 1 ≤ 4; omega, by simp, fun v hv => ?_⟩
              rcases List.mem_append.1 hv with hv | hv
              · exact hfs v hv
              · simp at hv; subst hv; exact ⟨by show 0 ≤ loc ∧ loc ≤ 3; omega, hcl24, hcode⟩
            · refine Weak.trans (Weak.objs (os' := gO p mu co se ch cs th (.sl 9 0 2 0 (fs.length + 1) none) (one .gone) (fuC fs) [one (.row 68 2 false [.agg [.int .i64 loc, .sl 7 0 2 0 code.length none]]), one (.row 65 2 true (code.map inD)), one (.row 68 2 false [.agg [.int .i64 loc, .sl 7 0 2 0 code.length none]]), one (.row 68 2 false (fuR fs ++ [.agg [.int .i64 loc, .sl 7 0 2 0 code.length none]]))]) (by kernel_rfl)) ?_
              refine Weak.trans (Weak.swap 7 5 fs.length (by decide) (by simp) (by simp) (Nat.le_of_ble_eq_true rfl) (Nat.le_of_ble_eq_true rfl) (fun j => rfl)) ?_
              refine Weak.trans (Weak.objs (os' := gO p mu co se ch cs th (.sl 9 0 2 0 (fs.length + 1) none) (one .gone) (fuC (fs ++ [(⟨loc, code⟩ : Fu)])) [one (.row 68 2 false [.agg [.int .i64 loc, .sl 5 fs.length 2 0 code.length none]]), one (.row 65 2 true (fuC fs fs.length)), one (.row 68 2 false [.agg [.int .i64 loc, .sl 5 fs.length 2 0 code.length none]]), one (.row 68 2 false (fuR (fs ++ [(⟨loc, code⟩ : Fu)])))]) ?_) ?_
              · have e1 : D.mapIdL (swp 7 5 fs.length) (fuR fs ++ [D.agg [.int .i64 loc, .sl 7 0 2 0 code.length none]]) = fuR (fs ++ [(⟨loc, code⟩ : Fu)]) := by
                  rw [mapIdL_append, fuR, fuK_swp 5 7 _ rfl 0 fs (by omega), fuR, fuK_snoc, Nat.zero_add]
                  rfl
                rw [← fuC_snoc fs ⟨loc, code⟩]
                exact congrArg (fun r => gO p mu co se ch cs th (.sl 9 0 2 0 (fs.length + 1) none) (one .gone) (fun k => bif Nat.beq k fs.length then code.map inD else fuC fs k) [one (.row 68 2 false [.agg [.int .i64 loc, .sl 5 fs.length 2 0 code.length none]]), one (.row 65 2 true (fuC fs fs.length)), one (.row 68 2 false [.agg [.int .i64 loc, .sl 5 fs.length 2 0 code.length none]]), one (.row 68 2 false r)]) e1
              · refine Weak.trans (Weak.shift 9 4 (by decide) (by simp) (Nat.le_of_ble_eq_true rfl) (Nat.le_of_ble_eq_true rfl) (fun j => by cases j <;> rfl) (by simp [Fam.names, O.names, D.namesL, D.names, fuR, fuK_names 5 4 rfl] <;> decide)) ?_
                refine Weak.trans (Weak.objs (os' := gO p mu co se ch cs th (.sl 4 0 2 0 (fs ++ [(⟨loc, code⟩ : Fu)]).length none) (one (.row 68 2 false (fuR (fs ++ [(⟨loc, code⟩ : Fu)])))) (fuC (fs ++ [(⟨loc, code⟩ : Fu)])) [one (.row 68 2 false [.agg [.int .i64 loc, .sl 5 fs.length 2 0 code.length none]]), one (.row 65 2 true (fuC fs fs.length)), one (.row 68 2 false [.agg [.int .i64 loc, .sl 5 fs.length 2 0 code.length none]]), one .gone]) ?_) ?_
                · have e3 : fs.length + 1 = (fs ++ [(⟨loc, code⟩ : Fu)]).length := by simp
                  rw [← e3]
                  exact congrArg (fun r => gO p mu co se ch cs th (.sl 4 0 2 0 (fs.length + 1) none) (one (.row 68 2 false r)) (fuC (fs ++ [(⟨loc, code⟩ : Fu)])) [one (.row 68 2 false [.agg [.int .i64 loc, .sl 5 fs.length 2 0 code.length none]]), one (.row 65 2 true (fuC fs fs.length)), one (.row 68 2 false [.agg [.int .i64 loc, .sl 5 fs.length 2 0 code.length none]]), one .gone]) (fuK_ren 5 9 4 rfl 0 _)
                · refine Weak.backT 6 (by simp) (by first | rfl | kernel_rfl) (by simp [Fam.lt, O.lt, D.lt, D.ltL, fuR, fuK_lt 5 6 rfl] <;> decide) (Nat.le_of_ble_eq_true rfl) tld (by kernel_rfl) (by kernel_rfl)
        · (refine goR ?_)
          refine Pt.weak ?_ (cont4.h (i, fs) ?_)
          · refine Weak.backT 6 (by simp) (by first | rfl | kernel_rfl) (by simp [Fam.lt, O.lt, D.lt, D.ltL, fuR, fuK_lt 5 6 rfl] <;> decide) (Nat.le_of_ble_eq_true rfl) tld (by kernel_rfl) (by kernel_rfl)
          · exact ⟨by show fs.length ≤ 4; omega, hfs⟩
      · (refine goR ?_)
        refine Pt.weak ?_ (cont4.h (i, fs) ?_)
        · refine Weak.backT 6 (by simp) (by first | rfl | kernel_rfl) (by simp [Fam.lt, O.lt, D.lt, D.ltL, fuR, fuK_lt 5 6 rfl] <;> decide) (Nat.le_of_ble_eq_true rfl) tld (by kernel_rfl) (by kernel_rfl)
        · exact ⟨by show fs.length ≤ 4; omega, hfs⟩
    · rintro ⟨i, fs⟩ ⟨hfl, hfs⟩
      dsimp only at hfl hfs ⊢
      have hR : (fuR fs).length = fs.length := by rw [fuR, fuK_length]
      (refine goA ?_)
      refine Br.dec (fun c10 => ?_) (fun c10 => ?_)
      · (refine goA ?_)
        refine App.only false rfl rfl ?_
        (refine goA ?_)
        refine Loop.inv (A := Nat) (List.range 196) (fun i => (13, .int .i64 (i : Int)) :: P3) (fun i => gO p mu co se ch cs th (.lst 2 false [.agg [.int .i64 0, .nils]]) (one (.row 68 2 false (fuR fs))) (fuC fs) []) (fun i => i ≤ 1) (fun i => 1 - i) 0 (Nat.zero_le _) ?_ ?_
        · exact Weak.start' rfl rfl tld
        intro i hi
        (refine goA ?_)
        refine Br.dec (fun c11 => ?_) (fun c11 => ?_)
        · obtain rfl : i = 0 := by simp at c11; omega
          (refine goA ?_)
          refine Loop.inv (A := Unit) (List.range 196) (fun _ => (15, .int .i64 0) :: (13, .int .i64 ((0 : Nat) : Int)) :: (14, .ptr 6 0 2 0 0) :: P3) (fun _ => gO p mu co se ch cs th (.lst 2 false [.agg [.int .i64 0, .nils]]) (one (.row 68 2 false (fuR fs))) (fuC fs) [one (.row 68 2 false [.agg [.int .i64 0, .nils]])]) (fun _ => True) (fun _ => 0) () trivial ?_ ?_
          · exact Weak.start' rfl rfl tld
          intro _ _
          (refine goA ?_)
          refine ⟨_, _, _, ?_, ⟨(0 + 1), ?_, rfl, rfl, rfl⟩, ?_⟩
          · show 1 - (0 + 1) < 1 - 0
            omega
          · show 0 + 1 ≤ 1
            omega
          · refine Weak.backT 6 (by simp) (by first | rfl | kernel_rfl) (by simp [Fam.lt, O.lt, D.lt, D.ltL, fuR, fuK_lt 5 6 rfl] <;> decide) (Nat.le_of_ble_eq_true rfl) tld (by kernel_rfl) (by kernel_rfl)
        · (refine goA ?_)
          refine Ret.mk [.cell 2 26] rfl ?_; (refine goA ?_)
          refine ⟨pgD ⟨[⟨0, []⟩], mu, co, se, ch, cs, 1 + th⟩, View.agg (.cons (View.lst (by simp) (.cons (.agg (.cons (.same _) (.cons (.nils _ _) .nil))) .nil) rfl) (.same _)), rfl, _, ?_, rfl⟩
          refine ⟨⟨by simp, by show 0 ≤ mu ∧ mu ≤ 3; omega, hco.1, hse.1, hch.1, hcl⟩, ?_, fun v hv => by have := hco.2 v hv; show 0 ≤ v ∧ v < mu; omega, hse.2, hch.2, hcs, by show 1 ≤ 1 + th ∧ 1 + th ≤ 8; omega⟩
          intro f hf
          simp at hf
          subst hf
          exact ⟨by decide, by decide, by simp⟩
      · have hne : fs ≠ [] := fun e => c10 (by rw [e]; rfl)
        (refine goA ?_)
        refine Loop.inv (A := Nat × List Fu) (List.range 196) (fun a => (13, .int .i64 (a.1 : Int)) :: P3) (fun a => gO p mu co se ch cs th (.sl 4 0 2 0 a.2.length none) (one (.row 68 2 false (fuR a.2))) (fuC a.2) [])
          (fun a => a.1 ≤ a.2.length ∧ a.2.length = fs.length ∧ ∀ j f, a.2[j]? = some f → rawF f ∧ (j < a.1 → ∀ x ∈ f.code, inOk fs.length ⟨[], mu, co, se, ch, cs, 1 + th⟩ f.loc f.code.length x)) (fun a => fs.length - a.1) (0, fs) ⟨Nat.zero_le _, rfl, fun j f hj => ⟨hfs f (List.mem_of_getElem? hj), fun h => by omega⟩⟩ ?_ ?_
        · exact Weak.start' rfl rfl tld
        rintro ⟨i, fs'⟩ ⟨hi, hlen, hall⟩
        dsimp only at hi hlen hall ⊢
        (refine goA ?_)
        refine Br.dec (fun c11 => ?_) (fun c11 => ?_)
        · obtain ⟨f, hgf⟩ : ∃ f, fs'[i]? = some f := ⟨_, List.getElem?_eq_getElem (by omega)⟩
          have hraw := (hall i f hgf).1
          have hc24 := hraw.2.1
          have hgR : (fuR fs')[0 + i]? = some (.agg [.int .i64 f.loc, .sl 5 i 2 0 f.code.length none]) := by rw [Nat.zero_add, fuR, fuK_get, hgf, Nat.zero_add]; rfl
          (refine goA ?_)
          refine Opt.of hgR ?_
          (refine goA ?_)
          refine Loop.inv (A := Nat × List (Int × Int)) (List.range 196) (fun a => (15, .int .i64 (a.1 : Int)) :: (13, .int .i64 (i : Int)) :: (14, .ptr 6 0 2 0 0) :: P3) (fun a => gO p mu co se ch cs th (.sl 4 0 2 0 fs'.length none) (one (.row 68 2 false (fuR fs'))) (fuC (fs'.set i ⟨f.loc, a.2⟩)) [one (.row 68 2 false [.agg [.int .i64 f.loc, .sl 5 i 2 0 f.code.length none]])])
            (fun a => a.1 ≤ f.code.length ∧ a.2.length = f.code.length ∧ ∀ m x, a.2[m]? = some x → (I64 x.1 ∧ I64 x.2) ∧ (m < a.1 → inOk fs.length ⟨[], mu, co, se, ch, cs, 1 + th⟩ f.loc f.code.length x)) (fun a => f.code.length - a.1) (0, f.code) ⟨Nat.zero_le _, rfl, fun m x hm => ⟨hraw.2.2 x (List.mem_of_getElem? hm), fun h => by omega⟩⟩ ?_ ?_
          · have e : fs'.set i ⟨f.loc, f.code⟩ = fs' := by
              apply List.ext_getElem?
              intro j
              rw [List.getElem?_set]
              by_cases hj : i = j
              · subst hj; rw [if_pos rfl, if_pos (by omega), hgf]
              · rw [if_neg hj]
            refine Weak.trans (Weak.objs (os' := gO p mu co se ch cs th (.sl 4 0 2 0 fs'.length none) (one (.row 68 2 false (fuR fs'))) (fuC (fs'.set i ⟨f.loc, f.code⟩)) [one (.row 68 2 false [.agg [.int .i64 f.loc, .sl 5 i 2 0 f.code.length none]])]) (by rw [e] <;> kernel_rfl)) ?_
            exact Weak.start' rfl rfl tld
          rintro ⟨k, c⟩ ⟨hk, hlc, hc⟩
          dsimp only at hk hlc hc ⊢
          (refine goA ?_)
          refine Br.dec (fun c12 => ?_) (fun c12 => ?_)
          · obtain ⟨x, hgx⟩ : ∃ x, c[k]? = some x := ⟨_, List.getElem?_eq_getElem (by omega)⟩
            have hC : fuC (fs'.set i ⟨f.loc, c⟩) i = c.map inD := by unfold fuC; rw [List.getElem?_set_self (by omega)]; rfl
            have hCk : (fuC (fs'.set i ⟨f.loc, c⟩) i)[0 + k]? = some (inD x) := by rw [hC, Nat.zero_add]; exact get_map hgx
            have hfR : fuR (fs'.set i ⟨f.loc, c⟩) = fuR fs' := fuK_set 5 ⟨f.loc, c⟩ 0 fs' i f hgf rfl hlc.symm
            have hlen' : (fs'.set i (⟨f.loc, c⟩ : Fu)).length = fs'.length := List.length_set ..
            have hSz : Szs ⟨fs'.set i ⟨f.loc, c⟩, mu, co, se, ch, cs, 1 + th⟩ := ⟨⟨by show 1 ≤ (fs'.set i _).length; rw [hlen']; omega, by show (fs'.set i _).length ≤ 4; rw [hlen']; omega⟩, by show 0 ≤ mu ∧ mu ≤ 3; omega, hco.1, hse.1, hch.1, hcl⟩
            (refine goA ?_)
            refine Opt.of hCk ?_
            (refine goA ?_)
            refine Call.mk ((instr109 ⟨fs'.set i ⟨f.loc, c⟩, mu, co, se, ch, cs, 1 + th⟩ hSz ⟨f.loc, c⟩ x hraw.1 (by show c.length ≤ 24; have := hraw.2.1; omega) (hc k x hgx).1).read (.cons (View.agg (.cons (view_fu hlen' (by rw [hfR]; rfl) (fun j => rfl) rfl rfl) (.same _))) (.cons (View.agg (.cons (.same _) (.cons (View.slAll rfl (t := 65) (pr := true) (es := fuC (fs'.set i ⟨f.loc, c⟩) i) rfl (by rw [hC, List.length_map]; exact hlc) (by simp) (by rw [hC]; exact .same _) (pureL_map (fun _ => rfl) _)) .nil))) (.same _))) rfl (by rintro d ⟨y, _, rfl⟩; exact ⟨rfl, rfl⟩)) ?_
            rintro d os' ⟨⟨y, hy, rfl⟩, rfl⟩
            (refine goA ?_)
            refine Opt.of hCk ?_
            (refine goA ?_)
            refine ⟨_, _, _, ?_, ⟨(k + 1, c.set k y), ?_, rfl, rfl, rfl⟩, ?_⟩
            · show f.code.length - (k + 1) < f.code.length - k
              omega
            · refine ⟨by show k + 1 ≤ _; omega, by rw [List.length_set]; exact hlc, fun m x' hm => ?_⟩
              dsimp only at hm ⊢
              rw [List.getElem?_set] at hm
              rw [hlen', hlen] at hy
              by_cases hkm : k = m
              · subst hkm
                rw [if_pos rfl, if_pos (by have := (List.getElem?_eq_some_iff.1 hgx).1; omega)] at hm
                cases hm
                rw [hlc] at hy
                exact ⟨⟨⟨by have := hy.1; omega, by have := hy.1; omega⟩, ⟨by have := hy.2.1; omega, by have := hy.2.1; omega⟩⟩, fun _ => hy⟩
              · rw [if_neg hkm] at hm
                exact ⟨(hc m x' hm).1, fun h => (hc m x' hm).2 (by have h' : m < k + 1 := h; omega)⟩
            · have e1 : (fuC (fs'.set i ⟨f.loc, c⟩) i).set (0 + k) (inD y) = (c.set k y).map inD := by rw [hC, Nat.zero_add, List.map_set]
              have e2 := fuC_set (fs'.set i ⟨f.loc, c⟩) i ⟨f.loc, c.set k y⟩ (by rw [hlen']; omega)
              rw [List.set_set] at e2
              refine Weak.trans (Weak.objs (os' := gO p mu co se ch cs th (.sl 4 0 2 0 fs'.length none) (one (.row 68 2 false (fuR fs'))) (fuC (fs'.set i ⟨f.loc, c.set k y⟩)) [one (.row 68 2 false [.agg [.int .i64 f.loc, .sl 5 i 2 0 f.code.length none]])]) (by rw [← e2, ← e1] <;> kernel_rfl)) ?_
              refine Weak.backT 7 (by simp) (by first | rfl | kernel_rfl) (by simp [Fam.lt, O.lt, D.lt, D.ltL, fuR, fuK_lt 5 7 rfl] <;> decide) (Nat.le_of_ble_eq_true rfl) tld (by kernel_rfl) (by kernel_rfl)
          · have hlen' : (fs'.set i (⟨f.loc, c⟩ : Fu)).length = fs'.length := List.length_set ..
            have hfR : fuR (fs'.set i ⟨f.loc, c⟩) = fuR fs' := fuK_set 5 ⟨f.loc, c⟩ 0 fs' i f hgf rfl hlc.symm
            (refine goA ?_)
            refine ⟨_, _, _, ?_, ⟨(i + 1, fs'.set i ⟨f.loc, c⟩), ?_, rfl, rfl, rfl⟩, ?_⟩
            · show fs.length - (i + 1) < fs.length - i
              omega
            · refine ⟨by show i + 1 ≤ _; rw [hlen']; omega, by show (fs'.set i _).length = _; rw [hlen']; exact hlen, fun j g hj => ?_⟩
              dsimp only at hj ⊢
              rw [List.getElem?_set] at hj
              by_cases hij : i = j
              · subst hij
                rw [if_pos rfl, if_pos (by omega)] at hj
                cases hj
                refine ⟨⟨hraw.1, by show c.length ≤ 24; omega, fun x hx => ?_⟩, fun _ x hx => ?_⟩
                · obtain ⟨m, hm⟩ := List.getElem?_of_mem hx
                  exact (hc m x hm).1
                · obtain ⟨m, hm⟩ := List.getElem?_of_mem hx
                  have hml : m < c.length := (List.getElem?_eq_some_iff.1 hm).1
                  have := (hc m x hm).2 (by simp at c12; omega)
                  rw [← hlc] at this
                  exact this
              · rw [if_neg hij] at hj
                exact ⟨(hall j g hj).1, fun h => (hall j g hj).2 (by have h' : j < i + 1 := h; omega)⟩
            · refine Weak.trans (Weak.objs (os' := gO p mu co se ch cs th (.sl 4 0 2 0 (fs'.set i ⟨f.loc, c⟩).length none) (one (.row 68 2 false (fuR (fs'.set i ⟨f.loc, c⟩)))) (fuC (fs'.set i ⟨f.loc, c⟩)) [one (.row 68 2 false [.agg [.int .i64 f.loc, .sl 5 i 2 0 f.code.length none]])]) (by rw [hfR, hlen'] <;> kernel_rfl)) ?_
              refine Weak.backT 6 (by simp) (by first | rfl | kernel_rfl) (by simp [Fam.lt, O.lt, D.lt, D.ltL, fuR, fuK_lt 5 6 rfl] <;> decide) (Nat.le_of_ble_eq_true rfl) tld (by kernel_rfl) (by kernel_rfl)
        · (refine goA ?_)
          refine Ret.mk [.cell 2 26] rfl ?_; (refine goA ?_)
          refine ⟨pgD ⟨fs', mu, co, se, ch, cs, 1 + th⟩, View.agg (.cons (view_fu rfl rfl (fun j => rfl) rfl rfl) (.same _)), rfl, _, ?_, rfl⟩
          have hn4 : 1 ≤ fs'.length ∧ fs'.length ≤ 4 := by
            have : 0 < fs.length := List.length_pos_iff.2 hne
            omega
          refine ⟨⟨hn4, by show 0 ≤ mu ∧ mu ≤ 3; omega, hco.1, hse.1, hch.1, hcl⟩, ?_, fun v hv => by have := hco.2 v hv; show 0 ≤ v ∧ v < mu; omega, hse.2, hch.2, hcs, by show 1 ≤ 1 + th ∧ 1 + th ≤ 8; omega⟩
          intro f hf
          obtain ⟨j, hj⟩ := List.getElem?_of_mem hf
          have hjl : j < fs'.length := (List.getElem?_eq_some_iff.1 hj).1
          have hx := hall j f hj
          refine ⟨hx.1.1, hx.1.2.1, fun x hxm => ?_⟩
          have := hx.2 (by omega) x hxm
          rw [← hlen] at this
          exact this
end Go.Proofs.YtkceciebmkklpaaGreat.V
end
section
namespace Go.Proofs.YtkceciebmkklpaaGreat.V
open Go Go.Proofs
set_option maxRecDepth 100000
set_option maxHeartbeats 4000000
theorem odd_ls {g : Pg} (hg : GoodP g) {f : Fm} (h : oddF g f = false) : f.ls.length ≤ 3 := by
  unfold oddF at h
  split at h
  · simp at h
  · split at h
    · simp at h
    · rename_i u hu
      simp at h
      have := (hg.fu u (List.mem_of_getElem? hu)).1
      omega
theorem good_okB {g : Pg} (hg : GoodP g) {x : Th} (hx : GoodT g x) : x.okB := ⟨by have := hx.fl; omega, by have := hx.sk; omega, fun f hf => by have := odd_ls hg (hx.fr f hf); omega⟩
theorem good_ok {g : Pg} (hg : GoodP g) {x : Th} (hx : GoodT g x) : x.ok := ⟨by have := hx.fl; omega, by have := hx.sk; omega, fun f hf => by have := odd_ls hg (hx.fr f hf); unfold Fm.ok; omega⟩
theorem pop52 (t : Th) (s : List Int) (v : Int) (hs : t.sk = s ++ [v]) (hl : s.length ≤ 1000000) : Spec Tryz.prog 214 [thD t] [] (fun d os' => d = .tup [thD { t with sk := s }, .int .i64 v, .bool true] ∧ os' = []) := by
  refine Spec.frz (post' := fun d => d = .tup [thD { t with sk := s }, .int .i64 v, .bool true]) ?_
  have hlen : (t.sk.map (D.int .i64)).length = s.length + 1 := by rw [hs]; simp
  have e : ((((t.sk.map (D.int .i64)).length : Nat) : Int) - 1).toNat = s.length := by omega
  have hget : t.sk[((((t.sk.map (D.int .i64)).length : Nat) : Int) - 1).toNat]? = some v := by rw [e, hs]; simp
  refine Spec.by Tryz.func214 rfl (by decide) (by decide +kernel) rfl ?_
  (refine goA ?_)
  refine Opt.of (get_map hget) ?_
  (refine goA ?_)
  refine Nm.mk (s.map (D.int .i64)) (by show s.map (D.int .i64) = ((t.sk.map (D.int .i64)).take ((((t.sk.map (D.int .i64)).length : Nat) : Int) - 1).toNat).drop 0; rw [List.drop_zero, e, hs, List.map_append, List.take_left' (by simp)]) ?_
  (refine goA ?_)
  refine Ret.mk [.cell 2 42, .tmp 3, .tmp 4] rfl ?_; (refine goA ?_)
  exact ⟨.tup [thD { t with sk := s }, .int .i64 v, .bool true], View.tup (.cons (.agg (.cons (.same _) (.cons (.same _) (.cons (.same _) (.cons (View.lst (by simp) (.same _) (pureL_map (fun _ => rfl) _)) (.same _)))))) (.same _)), rfl, rfl⟩
theorem leave54 (t : Th) (s : List Fm) (f : Fm) (hs : t.fr = s ++ [f]) (hl : s.length ≤ 1000000) : Spec Tryz.prog 217 [thD t] [] (fun d os' => d = .tup [thD { t with fr := s }, .bool (decide (0 < (((t.fr.map frD).length : Nat) : Int) - 1))] ∧ os' = []) := by
  refine Spec.frz (post' := fun d => d = .tup [thD { t with fr := s }, .bool (decide (0 < (((t.fr.map frD).length : Nat) : Int) - 1))]) ?_
  have hlen : (t.fr.map frD).length = s.length + 1 := by rw [hs]; simp
  have e : ((((t.fr.map frD).length : Nat) : Int) - 1).toNat = s.length := by omega
  refine Spec.by Tryz.func217 rfl (by decide) (by decide +kernel) rfl ?_
  (refine goA ?_)
  refine Nm.mk (s.map frD) (by show s.map frD = ((t.fr.map frD).take ((((t.fr.map frD).length : Nat) : Int) - 1).toNat).drop 0; rw [List.drop_zero, e, hs, List.map_append, List.take_left' (by simp)]) ?_
  (refine goA ?_)
  refine Ret.mk [.cell 2 42, .tmp 3] rfl ?_; (refine goA ?_)
  exact ⟨.tup [thD { t with fr := s }, .bool (decide (0 < (((t.fr.map frD).length : Nat) : Int) - 1))], View.tup (.cons (.agg (.cons (.same _) (.cons (.same _) (.cons (View.lst (by simp) (.same _) (pureL_map (fun _ => rfl) _)) (.same _))))) (.same _)), rfl, rfl⟩
theorem end55 (t : Th) (c : Int) : Spec Tryz.prog 106 [thD t, .int .i64 c] [] (fun d os' => d = thD ⟨9, 0, [], [], c⟩ ∧ os' = []) := by
  refine Spec.frz (post' := fun d => d = thD ⟨9, 0, [], [], c⟩) ?_
  refine Spec.by Tryz.func106 rfl (by decide) (by decide +kernel) rfl ?_
  (refine goA ?_)
  refine Ret.mk [.cell 4 42] rfl ?_; (refine goA ?_)
  exact ⟨thD ⟨9, 0, [], [], c⟩, View.agg (.cons (.same _) (.cons (.same _) (.cons (.nils _ _) (.cons (.nils _ _) (.same _))))), rfl, rfl⟩
/-- Of all slots but these nothing is known any more. -/
theorem Weak.only {n0 : Nat} {m : List (Nat × D)} {os : Objs} (sl : List (Nat × D)) (os' : Objs) (ho : os = os') (h : told m sl) : Weak n0 { m := m, objs := os } { m := sl, objs := os' } := by
  subst ho
  refine Weak.slots rfl (fun i => ?_)
  cases hc : (sl.map (·.1)).contains i with
  | true => exact .inr (told_look h hc)
  | false => exact .inl (look_not_mem hc)
end Go.Proofs.YtkceciebmkklpaaGreat.V
end
section
namespace Go.Proofs.YtkceciebmkklpaaGreat.V
open Go Go.Proofs
set_option maxRecDepth 100000
set_option maxHeartbeats 40000000
/-- A ring that is as one must be: what it holds, in its row. -/
structure Rg (room a n : Int) (L c : List Int) : Prop where
  rm : 0 ≤ room ∧ room ≤ 1024
  nl : n = c.length
  cl : c.length ≤ L.length
  ll : (L.length : Int) ≤ room
  at0 : 0 ≤ a
  atl : L = [] ∧ a = 0 ∨ a < L.length
  el : ∀ i, i < c.length → L[(a.toNat + i) % L.length]? = c[i]?
theorem Rg.grow {room a n : Int} {L c : List Int} (h : Rg room a n L c) (hn : (c.length : Int) < room) (v : Int) : Rg room 0 (n + 1) (c ++ [v]) (c ++ [v]) := by
  have h1 := h.nl
  refine ⟨h.rm, by simp; omega, Nat.le_refl _, by simp; omega, Int.le_refl _, .inr (by simp), fun i hi => ?_⟩
  rw [show (0 : Int).toNat = 0 from rfl, Nat.zero_add, Nat.mod_eq_of_lt hi]
theorem Rg.put {room a n : Int} {L c : List Int} (h : Rg room a n L c) (hn : c.length < L.length) (v : Int) : Rg room a (n + 1) (L.set ((a.toNat + c.length) % L.length) v) (c ++ [v]) := by
  obtain ⟨h1, h2, h3, h4, h5, h6, h7⟩ := id h
  have hal : a < L.length := by
    rcases h6 with ⟨rfl, _⟩ | h6
    · simp at hn
    · exact h6
  refine ⟨h1, by simp; omega, by simp; omega, by simp; omega, h5, .inr (by simp; omega), fun i hi => ?_⟩
  rw [List.length_set]
  have hmod : ∀ x, x < L.length → (a.toNat + x) % L.length = if a.toNat + x < L.length then a.toNat + x else a.toNat + x - L.length := fun x hx => by
    split
    · rename_i hh; exact Nat.mod_eq_of_lt hh
    · rename_i hh; rw [Nat.mod_eq_sub_mod (by omega), Nat.mod_eq_of_lt (by omega)]
  rw [List.length_append, List.length_singleton] at hi
  by_cases hic : i = c.length
  · subst hic
    rw [List.getElem?_set_self (Nat.mod_lt _ (by omega))]
    simp
  · have hne : ¬ (a.toNat + c.length) % L.length = (a.toNat + i) % L.length := by
      rw [hmod c.length hn, hmod i (by omega)]
      split <;> split <;> omega
    rw [List.getElem?_set_ne hne, h7 i (by omega), List.getElem?_append_left (by omega)]
end Go.Proofs.YtkceciebmkklpaaGreat.V
end
section
namespace Go.Proofs.YtkceciebmkklpaaGreat.V
open Go Go.Proofs
set_option maxRecDepth 100000
set_option maxHeartbeats 40000000
/-- Behind a call all roads lead to one place. -/
theorem Call.cut {f : FuncId} {args : List D} {os : Objs} {K : D → Objs → Prop} {post : D → Objs → Prop} {A : Type} {n0 : Nat} {K2 : St → Prop} (S : A → List (Nat × D)) (O : A → Objs) (Q : A → Prop)
    (h : Spec Tryz.prog f args os post) (hk : ∀ d os', post d os' → (∀ a, Q a → Pt n0 { m := S a, objs := O a } K2) → K d os') (key : ∀ a, Q a → Pt n0 { m := S a, objs := O a } K2) : Call Tryz.prog f args os K :=
  .mk h fun d os' hp => hk d os' hp key
end Go.Proofs.YtkceciebmkklpaaGreat.V
end
section
namespace Go.Proofs.YtkceciebmkklpaaGreat.V
open Go Go.Proofs
set_option maxRecDepth 100000
set_option maxHeartbeats 40000000
/-- All roads lead to one place. -/
theorem cutG {A : Type} {n0 : Nat} {K2 : St → Prop} {G : Prop} (S : A → List (Nat × D)) (O : A → Objs) (Q : A → Prop) (hk : (∀ a, Q a → Pt n0 { m := S a, objs := O a } K2) → G) (key : ∀ a, Q a → Pt n0 { m := S a, objs := O a } K2) : G := hk key
end Go.Proofs.YtkceciebmkklpaaGreat.V
end
section
namespace Go.Proofs.YtkceciebmkklpaaGreat.V
open Go Go.Proofs
set_option maxRecDepth 100000
/-! The steps between states, with what they ask found where they are used. -/
theorem Weak.on {n0 : Nat} {m : List (Nat × D)} {os : Objs} (sl : List (Nat × D)) (os' : Objs) (ho : os = os' := by kernel_rfl) (h : told m sl := by repeat (first | exact trivial | refine And.intro (by first | rfl | exact congrArg (fun n => D.sl _ _ _ _ n none) List.length_append | exact congrArg _ (by omega)) ?_)) : Weak n0 { m := m, objs := os } { m := sl, objs := os' } := Weak.only sl os' ho h
theorem Pt.on {n0 : Nat} {m : List (Nat × D)} {os : Objs} {K : St → Prop} (sl : List (Nat × D)) (os' : Objs) (hk : Pt n0 { m := sl, objs := os' } K) (ho : os = os' := by kernel_rfl) (h : told m sl := by repeat (first | exact trivial | refine And.intro (by first | rfl | exact congrArg (fun n => D.sl _ _ _ _ n none) List.length_append | exact congrArg _ (by omega)) ?_)) : Pt n0 { m := m, objs := os } K := Pt.weak (Weak.only sl os' ho h) hk
theorem Weak.fin {n0 : Nat} {m0 sl : List (Nat × D)} {os0 os : Objs} (n : Nat) (ho' : os0.take n = os := by kernel_rfl) (hn : n0 ≤ n := by simp) (ho : (os0.take n).all (fun F => F.lt n) = true := by kernel_rfl) (hl : n ≤ os0.length := by exact Nat.le_of_ble_eq_true rfl)
    (hsl : told (trimM n m0) sl := by repeat (first | exact trivial | refine And.intro (by first | rfl | exact congrArg (fun n => D.sl _ _ _ _ n none) List.length_append | exact congrArg _ (by omega)) ?_)) : Weak n0 { m := m0, objs := os0 } { m := sl, objs := os } :=
  Weak.trans (Weak.trim n hn ho hl) (Weak.only sl os ho' hsl)
theorem Weak.shf {n0 : Nat} {m : List (Nat × D)} {os : Objs} {u : St} (a b : Nat) (hk : Weak n0 { m := renM a b (forgetM b m), objs := ((os.map (Fam.ren a b)).set b ((os.getD a (.one .gone)).ren a b)).set a (.one .gone) } u)
    (hab : a ≠ b := by decide) (hb0 : n0 ≤ b := by simp) (ha : a < os.length := by exact Nat.le_of_ble_eq_true rfl) (hb : b < os.length := by exact Nat.le_of_ble_eq_true rfl) (hgone : ∀ j, os.at b j = .gone := by intro j; cases j <;> rfl) (ho : os.all (fun F => !F.names b) = true := by rfl) : Weak n0 { m := m, objs := os } u :=
  Weak.trans (Weak.shift a b hab hb0 ha hb hgone ho) hk
/-- What one that may come early asks. -/
theorem erC {τ : Tau} {l : List Oper} {s : St} {j : Nat} {b : Prop} (hb : b) (ha : earlyC τ l s j := by ((conv => whnf); refine ⟨⟨by first | omega | (simp; omega), by first | omega | (simp; omega)⟩, by first | omega | (simp; omega), by first | omega | (simp; omega)⟩)) : earlyC τ l s j ∧ b := ⟨ha, hb⟩
end Go.Proofs.YtkceciebmkklpaaGreat.V
end
section
namespace Go.Proofs.YtkceciebmkklpaaGreat.V
open Go Go.Proofs
set_option maxRecDepth 100000
set_option maxHeartbeats 4000000
theorem top190 (t : Th) (s : List Fm) (f : Fm) (hs : t.fr = s ++ [f]) (hl : s.length ≤ 1000000) : Spec Tryz.prog 157 [thD t] [] (fun d os' => d = frD f ∧ os' = []) := by
  refine Spec.frz (post' := fun d => d = frD f) ?_
  have hlen : (t.fr.map frD).length = s.length + 1 := by rw [hs]; simp
  have e : ((((t.fr.map frD).length : Nat) : Int) - 1).toNat = s.length := by omega
  have hget : t.fr[((((t.fr.map frD).length : Nat) : Int) - 1).toNat]? = some f := by rw [e, hs]; simp
  refine Spec.by Tryz.func157 rfl (by decide) (by decide +kernel) rfl ?_
  (refine goA ?_)
  refine Opt.of (get_map hget) ?_
  (refine goA ?_)
  refine Ret.mk [.cell 2 116] rfl ?_; (refine goA ?_)
  exact ⟨frD f, View.same _, rfl, rfl⟩
theorem with191 (t : Th) (s : List Fm) (f f' : Fm) (hs : t.fr = s ++ [f]) (hl : s.length ≤ 1000000) : Spec Tryz.prog 159 [thD t, frD f'] [] (fun d os' => d = thD { t with fr := s ++ [f'] } ∧ os' = []) := by
  refine Spec.frz (post' := fun d => d = thD { t with fr := s ++ [f'] }) ?_
  have hlen : (t.fr.map frD).length = s.length + 1 := by rw [hs]; simp
  have e : ((((t.fr.map frD).length : Nat) : Int) - 1).toNat = s.length := by omega
  refine Spec.by Tryz.func159 rfl (by decide) (by decide +kernel) rfl ?_
  (refine goA ?_)
  refine Nm.mk (s.map frD) (by show s.map frD = ((t.fr.map frD).take ((((t.fr.map frD).length : Nat) : Int) - 1).toNat).drop 0; rw [List.drop_zero, e, hs, List.map_append, List.take_left' (by simp)]) ?_
  (refine goA ?_)
  refine App.only false rfl rfl ?_
  (refine goA ?_)
  refine App.only false rfl rfl ?_
  (refine goA ?_)
  refine Ret.mk [.cell 4 42] rfl ?_; (refine goA ?_)
  refine ⟨thD { t with fr := s ++ [f'] }, View.agg (.cons (.same _) (.cons (.same _) (.cons ?_ (.same _)))), rfl, rfl⟩
  show View _ _ _ (D.lst 3 false ((s ++ [f']).map frD))
  rw [List.map_append]
  exact .same _
theorem jump136 (t : Th) (s : List Fm) (f : Fm) (hs : t.fr = s ++ [f]) (hl : s.length ≤ 1000000) (pc : Int) : Spec Tryz.prog 104 [thD t, .int .i64 pc] [] (fun d os' => d = thD { t with fr := s ++ [⟨f.fn, pc, f.ls⟩] } ∧ os' = []) := by
  refine Spec.frz (post' := fun d => d = thD { t with fr := s ++ [⟨f.fn, pc, f.ls⟩] }) ?_
  refine Spec.by Tryz.func104 rfl (by decide) (by decide +kernel) rfl ?_
  (refine goA ?_)
  refine Call.mk ((top190 t s f hs hl).only _ rfl (by rintro d rfl; rfl)) ?_
  rintro d os' ⟨rfl, rfl⟩
  (refine goA ?_)
  refine Call.mk ((with191 t s f ⟨f.fn, pc, f.ls⟩ hs hl).only _ rfl (by rintro d rfl; rfl)) ?_
  rintro d os' ⟨rfl, rfl⟩
  (refine goA ?_)
  refine Ret.mk [.cell 4 42] rfl ?_; (refine goA ?_)
  exact ⟨_, View.same _, rfl, rfl⟩
theorem get140 (t : Th) (s : List Fm) (f : Fm) (hs : t.fr = s ++ [f]) (hl : s.length ≤ 1000000) (i : Nat) (v : Int) (hv : f.ls[i]? = some v) : Spec Tryz.prog 169 [thD t, .int .i64 i] [] (fun d os' => d = .int .i64 v ∧ os' = []) := by
  refine Spec.by Tryz.func169 rfl (by decide) (by decide +kernel) rfl ?_
  (refine goA ?_)
  refine Call.mk ((top190 t s f hs hl).only _ rfl (by rintro d rfl; rfl)) ?_
  rintro d os' ⟨rfl, rfl⟩
  (refine goA ?_)
  refine Opt.of (get_map hv) ?_
  (refine goA ?_)
  refine Ret.trim 0 (by simp) rfl (Nat.le_of_ble_eq_true rfl) ?_
  refine Ret.mk [.tmp _] rfl ?_; refine And.intro ?_ rfl
  rfl
end Go.Proofs.YtkceciebmkklpaaGreat.V
end
section
namespace Go.Proofs.YtkceciebmkklpaaGreat.V
open Go Go.Proofs
set_option maxRecDepth 100000
set_option maxHeartbeats 4000000
theorem clone130o (xs : List Int) (hl : xs.length * 8 ≤ 140737488351232) (hx : xs ≠ []) : Spec Tryz.prog 80 [ints xs] [] (fun d os' => d = .sl 0 0 1 0 xs.length none ∧ os' = [rowI xs]) := by
  have hm : (xs.map (D.int .i64)) ≠ [] := fun e => hx (List.map_eq_nil_iff.1 e)
  refine Spec.by Tryz.func80 rfl (by decide) (by decide +kernel) rfl ?_
  (refine goA ?_)
  refine And.intro (fun hn => ?_) (fun hn => absurd hn hm)
  (refine goA ?_)
  refine App.own ?_
  (refine goA ?_)
  refine Ret.weak (Weak.shift 1 0 (by decide) (by simp) (Nat.le_of_ble_eq_true rfl) (Nat.le_of_ble_eq_true rfl) (fun j => by cases j <;> rfl) rfl) ?_
  refine Ret.trim 1 (by simp) rfl (Nat.le_of_ble_eq_true rfl) ?_
  refine Ret.mk [.tmp _] rfl (And.intro ?_ rfl)
  show D.sl 0 0 1 0 (0 + (xs.map (D.int .i64)).length) none = _
  simp
theorem set138 (t : Th) (s : List Fm) (f : Fm) (hs : t.fr = s ++ [f]) (hl : s.length ≤ 1000000) (hf : f.ls.length ≤ 1000000) (i : Nat) (hi : i < f.ls.length) (v : Int) : Spec Tryz.prog 171 [thD t, .int .i64 i, .int .i64 v] [] (fun d os' => d = thD { t with fr := s ++ [⟨f.fn, f.pc, f.ls.set i (keep v)⟩] } ∧ os' = []) := by
  refine Spec.frz (post' := fun d => d = thD { t with fr := s ++ [⟨f.fn, f.pc, f.ls.set i (keep v)⟩] }) ?_
  have hget : f.ls[0 + i]? = some (f.ls[i]) := by rw [Nat.zero_add]; exact List.getElem?_eq_getElem hi
  refine Spec.by Tryz.func171 rfl (by decide) (by decide +kernel) rfl ?_
  (refine goA ?_)
  refine Call.mk ((top190 t s f hs hl).only _ rfl (by rintro d rfl; rfl)) ?_
  rintro d os' ⟨rfl, rfl⟩
  (refine goA ?_)
  refine Call.mk ((clone130o f.ls (by omega) (fun e => by rw [e] at hi; simp at hi)).onto _ rfl) ?_
  rintro d os' ⟨d1, os1, ⟨rfl, rfl⟩, rfl, rfl⟩
  (refine goA ?_)
  refine Call.mk (keep35 v _) ?_
  rintro d os' ⟨rfl, rfl⟩
  (refine goA ?_)
  refine Opt.of (get_map hget) ?_
  (refine goR ?_)
  refine Pt.weak (Weak.frzO (fun i => Nat.beq i 3) [] 2 (ty := 116) (sz := 3) (es := [.agg [.int .i64 f.fn, .int .i64 f.pc, .sl 3 0 1 0 f.ls.length none]]) rfl rfl [frD ⟨f.fn, f.pc, f.ls.set i (keep v)⟩] rfl ?_ trivial) ?_
  · refine .cons (.agg (.cons (.same _) (.cons (.same _) (.cons (View.slAll rfl rfl (by simp) (by simp) ?_ (pureL_map (fun _ => rfl) _)) .nil)))) .nil
    have e : (f.ls.map (D.int .i64)).set (0 + i) (.int .i64 (keep v)) = (f.ls.set i (keep v)).map (D.int .i64) := by rw [Nat.zero_add, List.map_set]
    show ViewL _ _ ((f.ls.map (D.int .i64)).set (0 + i) (.int .i64 (keep v))) _
    rw [e]
    exact .same _
  (refine goA ?_)
  refine Call.mk ((with191 t s f ⟨f.fn, f.pc, f.ls.set i (keep v)⟩ hs hl).only _ rfl (by rintro d rfl; rfl)) ?_
  rintro d os' ⟨rfl, rfl⟩
  (refine goA ?_)
  refine Ret.mk [.cell 6 42] rfl ?_; (refine goA ?_)
  exact ⟨_, View.same _, rfl, rfl⟩
/-- What a thread does next. -/
def fetchI (g : Pg) (f : Fm) : (Int × Int) × Bool := match g.fu[f.fn.toNat]? with
  | none => ((0, 0), false)
  | some u => match u.code[f.pc.toNat]? with
    | none => ((0, 0), false)
    | some x => (x, true)
theorem at196 (g : Pg) (k : Nat) (u : Fu) (hu : g.fu[k]? = some u) (pc : Nat) : Spec Tryz.prog 158 [pgD g, .int .i64 k, .int .i64 pc] [] (fun d os' => d = .tup [inD (fetchI g ⟨k, pc, []⟩).1, .bool (fetchI g ⟨k, pc, []⟩).2] ∧ os' = []) := by
  refine Spec.frz (post' := fun d => d = .tup [inD (fetchI g ⟨k, pc, []⟩).1, .bool (fetchI g ⟨k, pc, []⟩).2]) ?_
  have hkl := (List.getElem?_eq_some_iff.1 hu).1
  have hkl' : k < (g.fu.map fuD).length := by rw [List.length_map]; exact hkl
  refine Spec.by Tryz.func158 rfl (by decide) (by decide +kernel) rfl ?_
  (refine goA ?_)
  refine Opt.of (get_map hu) ?_
  (refine goA ?_)
  refine Br.dec (fun h => ?_) (fun h => ?_)
  · (refine goA ?_)
    refine Ret.mk [.cell 6 65, .tmp 7] rfl ?_; (refine goA ?_)
    have hx : u.code[pc]? = none := List.getElem?_eq_none (by rw [List.length_map] at h; omega)
    have e : fetchI g ⟨k, pc, []⟩ = ((0, 0), false) := by unfold fetchI; dsimp only; rw [Int.toNat_natCast, hu]; dsimp only; rw [Int.toNat_natCast, hx]
    rw [e]
    exact ⟨_, View.same _, rfl, rfl⟩
  · obtain ⟨x, hx⟩ : ∃ x, u.code[pc]? = some x := ⟨_, List.getElem?_eq_getElem (by rw [List.length_map] at h; omega)⟩
    have e : fetchI g ⟨k, pc, []⟩ = (x, true) := by unfold fetchI; dsimp only; rw [Int.toNat_natCast, hu]; dsimp only; rw [Int.toNat_natCast, hx]
    (refine goA ?_)
    refine Opt.of (get_map hu) ?_
    (refine goA ?_)
    refine Opt.of (get_map hx) ?_
    (refine goA ?_)
    refine Ret.mk [.cell 6 65, .tmp 7] rfl ?_; (refine goA ?_)
    rw [e]
    exact ⟨_, View.same _, rfl, rfl⟩
theorem fetch161 (g : Pg) (t : Th) (s : List Fm) (k pc : Nat) (ls : List Int) (u : Fu) (hu : g.fu[k]? = some u) (hs : t.fr = s ++ [⟨k, pc, ls⟩]) (hl : s.length ≤ 1000000) : Spec Tryz.prog 103 [pgD g, thD t] [] (fun d os' => d = .tup [inD (fetchI g ⟨k, pc, []⟩).1, .bool (fetchI g ⟨k, pc, []⟩).2] ∧ os' = []) := by
  refine Spec.frz (post' := fun d => d = .tup [inD (fetchI g ⟨k, pc, []⟩).1, .bool (fetchI g ⟨k, pc, []⟩).2]) ?_
  refine Spec.by Tryz.func103 rfl (by decide) (by decide +kernel) rfl ?_
  (refine goA ?_)
  refine Call.mk ((top190 t s ⟨k, pc, ls⟩ hs hl).only _ rfl (by rintro d rfl; rfl)) ?_
  rintro d os' ⟨rfl, rfl⟩
  (refine goA ?_)
  refine Call.mk ((at196 g k u hu pc).only _ rfl (by rintro d rfl; rfl)) ?_
  rintro d os' ⟨rfl, rfl⟩
  (refine goA ?_)
  refine Ret.mk [.cell 4 65, .tmp 5] rfl ?_; (refine goA ?_)
  exact ⟨_, View.same _, rfl, rfl⟩
end Go.Proofs.YtkceciebmkklpaaGreat.V
end
section
namespace Go.Proofs.YtkceciebmkklpaaGreat.V
open Go Go.Proofs
set_option maxRecDepth 100000
set_option maxHeartbeats 4000000
mutual
theorem lt_pure (n : Nat) : ∀ (d : D), d.pure = true → d.lt n = true
  | .agg cs, h => ltL_pure n cs h
  | .tup cs, h => ltL_pure n cs h
  | .fn g x y, h => by
    have h' : D.pureL x = true ∧ D.pureL y = true := by simpa [D.pure] using h
    simp [D.lt, ltL_pure n x h'.1, ltL_pure n y h'.2]
  | .ptr .., h | .sl .., h | .mp .., h | .yl .., h => by simp [D.pure] at h
  | .int .., _ | .bool _, _ | .str _, _ | .nilp, _ | .nils, _ | .nilf, _ | .junk, _ | .pel .., _ | .lst .., _ => rfl
theorem ltL_pure (n : Nat) : ∀ (ds : List D), D.pureL ds = true → D.ltL n ds = true
  | [], _ => rfl
  | d :: ds, h => by
    have h' : d.pure = true ∧ D.pureL ds = true := by simpa [D.pureL] using h
    simp [D.ltL, lt_pure n d h'.1, ltL_pure n ds h'.2]
end
/-- A row that names nothing may come to name something. -/
theorem Weak.unpure {n0 : Nat} {m : List (Nat × D)} {os : Objs} (k : Nat) {ty : TypeId} {sz : Nat} {es : List D} (hk : os.at k 0 = .row ty sz true es) : Weak n0 { m := m, objs := os } { m := m, objs := os.put k 0 (.row ty sz false es) } := by
  intro ρ I w tm h1 h2 h3
  have hs := h1.retell (k := k) (by show os.at k 0 ≠ _; rw [hk]; simp) (.row ty sz false es) (fun p hp hok => by
    have hok' : objOk ρ I w p (os.at k 0) := hok
    rw [hk] at hok'
    obtain ⟨c1, c2, c3⟩ := hok'
    refine ⟨c1, c2, fun hpos => ?_⟩
    obtain ⟨arr, us, g1, g2, g3, g4, g5⟩ := c3 hpos
    exact ⟨arr, us, g1, g2, repL_bot g3, g4, g5⟩)
  exact ⟨ρ, I, hs.1, h2, Im.le_refl _, by show n0 ≤ (os.put _ _ _).length; rw [length_put]; exact h3, fun _ _ _ => rfl, fun _ h => .inl h, hs.2⟩
end Go.Proofs.YtkceciebmkklpaaGreat.V
end
section
namespace Go.Proofs.YtkceciebmkklpaaGreat.V
open Go Go.Proofs
set_option maxRecDepth 100000
set_option maxHeartbeats 40000000
theorem pop52e (t : Th) (hs : t.sk = []) : Spec Tryz.prog 214 [thD t] [] (fun d os' => d = .tup [thD t, .int .i64 0, .bool false] ∧ os' = []) := by
  refine Spec.frz (post' := fun d => d = .tup [thD t, .int .i64 0, .bool false]) ?_
  have hlen : (t.sk.map (D.int .i64)).length = 0 := by rw [hs]; rfl
  refine Spec.by Tryz.func214 rfl (by decide) (by decide +kernel) rfl ?_
  (refine goA ?_)
  refine Ret.mk [.cell 2 42, .tmp 3, .tmp 4] rfl ?_; (refine goA ?_)
  exact ⟨_, View.same _, rfl, rfl⟩
/-- A thread that deeds may be done to. -/
structure KT (g : Pg) (x : Th) : Prop where
  fl : 1 ≤ x.fr.length ∧ x.fr.length ≤ 8
  sl : x.sk.length ≤ 16
  fr : ∀ f ∈ x.fr, oddF g f = false
theorem KT.okB {g : Pg} (hg : GoodP g) {x : Th} (hx : KT g x) : x.okB := ⟨by have := hx.fl; omega, by have := hx.sl; omega, fun f hf => by have := odd_ls hg (hx.fr f hf); omega⟩
theorem KT.push {g : Pg} {x : Th} (hx : KT g x) (v : Int) : KT g (pushT x v).1 := by
  unfold pushT
  split
  · exact hx
  · exact ⟨hx.fl, by have := hx.sl; simp; omega, hx.fr⟩
theorem KT.enter {g : Pg} {x : Th} (hx : KT g x) (f : Fm) (hf : oddF g f = false) : KT g (enterT x f).1 := by
  unfold enterT
  split
  · exact hx
  · refine ⟨by have := hx.fl; simp; omega, hx.sl, fun y hy => ?_⟩
    rcases List.mem_append.1 hy with hy | hy
    · exact hx.fr y hy
    · simp only [List.mem_singleton] at hy; subst hy; exact hf
theorem odd_inv {g : Pg} {f : Fm} (h : oddF g f = false) : ∃ (k pc : Nat) (u : Fu), f.fn = k ∧ f.pc = pc ∧ g.fu[k]? = some u ∧ pc ≤ u.code.length ∧ (f.ls.length : Int) = u.loc ∧ kept f.ls = true := by
  unfold oddF at h
  split at h
  · simp at h
  · rename_i h0
    split at h
    · simp at h
    · rename_i u hu
      simp at h
      exact ⟨f.fn.toNat, f.pc.toNat, u, by omega, by omega, hu, by omega, by omega, h.2⟩
end Go.Proofs.YtkceciebmkklpaaGreat.V
end
section
namespace Go.Proofs.YtkceciebmkklpaaGreat.V
open Go Go.Proofs
set_option maxRecDepth 100000
set_option maxHeartbeats 40000000
/-- A request. -/
structure Rq where
  kd : Int
  a : Int
  v : Int
deriving DecidableEq
def rqD (q : Rq) : D := .agg [.int .i64 q.kd, .int .i64 q.a, .int .i64 q.v]
/-- A machine. -/
@[reducible] def mD (g : Pg) (t : Th) (a e : Int) (q : Rq) : D := .agg [.lst 2 false (g.fu.map fuD), .int .i64 g.mu, ints g.co, ints g.se, ints g.ch, .lst 1 false (g.cs.map ints), .int .i64 g.th, .int .i64 t.st, .int .i64 t.on, .lst 3 false (t.fr.map frD), ints t.sk, .int .i64 t.code, .int .i64 a, .int .i64 e, .int .i64 q.kd, .int .i64 q.a, .int .i64 q.v]
@[reducible] def mO (g : Pg) (t : Th) (a e : Int) (q : Rq) : Fam := one (.row 154 17 false [mD g t a e q])
def underE (e : Int) (b : Bool) (c : Int) : Int := if b = false ∧ e < 0 then c else e
/-- What is popped. -/
def popM (t : Th) : Th × Int × Bool := match t.sk.getLast? with
  | none => (t, 0, false)
  | some v => ({ t with sk := t.sk.dropLast }, v, true)
theorem popM_nil {t : Th} (h : t.sk = []) : popM t = (t, 0, false) := by unfold popM; rw [h]; rfl
theorem popM_snoc {t : Th} {s : List Int} {v : Int} (h : t.sk = s ++ [v]) : popM t = ({ t with sk := s }, v, true) := by unfold popM; rw [h]; simp
theorem pop52m (t : Th) (hl : t.sk.length ≤ 1000000) : Spec Tryz.prog 214 [thD t] [] (fun d os' => d = .tup [thD (popM t).1, .int .i64 (popM t).2.1, .bool (popM t).2.2] ∧ os' = []) := by
  by_cases hk : t.sk = []
  · rw [popM_nil hk]; exact pop52e t hk
  · obtain ⟨l, n, hln⟩ : ∃ l n, t.sk = l ++ [n] := ⟨t.sk.dropLast, t.sk.getLast hk, (List.dropLast_concat_getLast hk).symm⟩
    rw [popM_snoc hln]
    exact pop52 t l n hln (by have : t.sk.length = l.length + 1 := by rw [hln]; simp
                              omega)
theorem mpop199 (g : Pg) (t : Th) (a e : Int) (q : Rq) (hl : t.sk.length ≤ 1000000) : Spec Tryz.prog 163 [.ptr 0 0 17 0 0] [mO g t a e q] (fun d os' => ∃ y, (d = .int .i64 (popM t).2.1 ∧ y = mD g (popM t).1 a (underE e (popM t).2.2 1) q) ∧ os' = [one (.row 154 17 false [y])]) := by
  refine Spec.by Tryz.func163 rfl (by decide) (by decide +kernel) rfl ?_
  (refine goA ?_)
  refine Call.mk ((pop52m t hl).only _ rfl (by rintro d rfl; rfl)) ?_
  rintro d os' ⟨rfl, rfl⟩
  generalize popM t = p
  obtain ⟨t', v, b⟩ := p
  dsimp only
  (refine goA ?_)
  cases b with
  | true =>
    (refine goA ?_)
    refine Ret.trim 1 (by simp) rfl (Nat.le_of_ble_eq_true rfl) ?_
    refine Ret.mk [.tmp 2] rfl ?_; (refine goA ?_)
    exact ⟨_, ⟨rfl, by simp [underE]⟩, rfl⟩
  | false =>
    (refine goA ?_)
    refine Br.dec (fun h => ?_) (fun h => ?_)
    · (refine goA ?_)
      refine Ret.trim 1 (by simp) rfl (Nat.le_of_ble_eq_true rfl) ?_
      refine Ret.mk [.tmp 2] rfl ?_; (refine goA ?_)
      exact ⟨_, ⟨rfl, by simp [underE, h]⟩, rfl⟩
    · (refine goA ?_)
      refine Ret.trim 1 (by simp) rfl (Nat.le_of_ble_eq_true rfl) ?_
      refine Ret.mk [.tmp 2] rfl ?_; (refine goA ?_)
      exact ⟨_, ⟨rfl, by simp [underE, h]⟩, rfl⟩
/-- Numbers are pushed. -/
def pushL (t : Th) (e : Int) : List Int → Th × Int
  | [] => (t, e)
  | v :: l => pushL (pushT t v).1 (underE e (pushT t v).2 2) l
theorem pushL_snoc (v : Int) : ∀ (l : List Int) (t : Th) (e : Int), pushL t e (l ++ [v]) = ((pushT (pushL t e l).1 v).1, underE (pushL t e l).2 (pushT (pushL t e l).1 v).2 2)
  | [], t, e => rfl
  | x :: l, t, e => by simp only [List.cons_append, pushL]; rw [pushL_snoc v l]
theorem pushT_sk (t : Th) (v : Int) (h : t.sk.length ≤ 16) : (pushT t v).1.sk.length ≤ 16 := by
  unfold pushT
  split
  · exact h
  · simp; omega
theorem pushL_sk : ∀ (l : List Int) (t : Th) (e : Int), t.sk.length ≤ 16 → (pushL t e l).1.sk.length ≤ 16
  | [], t, e, h => h
  | v :: l, t, e, h => by simp only [pushL]; exact pushL_sk l _ _ (pushT_sk t v h)
theorem mpush168 (g : Pg) (t : Th) (a e : Int) (q : Rq) (l : List Int) (hsk : t.sk.length ≤ 16) (hl : l.length ≤ 1000000) : Spec Tryz.prog 161 [.ptr 0 0 17 0 0, ints l] [mO g t a e q] (fun d os' => ∃ y, (d = .tup [] ∧ y = mD g (pushL t e l).1 a (pushL t e l).2 q) ∧ os' = [one (.row 154 17 false [y])]) := by
  have hlm : (l.map (D.int .i64)).length = l.length := List.length_map ..
  refine Spec.by Tryz.func161 rfl (by decide) (by decide +kernel) rfl ?_
  (refine goA ?_)
  refine Loop.inv (A := Nat) (List.range 40) (fun i => [(0, .ptr 0 0 17 0 0), (8, ints l), (9, .int .i64 ((l.map (D.int .i64)).length : Int)), (10, .int .i64 (i : Int))]) (fun i => [mO g (pushL t e (l.take i)).1 a (pushL t e (l.take i)).2 q]) (fun i => i ≤ l.length) (fun i => l.length - i) 0 (Nat.zero_le _) ?_ ?_
  · exact Weak.start' rfl rfl tld
  intro i hi
  (refine goA ?_)
  refine Br.dec (fun h => ?_) (fun h => ?_)
  · have hil : i < l.length := by omega
    have hget : l[i]? = some l[i] := List.getElem?_eq_getElem hil
    have htk : l.take (i + 1) = l.take i ++ [l[i]] := by rw [List.take_add_one, hget]; rfl
    have hp := pushL_sk (l.take i) t e hsk
    (refine goA ?_)
    refine Opt.of (get_map hget) ?_
    (refine goA ?_)
    refine Call.mk ((push40 (pushL t e (l.take i)).1 l[i] (by omega)).only _ rfl (by rintro d rfl; rfl)) ?_
    rintro d os' ⟨rfl, rfl⟩
    have hsn := pushL_snoc l[i] (l.take i) t e
    rw [← htk] at hsn
    obtain ⟨u, b, hub⟩ : ∃ u b, pushT (pushL t e (l.take i)).1 l[i] = (u, b) := ⟨_, _, rfl⟩
    rw [hub] at hsn ⊢
    dsimp only at hsn ⊢
    have fin : ∀ e' : Int, e' = underE (pushL t e (l.take i)).2 b 2 → (one (.row 154 17 false [mD g u a e' q]) : Fam) = mO g (pushL t e (l.take (i + 1))).1 a (pushL t e (l.take (i + 1))).2 q := by
      intro e' he
      rw [hsn, he]
    cases b with
    | true =>
      (refine goA ?_)
      refine ⟨_, _, _, ?_, ⟨i + 1, ?_, rfl, rfl, rfl⟩, ?_⟩
      · omega
      · omega
      · refine Weak.backT 1 (by simp) ?_ (by kernel_rfl) (Nat.le_of_ble_eq_true rfl) tld (by kernel_rfl) (by kernel_rfl)
        exact congrArg (fun r => ([r] : Objs)) (fin _ (by simp [underE]))
    | false =>
      (refine goA ?_)
      refine Br.dec (fun h2 => ?_) (fun h2 => ?_)
      · (refine goA ?_)
        refine ⟨_, _, _, ?_, ⟨i + 1, ?_, rfl, rfl, rfl⟩, ?_⟩
        · omega
        · omega
        · refine Weak.backT 1 (by simp) ?_ (by kernel_rfl) (Nat.le_of_ble_eq_true rfl) tld (by kernel_rfl) (by kernel_rfl)
          exact congrArg (fun r => ([r] : Objs)) (fin _ (by simp [underE, h2]))
      · (refine goA ?_)
        refine ⟨_, _, _, ?_, ⟨i + 1, ?_, rfl, rfl, rfl⟩, ?_⟩
        · omega
        · omega
        · refine Weak.backT 1 (by simp) ?_ (by kernel_rfl) (Nat.le_of_ble_eq_true rfl) tld (by kernel_rfl) (by kernel_rfl)
          exact congrArg (fun r => ([r] : Objs)) (fin _ (by simp [underE, h2]))
  · have hil : i = l.length := by omega
    subst hil
    (refine goA ?_)
    refine Ret.trim 1 (by simp) rfl (Nat.le_of_ble_eq_true rfl) ?_
    refine Ret.mk [] rfl ⟨_, ⟨rfl, ?_⟩, rfl⟩
    rw [List.take_length]
end Go.Proofs.YtkceciebmkklpaaGreat.V
end
section
namespace Go.Proofs.YtkceciebmkklpaaGreat.V
open Go Go.Proofs
set_option maxRecDepth 100000
set_option maxHeartbeats 40000000
/-- What a closure makes of a machine. -/
@[reducible] def MP (g : Pg) (a : Int) (p : Th × Int) (q : Rq) : D → Objs → Prop := fun d os' => ∃ y, (d = .tup [] ∧ y = mD g p.1 a p.2 q) ∧ os' = [one (.row 154 17 false [y])]
@[reducible] def popE (t : Th) (e : Int) : Th × Int := ((popM t).1, underE e (popM t).2.2 1)
theorem popM_sk (t : Th) : (popM t).1.sk.length ≤ t.sk.length := by
  unfold popM
  split
  · exact Nat.le_refl _
  · simp
theorem popM_fr (t : Th) : (popM t).1.fr = t.fr := by
  unfold popM
  split <;> rfl
theorem c197 (g : Pg) (t : Th) (a e : Int) (q : Rq) (h : t.sk.length ≤ 16) : Spec Tryz.prog 160 [.ptr 0 0 17 0 0] [mO g t a e q] (MP g a (pushL t e [a]) q) := by
  refine Spec.by Tryz.func160 rfl (by decide) (by decide +kernel) rfl ?_
  (refine goA ?_)
  refine App.only false rfl rfl ?_
  (refine goA ?_)
  refine Call.mk ((mpush168 g t a e q [a] h (by simp)).cellAt 0 _ rfl (fun j hj => one_pos _ hj) rfl rfl (by rintro d y ⟨rfl, rfl⟩; exact ⟨rfl, rfl⟩)) ?_; rintro d os' ⟨y, ⟨rfl, rfl⟩, rfl⟩
  (refine goA ?_)
  refine Ret.trim 1 (by simp) rfl (Nat.le_of_ble_eq_true rfl) ?_
  exact Ret.mk [] rfl (by (conv => whnf); exact ⟨_, ⟨rfl, rfl⟩, rfl⟩)
theorem c198 (g : Pg) (t : Th) (a e : Int) (q : Rq) (h : t.sk.length ≤ 16) : Spec Tryz.prog 162 [.ptr 0 0 17 0 0] [mO g t a e q] (MP g a (popE t e) q) := by
  refine Spec.by Tryz.func162 rfl (by decide) (by decide +kernel) rfl ?_
  (refine goA ?_)
  refine Call.mk ((mpop199 g t a e q (by omega)).cellAt 0 _ rfl (fun j hj => one_pos _ hj) rfl rfl (by rintro d y ⟨rfl, rfl⟩; exact ⟨rfl, rfl⟩)) ?_; rintro d os' ⟨y, ⟨rfl, rfl⟩, rfl⟩
  (refine goA ?_)
  refine Ret.trim 1 (by simp) rfl (Nat.le_of_ble_eq_true rfl) ?_
  exact Ret.mk [] rfl (by (conv => whnf); exact ⟨_, ⟨rfl, rfl⟩, rfl⟩)
theorem c200 (g : Pg) (t : Th) (a e : Int) (q : Rq) (h : t.sk.length ≤ 16) : Spec Tryz.prog 164 [.ptr 0 0 17 0 0] [mO g t a e q] (MP g a (pushL (popE t e).1 (popE t e).2 [(popM t).2.1, (popM t).2.1]) q) := by
  have hp := popM_sk t
  refine Spec.by Tryz.func164 rfl (by decide) (by decide +kernel) rfl ?_
  (refine goA ?_)
  refine Call.mk ((mpop199 g t a e q (by omega)).cellAt 0 _ rfl (fun j hj => one_pos _ hj) rfl rfl (by rintro d y ⟨rfl, rfl⟩; exact ⟨rfl, rfl⟩)) ?_; rintro d os' ⟨y, ⟨rfl, rfl⟩, rfl⟩
  (refine goA ?_)
  refine App.only false rfl rfl ?_
  (refine goA ?_)
  refine Call.mk ((mpush168 g (popM t).1 a (underE e (popM t).2.2 1) q [(popM t).2.1, (popM t).2.1] (by omega) (by simp)).cellAt 0 _ rfl (fun j hj => one_pos _ hj) rfl rfl (by rintro d y ⟨rfl, rfl⟩; exact ⟨rfl, rfl⟩)) ?_; rintro d os' ⟨y, ⟨rfl, rfl⟩, rfl⟩
  (refine goA ?_)
  refine Ret.trim 1 (by simp) rfl (Nat.le_of_ble_eq_true rfl) ?_
  exact Ret.mk [] rfl (by (conv => whnf); exact ⟨_, ⟨rfl, rfl⟩, rfl⟩)
theorem c201 (n : Nat) : Spec Tryz.prog 165 [.fn (.func n) [] []] [] (fun d os' => d = .fn (.func 215) [] [.pel (.fn (.func n) [] []) 0] ∧ os' = []) := by
  refine Spec.frz (post' := fun d => d = .fn (.func 215) [] [.pel (.fn (.func n) [] []) 0]) ?_
  refine Spec.by Tryz.func165 rfl (by decide) (by decide +kernel) rfl ?_
  (refine goA ?_)
  refine Ret.mk [.tmp 2] rfl ?_; (refine goA ?_)
  exact ⟨_, View.fn .nil (.cons (View.ptr rfl rfl rfl (.same _) rfl) .nil), rfl, rfl⟩
theorem c202 (x y : Int) (hx : -1073741824 ≤ x ∧ x ≤ 1073741824) (hy : -1073741824 ≤ y ∧ y ≤ 1073741824) : Spec Tryz.prog 166 [.int .i64 x, .int .i64 y] [] (fun d os' => d = .int .i64 (x + y) ∧ os' = []) := by
  refine Spec.by Tryz.func166 rfl (by decide) (by decide +kernel) rfl ?_
  (refine goA ?_)
  refine Ret.mk [.tmp _] rfl ?_; refine And.intro ?_ rfl
  rfl
theorem c203 (x y : Int) (hx : -1073741824 ≤ x ∧ x ≤ 1073741824) (hy : -1073741824 ≤ y ∧ y ≤ 1073741824) : Spec Tryz.prog 167 [.int .i64 x, .int .i64 y] [] (fun d os' => d = .int .i64 (x - y) ∧ os' = []) := by
  refine Spec.by Tryz.func167 rfl (by decide) (by decide +kernel) rfl ?_
  (refine goA ?_)
  refine Ret.mk [.tmp _] rfl ?_; refine And.intro ?_ rfl
  rfl
theorem c227 (n : Nat) (F : Int → Int → Int) (g : Pg) (t : Th) (a e : Int) (q : Rq) (h : t.sk.length ≤ 16)
    (hF : Spec Tryz.prog n [.int .i64 (popM (popM t).1).2.1, .int .i64 (popM t).2.1] [] (fun d os' => d = .int .i64 (F (popM (popM t).1).2.1 (popM t).2.1) ∧ os' = [])) :
    Spec Tryz.prog 215 [.ptr 0 0 17 0 0, .pel (.fn (.func n) [] []) 0] [mO g t a e q] (MP g a (pushL (popM (popM t).1).1 (underE (underE e (popM t).2.2 1) (popM (popM t).1).2.2 1) [F (popM (popM t).1).2.1 (popM t).2.1]) q) := by
  have hp := popM_sk t
  have hp2 := popM_sk (popM t).1
  refine Spec.by Tryz.func215 rfl (by decide) (by decide +kernel) rfl ?_
  (refine goA ?_)
  refine Call.mk ((mpop199 g t a e q (by omega)).cellAt 0 _ rfl (fun j hj => one_pos _ hj) rfl rfl (by rintro d y ⟨rfl, rfl⟩; exact ⟨rfl, rfl⟩)) ?_; rintro d os' ⟨y, ⟨rfl, rfl⟩, rfl⟩
  (refine goA ?_)
  refine Call.mk ((mpop199 g (popM t).1 a (underE e (popM t).2.2 1) q (by omega)).cellAt 0 _ rfl (fun j hj => one_pos _ hj) rfl rfl (by rintro d y ⟨rfl, rfl⟩; exact ⟨rfl, rfl⟩)) ?_; rintro d os' ⟨y, ⟨rfl, rfl⟩, rfl⟩
  (refine goA ?_)
  refine Call.mk ((hF).only _ rfl (by rintro d rfl; rfl)) ?_; rintro d os' ⟨rfl, rfl⟩
  (refine goA ?_)
  refine App.only false rfl rfl ?_
  (refine goA ?_)
  refine Call.mk ((mpush168 g (popM (popM t).1).1 a (underE (underE e (popM t).2.2 1) (popM (popM t).1).2.2 1) q [F (popM (popM t).1).2.1 (popM t).2.1] (by omega) (by simp)).cellAt 0 _ rfl (fun j hj => one_pos _ hj) rfl rfl (by rintro d y ⟨rfl, rfl⟩; exact ⟨rfl, rfl⟩)) ?_; rintro d os' ⟨y, ⟨rfl, rfl⟩, rfl⟩
  (refine goA ?_)
  refine Ret.trim 1 (by simp) rfl (Nat.le_of_ble_eq_true rfl) ?_
  exact Ret.mk [] rfl (by (conv => whnf); exact ⟨_, ⟨rfl, rfl⟩, rfl⟩)
theorem c204 (g : Pg) (t : Th) (a e : Int) (q : Rq) (h : t.sk.length ≤ 16) (s : List Fm) (f : Fm) (hs : t.fr = s ++ [f]) (hl : s.length ≤ 1000000) (i : Nat) (hi : a = i) (v : Int) (hv : f.ls[i]? = some v) : Spec Tryz.prog 168 [.ptr 0 0 17 0 0] [mO g t a e q] (MP g a (pushL t e [v]) q) := by
  subst hi
  refine Spec.by Tryz.func168 rfl (by decide) (by decide +kernel) rfl ?_
  (refine goA ?_)
  refine Call.mk ((get140 t s f hs hl i v hv).only _ rfl (by rintro d rfl; rfl)) ?_; rintro d os' ⟨rfl, rfl⟩
  (refine goA ?_)
  refine App.only false rfl rfl ?_
  (refine goA ?_)
  refine Call.mk ((mpush168 g t i e q [v] h (by simp)).cellAt 0 _ rfl (fun j hj => one_pos _ hj) rfl rfl (by rintro d y ⟨rfl, rfl⟩; exact ⟨rfl, rfl⟩)) ?_; rintro d os' ⟨y, ⟨rfl, rfl⟩, rfl⟩
  (refine goA ?_)
  refine Ret.trim 1 (by simp) rfl (Nat.le_of_ble_eq_true rfl) ?_
  exact Ret.mk [] rfl (by (conv => whnf); exact ⟨_, ⟨rfl, rfl⟩, rfl⟩)
theorem c205 (g : Pg) (t : Th) (a e : Int) (q : Rq) (h : t.sk.length ≤ 16) (s : List Fm) (f : Fm) (hs : t.fr = s ++ [f]) (hl : s.length ≤ 1000000) (hf : f.ls.length ≤ 1000000) (i : Nat) (hi : a = i) (hil : i < f.ls.length) : Spec Tryz.prog 170 [.ptr 0 0 17 0 0] [mO g t a e q] (MP g a ({ (popM t).1 with fr := s ++ [⟨f.fn, f.pc, f.ls.set i (keep (popM t).2.1)⟩] }, underE e (popM t).2.2 1) q) := by
  subst hi
  refine Spec.by Tryz.func170 rfl (by decide) (by decide +kernel) rfl ?_
  (refine goA ?_)
  refine Call.mk ((mpop199 g t i e q (by omega)).cellAt 0 _ rfl (fun j hj => one_pos _ hj) rfl rfl (by rintro d y ⟨rfl, rfl⟩; exact ⟨rfl, rfl⟩)) ?_; rintro d os' ⟨y, ⟨rfl, rfl⟩, rfl⟩
  (refine goA ?_)
  refine Call.mk ((set138 (popM t).1 s f (by rw [popM_fr]; exact hs) hl hf i hil (popM t).2.1).only _ rfl (by rintro d rfl; rfl)) ?_; rintro d os' ⟨rfl, rfl⟩
  (refine goA ?_)
  refine Ret.trim 1 (by simp) rfl (Nat.le_of_ble_eq_true rfl) ?_
  exact Ret.mk [] rfl (by (conv => whnf); exact ⟨_, ⟨rfl, rfl⟩, rfl⟩)
theorem c206 (g : Pg) (t : Th) (a e : Int) (q : Rq) (s : List Fm) (f : Fm) (hs : t.fr = s ++ [f]) (hl : s.length ≤ 1000000) : Spec Tryz.prog 172 [.ptr 0 0 17 0 0] [mO g t a e q] (MP g a ({ t with fr := s ++ [⟨f.fn, a, f.ls⟩] }, e) q) := by
  refine Spec.by Tryz.func172 rfl (by decide) (by decide +kernel) rfl ?_
  (refine goA ?_)
  refine Call.mk ((jump136 t s f hs hl a).only _ rfl (by rintro d rfl; rfl)) ?_; rintro d os' ⟨rfl, rfl⟩
  (refine goA ?_)
  refine Ret.trim 1 (by simp) rfl (Nat.le_of_ble_eq_true rfl) ?_
  exact Ret.mk [] rfl (by (conv => whnf); exact ⟨_, ⟨rfl, rfl⟩, rfl⟩)
theorem c207 (g : Pg) (t : Th) (a e : Int) (q : Rq) (h : t.sk.length ≤ 16) (s : List Fm) (f : Fm) (hs : t.fr = s ++ [f]) (hl : s.length ≤ 1000000) : Spec Tryz.prog 173 [.ptr 0 0 17 0 0] [mO g t a e q] (MP g a (if (popM t).2.1 = 0 then { (popM t).1 with fr := s ++ [⟨f.fn, a, f.ls⟩] } else (popM t).1, underE e (popM t).2.2 1) q) := by
  refine Spec.by Tryz.func173 rfl (by decide) (by decide +kernel) rfl ?_
  (refine goA ?_)
  refine Call.mk ((mpop199 g t a e q (by omega)).cellAt 0 _ rfl (fun j hj => one_pos _ hj) rfl rfl (by rintro d y ⟨rfl, rfl⟩; exact ⟨rfl, rfl⟩)) ?_; rintro d os' ⟨y, ⟨rfl, rfl⟩, rfl⟩
  (refine goA ?_)
  refine Br.dec (fun h0 => ?_) (fun h0 => ?_)
  · (refine goA ?_)
    refine Call.mk ((jump136 (popM t).1 s f (by rw [popM_fr]; exact hs) hl a).only _ rfl (by rintro d rfl; rfl)) ?_; rintro d os' ⟨rfl, rfl⟩
    (refine goA ?_)
    refine Ret.trim 1 (by simp) rfl (Nat.le_of_ble_eq_true rfl) ?_
    rw [if_pos h0]
    exact Ret.mk [] rfl (by (conv => whnf); exact ⟨_, ⟨rfl, rfl⟩, rfl⟩)
  · (refine goA ?_)
    refine Ret.trim 1 (by simp) rfl (Nat.le_of_ble_eq_true rfl) ?_
    rw [if_neg h0]
    exact Ret.mk [] rfl (by (conv => whnf); exact ⟨_, ⟨rfl, rfl⟩, rfl⟩)
theorem c208 (g : Pg) (t : Th) (a e : Int) (q : Rq) (k : Nat) (u : Fu) (ha : a = k) (hu : g.fu[k]? = some u) (h0 : 0 ≤ u.loc ∧ u.loc ≤ 100) (hl : t.fr.length ≤ 1000000) : Spec Tryz.prog 174 [.ptr 0 0 17 0 0] [mO g t a e q] (MP g a ((enterT t ⟨k, 0, List.replicate u.loc.toNat 0⟩).1, if (enterT t ⟨k, 0, List.replicate u.loc.toNat 0⟩).2 then e else 3) q) := by
  subst ha
  refine Spec.by Tryz.func174 rfl (by decide) (by decide +kernel) rfl ?_
  (refine goA ?_)
  refine Call.mk ((enter39 g t k u hu h0 (by omega)).only _ rfl (by rintro d rfl; rfl)) ?_; rintro d os' ⟨rfl, rfl⟩
  obtain ⟨t', b, hb⟩ : ∃ t' b, enterT t ⟨k, 0, List.replicate u.loc.toNat 0⟩ = (t', b) := ⟨_, _, rfl⟩
  rw [hb]
  cases b with
  | true =>
    (refine goA ?_)
    refine Ret.trim 1 (by simp) rfl (Nat.le_of_ble_eq_true rfl) ?_
    exact Ret.mk [] rfl (by (conv => whnf); exact ⟨_, ⟨rfl, rfl⟩, rfl⟩)
  | false =>
    (refine goA ?_)
    refine Ret.trim 1 (by simp) rfl (Nat.le_of_ble_eq_true rfl) ?_
    exact Ret.mk [] rfl (by (conv => whnf); exact ⟨_, ⟨rfl, rfl⟩, rfl⟩)
theorem c209 (g : Pg) (t : Th) (a e : Int) (q : Rq) (s : List Fm) (f : Fm) (hs : t.fr = s ++ [f]) (hl : s.length ≤ 1000000) : Spec Tryz.prog 175 [.ptr 0 0 17 0 0] [mO g t a e q] (MP g a ({ t with fr := s }, if s = [] then 0 else e) q) := by
  have hlm : (t.fr.map frD).length = s.length + 1 := by rw [List.length_map, hs]; simp
  refine Spec.by Tryz.func175 rfl (by decide) (by decide +kernel) rfl ?_
  (refine goA ?_)
  refine Call.mk ((leave54 t s f hs hl).only _ rfl (by rintro d rfl; rfl)) ?_; rintro d os' ⟨rfl, rfl⟩
  by_cases h : s = []
  · have hb : decide (0 < (((t.fr.map frD).length : Nat) : Int) - 1) = false := decide_eq_false (by rw [hlm, h]; simp)
    rw [hb, if_pos h]
    (refine goA ?_)
    refine Ret.trim 1 (by simp) rfl (Nat.le_of_ble_eq_true rfl) ?_
    exact Ret.mk [] rfl (by (conv => whnf); exact ⟨_, ⟨rfl, rfl⟩, rfl⟩)
  · have hb : decide (0 < (((t.fr.map frD).length : Nat) : Int) - 1) = true := decide_eq_true (by have := List.length_pos_iff.2 h; omega)
    rw [hb, if_neg h]
    (refine goA ?_)
    refine Ret.trim 1 (by simp) rfl (Nat.le_of_ble_eq_true rfl) ?_
    exact Ret.mk [] rfl (by (conv => whnf); exact ⟨_, ⟨rfl, rfl⟩, rfl⟩)
theorem c210 (g : Pg) (t : Th) (a e : Int) (q : Rq) : Spec Tryz.prog 176 [.ptr 0 0 17 0 0] [mO g t a e q] (MP g a (t, 0) q) := by
  refine Spec.by Tryz.func176 rfl (by decide) (by decide +kernel) rfl ?_
  (refine goA ?_)
  refine Ret.trim 1 (by simp) rfl (Nat.le_of_ble_eq_true rfl) ?_
  exact Ret.mk [] rfl (by (conv => whnf); exact ⟨_, ⟨rfl, rfl⟩, rfl⟩)
theorem c211 (k : Int) : Spec Tryz.prog 177 [.int .i64 k] [] (fun d os' => d = .fn (.func 218) [] [.pel (.int .i64 k) 0] ∧ os' = []) := by
  refine Spec.frz (post' := fun d => d = .fn (.func 218) [] [.pel (.int .i64 k) 0]) ?_
  refine Spec.by Tryz.func177 rfl (by decide) (by decide +kernel) rfl ?_
  (refine goA ?_)
  refine Ret.mk [.tmp 2] rfl ?_; (refine goA ?_)
  exact ⟨_, View.fn .nil (.cons (View.ptr rfl rfl rfl (.same _) rfl) .nil), rfl, rfl⟩
theorem c212 (k : Int) : Spec Tryz.prog 178 [.int .i64 k] [] (fun d os' => d = .fn (.func 219) [] [.pel (.int .i64 k) 0] ∧ os' = []) := by
  refine Spec.frz (post' := fun d => d = .fn (.func 219) [] [.pel (.int .i64 k) 0]) ?_
  refine Spec.by Tryz.func178 rfl (by decide) (by decide +kernel) rfl ?_
  (refine goA ?_)
  refine Ret.mk [.tmp 2] rfl ?_; (refine goA ?_)
  exact ⟨_, View.fn .nil (.cons (View.ptr rfl rfl rfl (.same _) rfl) .nil), rfl, rfl⟩
theorem c228 (k : Int) (g : Pg) (t : Th) (a e : Int) (q : Rq) : Spec Tryz.prog 218 [.ptr 0 0 17 0 0, .pel (.int .i64 k) 0] [mO g t a e q] (MP g a (t, e) ⟨k, a, 0⟩) := by
  refine Spec.by Tryz.func218 rfl (by decide) (by decide +kernel) rfl ?_
  (refine goA ?_)
  refine Ret.trim 1 (by simp) rfl (Nat.le_of_ble_eq_true rfl) ?_
  exact Ret.mk [] rfl (by (conv => whnf); exact ⟨_, ⟨rfl, rfl⟩, rfl⟩)
theorem c229 (k : Int) (g : Pg) (t : Th) (a e : Int) (q : Rq) (h : t.sk.length ≤ 16) : Spec Tryz.prog 219 [.ptr 0 0 17 0 0, .pel (.int .i64 k) 0] [mO g t a e q] (MP g a (popE t e) ⟨k, a, (popM t).2.1⟩) := by
  refine Spec.by Tryz.func219 rfl (by decide) (by decide +kernel) rfl ?_
  (refine goA ?_)
  refine Call.mk ((mpop199 g t a e q (by omega)).cellAt 0 _ rfl (fun j hj => one_pos _ hj) rfl rfl (by rintro d y ⟨rfl, rfl⟩; exact ⟨rfl, rfl⟩)) ?_; rintro d os' ⟨y, ⟨rfl, rfl⟩, rfl⟩
  (refine goA ?_)
  refine Ret.trim 1 (by simp) rfl (Nat.le_of_ble_eq_true rfl) ?_
  exact Ret.mk [] rfl (by (conv => whnf); exact ⟨_, ⟨rfl, rfl⟩, rfl⟩)
end Go.Proofs.YtkceciebmkklpaaGreat.V
end
section
namespace Go.Proofs.YtkceciebmkklpaaGreat.V
open Go Go.Proofs
set_option maxRecDepth 100000
set_option maxHeartbeats 40000000
@[reducible] def fnD (n : Nat) : D := .fn (.func n) [] []
@[reducible] def fnC (n : Nat) (d : D) : D := .fn (.func n) [] [.pel d 0]
/-- What instructions do. -/
def doesM : List (Int × D) := [(0, fnD 160), (1, fnD 162), (2, fnD 164), (3, fnC 215 (fnD 166)), (4, fnC 215 (fnD 167)), (5, fnD 168), (6, fnD 170), (7, fnD 172), (8, fnD 173), (9, fnD 174), (10, fnD 175), (26, fnD 176),
  (12, fnC 218 (.int .i64 2)), (11, fnC 218 (.int .i64 3)), (15, fnC 218 (.int .i64 6)), (16, fnC 218 (.int .i64 7)), (17, fnC 218 (.int .i64 8)), (18, fnC 218 (.int .i64 9)), (19, fnC 218 (.int .i64 10)), (20, fnC 218 (.int .i64 11)), (21, fnC 218 (.int .i64 12)), (23, fnC 218 (.int .i64 14)), (24, fnC 218 (.int .i64 15)),
  (13, fnC 219 (.int .i64 4)), (14, fnC 219 (.int .i64 5)), (25, fnC 219 (.int .i64 16)), (22, fnC 219 (.int .i64 13))]
theorem does162 : Spec Tryz.prog 105 [] [] (fun d os' => d = .mp 0 0 ∧ os' = [one (.map doesM)]) := by
  refine Spec.by Tryz.func105 rfl (by decide) (by decide +kernel) rfl ?_
  (refine goA ?_)
  refine Call.mk ((c201 166).only _ rfl (by rintro d rfl; rfl)) ?_; rintro d os' ⟨rfl, rfl⟩
  (refine goA ?_)
  refine Call.mk ((c201 167).only _ rfl (by rintro d rfl; rfl)) ?_; rintro d os' ⟨rfl, rfl⟩
  (refine goA ?_)
  refine Call.mk ((c211 2).only _ rfl (by rintro d rfl; rfl)) ?_; rintro d os' ⟨rfl, rfl⟩
  (refine goA ?_)
  refine Call.mk ((c211 3).only _ rfl (by rintro d rfl; rfl)) ?_; rintro d os' ⟨rfl, rfl⟩
  (refine goA ?_)
  refine Call.mk ((c211 6).only _ rfl (by rintro d rfl; rfl)) ?_; rintro d os' ⟨rfl, rfl⟩
  (refine goA ?_)
  refine Call.mk ((c211 7).only _ rfl (by rintro d rfl; rfl)) ?_; rintro d os' ⟨rfl, rfl⟩
  (refine goA ?_)
  refine Call.mk ((c211 8).only _ rfl (by rintro d rfl; rfl)) ?_; rintro d os' ⟨rfl, rfl⟩
  (refine goA ?_)
  refine Call.mk ((c211 9).only _ rfl (by rintro d rfl; rfl)) ?_; rintro d os' ⟨rfl, rfl⟩
  (refine goA ?_)
  refine Call.mk ((c211 10).only _ rfl (by rintro d rfl; rfl)) ?_; rintro d os' ⟨rfl, rfl⟩
  (refine goA ?_)
  refine Call.mk ((c211 11).only _ rfl (by rintro d rfl; rfl)) ?_; rintro d os' ⟨rfl, rfl⟩
  (refine goA ?_)
  refine Call.mk ((c211 12).only _ rfl (by rintro d rfl; rfl)) ?_; rintro d os' ⟨rfl, rfl⟩
  (refine goA ?_)
  refine Call.mk ((c211 14).only _ rfl (by rintro d rfl; rfl)) ?_; rintro d os' ⟨rfl, rfl⟩
  (refine goA ?_)
  refine Call.mk ((c211 15).only _ rfl (by rintro d rfl; rfl)) ?_; rintro d os' ⟨rfl, rfl⟩
  (refine goA ?_)
  refine Call.mk ((c212 4).only _ rfl (by rintro d rfl; rfl)) ?_; rintro d os' ⟨rfl, rfl⟩
  (refine goA ?_)
  refine Call.mk ((c212 5).only _ rfl (by rintro d rfl; rfl)) ?_; rintro d os' ⟨rfl, rfl⟩
  (refine goA ?_)
  refine Call.mk ((c212 16).only _ rfl (by rintro d rfl; rfl)) ?_; rintro d os' ⟨rfl, rfl⟩
  (refine goA ?_)
  refine Call.mk ((c212 13).only _ rfl (by rintro d rfl; rfl)) ?_; rintro d os' ⟨rfl, rfl⟩
  (refine goA ?_)
  refine Ret.trim 1 (by simp) rfl (Nat.le_of_ble_eq_true rfl) ?_
  refine Ret.mk [.tmp _] rfl ?_
  (conv => whnf)
  exact ⟨rfl, rfl⟩
/-- What an instruction makes of a machine whose thread's place is the next one. -/
@[reducible] def nq : Rq := ⟨0, 0, 0⟩
@[reducible] def mk3 (p : Th × Int) : Th × Int × Rq := (p.1, p.2, nq)
def pop2 (t : Th) : Th × Int × Int × Int := ((popM (popM t).1).1, underE (underE (-1) (popM t).2.2 1) (popM (popM t).1).2.2 1, (popM (popM t).1).2.1, (popM t).2.1)
def execM (g : Pg) (s : List Fm) (f : Fm) (t : Th) (op a : Int) : Th × Int × Rq :=
  match op with
  | 0 => mk3 (pushL t (-1) [a])
  | 1 => mk3 (popE t (-1))
  | 2 => mk3 (pushL (popE t (-1)).1 (popE t (-1)).2 [(popM t).2.1, (popM t).2.1])
  | 3 => mk3 (pushL (pop2 t).1 (pop2 t).2.1 [(pop2 t).2.2.1 + (pop2 t).2.2.2])
  | 4 => mk3 (pushL (pop2 t).1 (pop2 t).2.1 [(pop2 t).2.2.1 - (pop2 t).2.2.2])
  | 5 => mk3 (pushL t (-1) [f.ls.getD a.toNat 0])
  | 6 => mk3 ({ (popM t).1 with fr := s ++ [⟨f.fn, f.pc, f.ls.set a.toNat (keep (popM t).2.1)⟩] }, underE (-1) (popM t).2.2 1)
  | 7 => mk3 ({ t with fr := s ++ [⟨f.fn, a, f.ls⟩] }, -1)
  | 8 => mk3 (if (popM t).2.1 = 0 then { (popM t).1 with fr := s ++ [⟨f.fn, a, f.ls⟩] } else (popM t).1, underE (-1) (popM t).2.2 1)
  | 9 => mk3 ((enterT t ⟨a, 0, List.replicate ((g.fu[a.toNat]?.map Fu.loc).getD 0).toNat 0⟩).1, if (enterT t ⟨a, 0, List.replicate ((g.fu[a.toNat]?.map Fu.loc).getD 0).toNat 0⟩).2 then -1 else 3)
  | 10 => mk3 ({ t with fr := s }, if s = [] then 0 else -1)
  | 26 => mk3 (t, 0)
  | 12 => (t, -1, ⟨2, a, 0⟩)
  | 11 => (t, -1, ⟨3, a, 0⟩)
  | 15 => (t, -1, ⟨6, a, 0⟩)
  | 16 => (t, -1, ⟨7, a, 0⟩)
  | 17 => (t, -1, ⟨8, a, 0⟩)
  | 18 => (t, -1, ⟨9, a, 0⟩)
  | 19 => (t, -1, ⟨10, a, 0⟩)
  | 20 => (t, -1, ⟨11, a, 0⟩)
  | 21 => (t, -1, ⟨12, a, 0⟩)
  | 23 => (t, -1, ⟨14, a, 0⟩)
  | 24 => (t, -1, ⟨15, a, 0⟩)
  | 13 => ((popE t (-1)).1, (popE t (-1)).2, ⟨4, a, (popM t).2.1⟩)
  | 14 => ((popE t (-1)).1, (popE t (-1)).2, ⟨5, a, (popM t).2.1⟩)
  | 25 => ((popE t (-1)).1, (popE t (-1)).2, ⟨16, a, (popM t).2.1⟩)
  | 22 => ((popE t (-1)).1, (popE t (-1)).2, ⟨13, a, (popM t).2.1⟩)
  | _ => mk3 (t, -1)
@[reducible] def kept2 (v : Int) : Prop := -1073741824 ≤ v ∧ v ≤ 1073741824
theorem popM_v {t : Th} (h : ∀ v ∈ t.sk, kept2 v) : kept2 (popM t).2.1 ∧ ∀ v ∈ (popM t).1.sk, kept2 v := by
  unfold popM
  split
  · exact ⟨⟨by show (-1073741824 : Int) ≤ 0; decide, by show (0 : Int) ≤ 1073741824; decide⟩, h⟩
  · rename_i v hv
    exact ⟨h v (List.mem_of_getLast? hv), fun x hx => h x ((List.dropLast_sublist _).mem hx)⟩
/-- What is asked of a machine's thread. -/
structure XT (g : Pg) (s : List Fm) (f : Fm) (t : Th) (op a : Int) : Prop where
  fr : t.fr = s ++ [f]
  sl : s.length ≤ 100000
  sk : t.sk.length ≤ 16
  kp : ∀ v ∈ t.sk, kept2 v
  ls : f.ls.length ≤ 1000000
  opr : 0 ≤ op ∧ op ≤ 26
  lo : op = 5 ∨ op = 6 → 0 ≤ a ∧ a < f.ls.length
  fu : op = 9 → 0 ≤ a ∧ a < g.fu.length
  gl : ∀ u ∈ g.fu, 0 ≤ u.loc ∧ u.loc ≤ 100
@[reducible] def XP (g : Pg) (a : Int) (r : Th × Int × Rq) : D → Objs → Prop := MP g a (r.1, r.2.1) r.2.2
/-- What is looked up, and does it. -/
theorem exec_fn (g : Pg) (s : List Fm) (f : Fm) (t : Th) (op a : Int) (h : XT g s f t op a) :
    (∃ n, lookM doesM op = some (fnD n) ∧ Spec Tryz.prog n [.ptr 0 0 17 0 0] [mO g t a (-1) nq] (XP g a (execM g s f t op a))) ∨
    (∃ n d, lookM doesM op = some (fnC n d) ∧ d.pure = true ∧ Spec Tryz.prog n [.ptr 0 0 17 0 0, .pel d 0] [mO g t a (-1) nq] (XP g a (execM g s f t op a))) := by
  obtain ⟨h1, h2, h3, h4, h5, h6, h7, h8, h9⟩ := h
  have hc : op = 0 ∨ op = 1 ∨ op = 2 ∨ op = 3 ∨ op = 4 ∨ op = 5 ∨ op = 6 ∨ op = 7 ∨ op = 8 ∨ op = 9 ∨ op = 10 ∨ op = 11 ∨ op = 12 ∨ op = 13 ∨ op = 14 ∨ op = 15 ∨ op = 16 ∨ op = 17 ∨ op = 18 ∨ op = 19 ∨ op = 20 ∨ op = 21 ∨ op = 22 ∨ op = 23 ∨ op = 24 ∨ op = 25 ∨ op = 26 := by omega
  have k1 := popM_v h4
  have k2 := popM_v k1.2
  rcases hc with rfl | rfl | rfl | rfl | rfl | rfl | rfl | rfl | rfl | rfl | rfl | rfl | rfl | rfl | rfl | rfl | rfl | rfl | rfl | rfl | rfl | rfl | rfl | rfl | rfl | rfl | rfl
  · exact .inl ⟨_, rfl, c197 g t a (-1) nq h3⟩
  · exact .inl ⟨_, rfl, c198 g t a (-1) nq h3⟩
  · exact .inl ⟨_, rfl, c200 g t a (-1) nq h3⟩
  · exact .inr ⟨_, _, rfl, rfl, c227 166 (· + ·) g t a (-1) nq h3 (c202 _ _ k2.1 k1.1)⟩
  · exact .inr ⟨_, _, rfl, rfl, c227 167 (· - ·) g t a (-1) nq h3 (c203 _ _ k2.1 k1.1)⟩
  · obtain ⟨a0, a1⟩ := h7 (.inl rfl)
    exact .inl ⟨_, rfl, c204 g t a (-1) nq h3 s f h1 (by omega) a.toNat (by omega) _ (by rw [List.getD_eq_getElem?_getD, List.getElem?_eq_getElem (by omega)]; rfl)⟩
  · obtain ⟨a0, a1⟩ := h7 (.inr rfl)
    exact .inl ⟨_, rfl, c205 g t a (-1) nq h3 s f h1 (by omega) h5 a.toNat (by omega) (by omega)⟩
  · exact .inl ⟨_, rfl, c206 g t a (-1) nq s f h1 (by omega)⟩
  · exact .inl ⟨_, rfl, c207 g t a (-1) nq h3 s f h1 (by omega)⟩
  · obtain ⟨a0, a1⟩ := h8 rfl
    obtain ⟨u, hu⟩ : ∃ u, g.fu[a.toNat]? = some u := ⟨_, List.getElem?_eq_getElem (by omega)⟩
    have hfl : t.fr.length ≤ 100000 + 1 := by rw [h1]; simp; omega
    have := c208 g t a (-1) nq a.toNat u (by omega) hu (h9 u (List.mem_of_getElem? hu)) (by omega)
    refine .inl ⟨_, rfl, ?_⟩
    simp only [execM, hu, Option.map_some, Option.getD_some]
    rw [show ((a.toNat : Nat) : Int) = a by omega] at this
    exact this
  · exact .inl ⟨_, rfl, c209 g t a (-1) nq s f h1 (by omega)⟩
  · exact .inr ⟨_, _, rfl, rfl, c228 3 g t a (-1) nq⟩
  · exact .inr ⟨_, _, rfl, rfl, c228 2 g t a (-1) nq⟩
  · exact .inr ⟨_, _, rfl, rfl, c229 4 g t a (-1) nq h3⟩
  · exact .inr ⟨_, _, rfl, rfl, c229 5 g t a (-1) nq h3⟩
  · exact .inr ⟨_, _, rfl, rfl, c228 6 g t a (-1) nq⟩
  · exact .inr ⟨_, _, rfl, rfl, c228 7 g t a (-1) nq⟩
  · exact .inr ⟨_, _, rfl, rfl, c228 8 g t a (-1) nq⟩
  · exact .inr ⟨_, _, rfl, rfl, c228 9 g t a (-1) nq⟩
  · exact .inr ⟨_, _, rfl, rfl, c228 10 g t a (-1) nq⟩
  · exact .inr ⟨_, _, rfl, rfl, c228 11 g t a (-1) nq⟩
  · exact .inr ⟨_, _, rfl, rfl, c228 12 g t a (-1) nq⟩
  · exact .inr ⟨_, _, rfl, rfl, c229 13 g t a (-1) nq h3⟩
  · exact .inr ⟨_, _, rfl, rfl, c228 14 g t a (-1) nq⟩
  · exact .inr ⟨_, _, rfl, rfl, c228 15 g t a (-1) nq⟩
  · exact .inr ⟨_, _, rfl, rfl, c229 16 g t a (-1) nq h3⟩
  · exact .inl ⟨_, rfl, c210 g t a (-1) nq⟩
end Go.Proofs.YtkceciebmkklpaaGreat.V
end
section
namespace Go.Proofs.YtkceciebmkklpaaGreat.V
open Go Go.Proofs
set_option maxRecDepth 100000
set_option maxHeartbeats 40000000
@[reducible] def endT (c : Int) : Th := ⟨9, 0, [], [], c⟩
def needsI (op : Int) : Int := if op = 1 ∨ op = 2 ∨ op = 6 ∨ op = 8 ∨ op = 13 ∨ op = 14 ∨ op = 22 ∨ op = 25 then 1 else if op = 3 ∨ op = 4 then 2 else 0
end Go.Proofs.YtkceciebmkklpaaGreat.V
end
section
namespace Go.Proofs.YtkceciebmkklpaaGreat.V
open Go Go.Proofs
set_option maxRecDepth 100000
set_option maxHeartbeats 40000000
theorem does162' (os : Objs) : Spec Tryz.prog 105 [] os (fun d os' => d = .mp os.length 0 ∧ os' = os ++ [one (.map doesM)]) := by
  refine (does162.onto os rfl).mono ?_
  rintro d os' ⟨d1, os1, ⟨rfl, rfl⟩, rfl, rfl⟩
  exact ⟨rfl, rfl⟩
/-- A step. -/
def stepX (x : Th × Int × Rq) : Th × Rq := if 0 ≤ x.2.1 then (endT x.2.1, ⟨1, 0, x.2.1⟩) else (x.1, x.2.2)
def stepT (g : Pg) (t : Th) : Th × Rq :=
  match t.fr.getLast? with
  | none => (t, nq)
  | some f => match fetchI g f with
    | (x, true) => stepX (execM g t.fr.dropLast ⟨f.fn, f.pc + 1, f.ls⟩ { t with fr := t.fr.dropLast ++ [⟨f.fn, f.pc + 1, f.ls⟩] } x.1 x.2)
    | (_, false) => (endT 6, ⟨1, 0, 6⟩)
theorem stepT_go {g : Pg} {t : Th} {s : List Fm} {f : Fm} {x : Int × Int} (hs : t.fr = s ++ [f]) (hx : fetchI g f = (x, true)) : stepT g t = stepX (execM g s ⟨f.fn, f.pc + 1, f.ls⟩ { t with fr := s ++ [⟨f.fn, f.pc + 1, f.ls⟩] } x.1 x.2) := by
  have h1 : t.fr.getLast? = some f := by rw [hs]; simp
  have h2 : t.fr.dropLast = s := by rw [hs]; simp
  simp only [stepT, h1, hx, h2]
theorem stepT_off {g : Pg} {t : Th} {s : List Fm} {f : Fm} {x : Int × Int} (hs : t.fr = s ++ [f]) (hx : fetchI g f = (x, false)) : stepT g t = (endT 6, ⟨1, 0, 6⟩) := by
  have h1 : t.fr.getLast? = some f := by rw [hs]; simp
  simp only [stepT, h1, hx]
/-- A thread that steps. -/
structure ST (g : Pg) (t : Th) (s : List Fm) (k pc : Nat) (ls : List Int) (u : Fu) : Prop where
  fr : t.fr = s ++ [⟨k, pc, ls⟩]
  sl : s.length ≤ 7
  hu : g.fu[k]? = some u
  pcl : pc ≤ u.code.length
  lsl : (ls.length : Int) = u.loc
  kl : kept ls = true
  sk : t.sk.length ≤ 16
  kp : ∀ v ∈ t.sk, kept2 v
theorem ST.of {g : Pg} {t : Th} (ht : GoodT g t) : ∃ s k pc ls u, ST g t s k pc ls u := by
  have hfl := ht.fl
  have hne : t.fr ≠ [] := fun e => by rw [e] at hfl; simp at hfl
  obtain ⟨s, f, hs⟩ : ∃ s f, t.fr = s ++ [f] := ⟨t.fr.dropLast, t.fr.getLast hne, (List.dropLast_concat_getLast hne).symm⟩
  have hsn : t.fr.length = s.length + 1 := by rw [hs]; simp
  have hof := ht.fr f (by rw [hs]; simp)
  obtain ⟨fn, fpc, ls⟩ := f
  obtain ⟨k, pc, u, hfn, hpc, hu, hpcl, hls, hkp⟩ := odd_inv hof
  dsimp only at hfn hpc hls hkp
  subst hfn hpc
  exact ⟨s, k, pc, ls, u, hs, by omega, hu, hpcl, hls, hkp, ht.sk, (kept_iff _).1 ht.kp⟩
theorem fetch_in {g : Pg} {k pc : Nat} {ls : List Int} {u : Fu} (hu : g.fu[k]? = some u) {x : Int × Int} (h : fetchI g ⟨k, pc, ls⟩ = (x, true)) : x ∈ u.code ∧ pc < u.code.length := by
  unfold fetchI at h
  dsimp only at h
  rw [Int.toNat_natCast, hu] at h
  dsimp only at h
  rw [Int.toNat_natCast] at h
  cases hc : u.code[pc]? with
  | none => rw [hc] at h; cases h
  | some y =>
    rw [hc] at h
    cases h
    exact ⟨List.mem_of_getElem? hc, (List.getElem?_eq_some_iff.1 hc).1⟩
theorem xt_of {g : Pg} (hg : GoodP g) {t : Th} {s : List Fm} {k pc : Nat} {ls : List Int} {u : Fu} (h : ST g t s k pc ls u) {op a : Int} (hx : fetchI g ⟨k, pc, ls⟩ = ((op, a), true)) :
    XT g s ⟨k, (pc : Int) + 1, ls⟩ { t with fr := s ++ [⟨k, (pc : Int) + 1, ls⟩] } op a := by
  obtain ⟨hm, hpl⟩ := fetch_in h.hu hx
  obtain ⟨q1, q2, q3⟩ := hg.fu u (List.mem_of_getElem? h.hu)
  have hin := q3 _ hm
  obtain ⟨i1, i2, i3, i4, i5, _⟩ := hin
  have := h.lsl
  exact ⟨rfl, by have := h.sl; omega, h.sk, h.kp, by show ls.length ≤ _; omega, i1, fun ho => by have := i3 ho; dsimp only at this ⊢; omega, fun ho => by have := i5 (.inl ho); dsimp only at this ⊢; omega, fun v hv => by have := (hg.fu v hv).1; omega⟩
theorem step97 (g : Pg) (hg : GoodP g) (t : Th) (ht : GoodT g t) : Spec Tryz.prog 64 [pgD g, thD t] [] (fun d os' => d = .tup [thD (stepT g t).1, rqD (stepT g t).2] ∧ os' = []) := by
  refine Spec.frz (post' := fun d => d = .tup [thD (stepT g t).1, rqD (stepT g t).2]) ?_
  obtain ⟨s, k, pc, ls, u, h⟩ := ST.of ht
  have hs := h.fr
  have hsl := h.sl
  have hget : t.fr[((((t.fr.map frD).length : Nat) : Int) - 1).toNat]? = some ⟨k, pc, ls⟩ := by
    have e : ((((t.fr.map frD).length : Nat) : Int) - 1).toNat = s.length := by rw [List.length_map, hs]; simp
    rw [e, hs]; simp
  have hlm : (t.fr.map frD).length = s.length + 1 := by rw [List.length_map, hs]; simp
  refine Spec.by Tryz.func64 rfl (by decide) (by decide +kernel) rfl ?_
  (refine goA ?_)
  refine Call.mk ((fetch161 g t s k pc ls u h.hu hs (by omega)).only _ rfl (by rintro d rfl; rfl)) ?_; rintro d os' ⟨rfl, rfl⟩
  obtain ⟨⟨op, a⟩, b, hx⟩ : ∃ x b, fetchI g ⟨k, pc, []⟩ = (x, b) := ⟨_, _, rfl⟩
  rw [hx]
  have hx' : fetchI g ⟨k, pc, ls⟩ = ((op, a), b) := hx
  cases b with
  | false =>
    rw [stepT_off hs hx']
    (refine goA ?_)
    refine Call.mk ((end55 t 6).only _ rfl (by rintro d rfl; rfl)) ?_; rintro d os' ⟨rfl, rfl⟩
    (refine goA ?_)
    refine Ret.mk [.cell 4 42, .cell 5 107] rfl ?_; (refine goA ?_)
    exact ⟨_, View.same _, rfl, rfl⟩
  | true =>
    rw [stepT_go hs hx']
    have hxt := xt_of hg h hx'
    have hpl := (fetch_in h.hu hx').2
    have hcl := (hg.fu u (List.mem_of_getElem? h.hu)).2.1
    (refine goA ?_)
    refine Opt.of (get_map hget) ?_
    (refine goA ?_)
    refine Call.mk ((jump136 t s ⟨k, pc, ls⟩ hs (by omega) ((pc : Int) + 1)).only _ rfl (by rintro d rfl; rfl)) ?_; rintro d os' ⟨rfl, rfl⟩
    (refine goA ?_)
    refine Call.mk (does162' _) ?_
    rintro d os' ⟨rfl, rfl⟩
    (refine goA ?_)
    have hsp0 := exec_fn g s ⟨k, (pc : Int) + 1, ls⟩ { t with fr := s ++ [⟨k, (pc : Int) + 1, ls⟩] } op a hxt
    generalize execM g s ⟨k, (pc : Int) + 1, ls⟩ { t with fr := s ++ [⟨k, (pc : Int) + 1, ls⟩] } op a = x at hsp0 ⊢
    obtain ⟨t', e', q'⟩ := x
    rcases hsp0 with ⟨n, hl, hsp⟩ | ⟨n, d, hl, hd, hsp⟩
    · refine Fnd.got hl ?_
      (refine goA ?_)
      refine Call.mk ((hsp).cellAt 5 _ rfl (fun j hj => one_pos _ hj) rfl rfl (by rintro d y ⟨rfl, rfl⟩; exact ⟨rfl, rfl⟩)) ?_; rintro d os' ⟨y, ⟨rfl, rfl⟩, rfl⟩
      (refine goA ?_)
      refine Br.dec (fun h0 => ?_) (fun h0 => ?_)
      · have he : stepX (t', e', q') = (endT e', ⟨1, 0, e'⟩) := by unfold stepX; exact if_pos h0
        (refine goA ?_)
        refine Call.mk ((end55 t' e').only _ rfl (by rintro d rfl; rfl)) ?_; rintro d os' ⟨rfl, rfl⟩
        (refine goA ?_)
        refine Ret.mk [.cell 4 42, .cell 5 107] rfl ?_; (refine goA ?_)
        rw [he]
        exact ⟨_, View.same _, rfl, rfl⟩
      · have he : stepX (t', e', q') = (t', q') := by unfold stepX; exact if_neg h0
        (refine goA ?_)
        refine Ret.mk [.cell 4 42, .cell 5 107] rfl ?_; (refine goA ?_)
        rw [he]
        exact ⟨_, View.same _, rfl, rfl⟩
    · refine Fnd.got hl ?_
      (refine goA ?_)
      refine Call.mk ((hsp).cellAt 5 _ rfl (fun j hj => one_pos _ hj) rfl rfl (by rintro d y ⟨rfl, rfl⟩; exact ⟨rfl, rfl⟩)) ?_; rintro d os' ⟨y, ⟨rfl, rfl⟩, rfl⟩
      (refine goA ?_)
      refine Br.dec (fun h0 => ?_) (fun h0 => ?_)
      · have he : stepX (t', e', q') = (endT e', ⟨1, 0, e'⟩) := by unfold stepX; exact if_pos h0
        (refine goA ?_)
        refine Call.mk ((end55 t' e').only _ rfl (by rintro d rfl; rfl)) ?_; rintro d os' ⟨rfl, rfl⟩
        (refine goA ?_)
        refine Ret.mk [.cell 4 42, .cell 5 107] rfl ?_; (refine goA ?_)
        rw [he]
        exact ⟨_, View.same _, rfl, rfl⟩
      · have he : stepX (t', e', q') = (t', q') := by unfold stepX; exact if_neg h0
        (refine goA ?_)
        refine Ret.mk [.cell 4 42, .cell 5 107] rfl ?_; (refine goA ?_)
        rw [he]
        exact ⟨_, View.same _, rfl, rfl⟩
end Go.Proofs.YtkceciebmkklpaaGreat.V
end
section
namespace Go.Proofs.YtkceciebmkklpaaGreat.V
open Go Go.Proofs
set_option maxRecDepth 100000
set_option maxHeartbeats 40000000
theorem under_t (c : Int) : underE (-1) true c = -1 := rfl
theorem under_f (c : Int) : underE (-1) false c = c := rfl
theorem popM_tt {t : Th} (h : 0 < t.sk.length) : (popM t).2.2 = true ∧ (popM t).1.sk.length + 1 = t.sk.length := by
  have hk : t.sk ≠ [] := fun e => by rw [e] at h; simp at h
  have hln : t.sk = t.sk.dropLast ++ [t.sk.getLast hk] := (List.dropLast_concat_getLast hk).symm
  rw [popM_snoc hln]
  refine ⟨rfl, ?_⟩
  show t.sk.dropLast.length + 1 = _
  simp; omega
theorem popM_ff {t : Th} (h : t.sk.length = 0) : (popM t).2.2 = false := by rw [popM_nil (List.eq_nil_of_length_eq_zero h)]
@[reducible] def pushX (t : Th) (v : Int) : Th × Rq := (if (pushT t v).2 then (pushT t v).1 else endT 2, if (pushT t v).2 then nq else ⟨1, 0, 2⟩)
theorem pushL1 (t : Th) (v : Int) : stepX (mk3 (pushL t (-1) [v])) = pushX t v := by
  unfold stepX pushX
  simp only [pushL]
  rcases Bool.eq_false_or_eq_true (pushT t v).2 with h | h <;> simp [h, underE]
variable (g : Pg) (s : List Fm) (f : Fm) (t : Th) (a : Int)
theorem ex0 : stepX (execM g s f t 0 a) = pushX t a := pushL1 t a
theorem ex1 (h : 0 < t.sk.length) : stepX (execM g s f t 1 a) = ((popM t).1, nq) := by
  show stepX (mk3 (popE t (-1))) = _
  simp only [stepX, popE, (popM_tt h).1, under_t]
  rfl
theorem ex2 (h : 0 < t.sk.length) (h16 : t.sk.length ≤ 16) : stepX (execM g s f t 2 a) = pushX (pushT (popM t).1 (popM t).2.1).1 (popM t).2.1 := by
  show stepX (mk3 (pushL (popE t (-1)).1 (popE t (-1)).2 [(popM t).2.1, (popM t).2.1])) = _
  obtain ⟨h1, h2⟩ := popM_tt h
  have hp : (pushT (popM t).1 (popM t).2.1).2 = true := by unfold pushT; rw [if_neg (by omega)]
  have e : pushL (popE t (-1)).1 (popE t (-1)).2 [(popM t).2.1, (popM t).2.1] = pushL (pushT (popM t).1 (popM t).2.1).1 (-1) [(popM t).2.1] := by
    simp only [pushL, popE, h1, under_t, hp]
  rw [e]
  exact pushL1 _ _
theorem pop2_tt (h : 1 < t.sk.length) : (pop2 t).2.1 = -1 := by
  obtain ⟨h1, h2⟩ := popM_tt (t := t) (by omega)
  obtain ⟨h3, h4⟩ := popM_tt (t := (popM t).1) (by omega)
  simp only [pop2, h1, h3, under_t]
theorem ex3 (h : 1 < t.sk.length) : stepX (execM g s f t 3 a) = pushX (popM (popM t).1).1 ((popM (popM t).1).2.1 + (popM t).2.1) := by
  show stepX (mk3 (pushL (pop2 t).1 (pop2 t).2.1 [(pop2 t).2.2.1 + (pop2 t).2.2.2])) = _
  rw [pop2_tt t h]
  exact pushL1 _ _
theorem ex4 (h : 1 < t.sk.length) : stepX (execM g s f t 4 a) = pushX (popM (popM t).1).1 ((popM (popM t).1).2.1 - (popM t).2.1) := by
  show stepX (mk3 (pushL (pop2 t).1 (pop2 t).2.1 [(pop2 t).2.2.1 - (pop2 t).2.2.2])) = _
  rw [pop2_tt t h]
  exact pushL1 _ _
theorem ex5 {v : Int} (hv : f.ls[a.toNat]? = some v) : stepX (execM g s f t 5 a) = pushX t v := by
  show stepX (mk3 (pushL t (-1) [f.ls.getD a.toNat 0])) = _
  rw [List.getD_eq_getElem?_getD, hv]
  exact pushL1 _ _
theorem ex6 (h : 0 < t.sk.length) : stepX (execM g s f t 6 a) = ({ (popM t).1 with fr := s ++ [⟨f.fn, f.pc, f.ls.set a.toNat (keep (popM t).2.1)⟩] }, nq) := by
  show stepX (mk3 (_, underE (-1) (popM t).2.2 1)) = _
  simp only [stepX, (popM_tt h).1, under_t]
  rfl
theorem ex7 : stepX (execM g s f t 7 a) = ({ t with fr := s ++ [⟨f.fn, a, f.ls⟩] }, nq) := rfl
theorem ex8 (h : 0 < t.sk.length) : stepX (execM g s f t 8 a) = (if (popM t).2.1 = 0 then { (popM t).1 with fr := s ++ [⟨f.fn, a, f.ls⟩] } else (popM t).1, nq) := by
  show stepX (mk3 (_, underE (-1) (popM t).2.2 1)) = _
  simp only [stepX, (popM_tt h).1, under_t]
  rfl
theorem ex9 {u : Fu} (hu : g.fu[a.toNat]? = some u) : stepX (execM g s f t 9 a) = (if (enterT t ⟨a, 0, List.replicate u.loc.toNat 0⟩).2 then (enterT t ⟨a, 0, List.replicate u.loc.toNat 0⟩).1 else endT 3, if (enterT t ⟨a, 0, List.replicate u.loc.toNat 0⟩).2 then nq else ⟨1, 0, 3⟩) := by
  show stepX (mk3 ((enterT t ⟨a, 0, List.replicate ((g.fu[a.toNat]?.map Fu.loc).getD 0).toNat 0⟩).1, if (enterT t ⟨a, 0, List.replicate ((g.fu[a.toNat]?.map Fu.loc).getD 0).toNat 0⟩).2 then -1 else 3)) = _
  rw [hu]
  simp only [Option.map_some, Option.getD_some, stepX]
  rcases Bool.eq_false_or_eq_true (enterT t ⟨a, 0, List.replicate u.loc.toNat 0⟩).2 with h | h <;> simp [h]
theorem ex10 : stepX (execM g s f t 10 a) = (if s = [] then endT 0 else { t with fr := s }, if s = [] then ⟨1, 0, 0⟩ else nq) := by
  show stepX (mk3 ({ t with fr := s }, if s = [] then 0 else -1)) = _
  by_cases h : s = []
  · simp only [if_pos h]; rfl
  · simp only [if_neg h]; rfl
theorem ex26 : stepX (execM g s f t 26 a) = (endT 0, ⟨1, 0, 0⟩) := rfl
theorem exR {k : Int} {op : Int} (h : execM g s f t op a = (t, -1, ⟨k, a, 0⟩)) : stepX (execM g s f t op a) = (t, ⟨k, a, 0⟩) := by rw [h]; rfl
theorem exQ {k : Int} {op : Int} (h0 : 0 < t.sk.length) (h : execM g s f t op a = ((popE t (-1)).1, (popE t (-1)).2, ⟨k, a, (popM t).2.1⟩)) : stepX (execM g s f t op a) = ((popM t).1, ⟨k, a, (popM t).2.1⟩) := by
  rw [h]
  simp only [stepX, popE, (popM_tt h0).1, under_t]
  rfl
/-- Too few numbers. -/
theorem ex_under {op : Int} (h : (t.sk.length : Int) < needsI op) : stepX (execM g s f t op a) = (endT 1, ⟨1, 0, 1⟩) := by
  have fin : ∀ (x : Th) (q : Rq), stepX (x, 1, q) = (endT 1, ⟨1, 0, 1⟩) := fun x q => rfl
  have push1 : ∀ (l : List Int) (x : Th), (pushL x 1 l).2 = 1 := by
    intro l
    induction l with
    | nil => intro x; rfl
    | cons v l ih => intro x; simp only [pushL]; rw [show underE 1 (pushT x v).2 2 = 1 by simp [underE]]; exact ih _
  have h1 : ∀ {P : Prop}, (t.sk.length : Int) < 1 → ((popM t).2.2 = false → P) → P := fun hl k => k (popM_ff (by omega))
  unfold needsI at h
  split at h
  · rename_i hc
    have hb := popM_ff (t := t) (by omega)
    rcases hc with rfl | rfl | rfl | rfl | rfl | rfl | rfl | rfl
    · show stepX (mk3 (popE t (-1))) = _
      simp only [mk3, popE, hb, under_f]; exact fin _ _
    · show stepX (mk3 (pushL (popE t (-1)).1 (popE t (-1)).2 _)) = _
      simp only [mk3, popE, hb, under_f, push1]; exact fin _ _
    · show stepX (mk3 (_, underE (-1) (popM t).2.2 1)) = _
      simp only [mk3, hb, under_f]; exact fin _ _
    · show stepX (mk3 (_, underE (-1) (popM t).2.2 1)) = _
      simp only [mk3, hb, under_f]; exact fin _ _
    · show stepX ((popE t (-1)).1, (popE t (-1)).2, _) = _
      simp only [popE, hb, under_f]; exact fin _ _
    · show stepX ((popE t (-1)).1, (popE t (-1)).2, _) = _
      simp only [popE, hb, under_f]; exact fin _ _
    · show stepX ((popE t (-1)).1, (popE t (-1)).2, _) = _
      simp only [popE, hb, under_f]; exact fin _ _
    · show stepX ((popE t (-1)).1, (popE t (-1)).2, _) = _
      simp only [popE, hb, under_f]; exact fin _ _
  · split at h
    · rename_i hc
      have hp : (pop2 t).2.1 = 1 := by
        unfold pop2
        dsimp only
        by_cases h0 : t.sk.length = 0
        · rw [popM_ff h0, under_f]; simp [underE]
        · obtain ⟨g1, g2⟩ := popM_tt (t := t) (by omega)
          rw [g1, under_t, popM_ff (t := (popM t).1) (by omega), under_f]
      rcases hc with rfl | rfl
      · show stepX (mk3 (pushL (pop2 t).1 (pop2 t).2.1 _)) = _
        simp only [mk3, hp, push1]; exact fin _ _
      · show stepX (mk3 (pushL (pop2 t).1 (pop2 t).2.1 _)) = _
        simp only [mk3, hp, push1]; exact fin _ _
    · omega
end Go.Proofs.YtkceciebmkklpaaGreat.V
end
section
namespace Go.Proofs.YtkceciebmkklpaaGreat.V
open Go Go.Proofs
set_option maxRecDepth 100000
set_option maxHeartbeats 40000000
theorem kept_of {l : List Int} (h : ∀ v ∈ l, kept2 v) : kept l = true := (kept_iff _).2 h
theorem gPush {g : Pg} {t : Th} (ht : GoodT g t) (v : Int) : (pushX t v = ((pushT t v).1, nq) ∧ GoodT g (pushT t v).1) ∨ pushX t v = (endT 2, ⟨1, 0, 2⟩) := by
  obtain ⟨h1, h2, h3, h4, h5, h6, h7⟩ := ht
  unfold pushX pushT
  by_cases h : t.sk.length = 16
  · right; rw [if_pos h]; rfl
  · left
    rw [if_neg h]
    refine ⟨rfl, h1, h2, h3, by simp; omega, kept_of ?_, h6, h7⟩
    intro x hx
    rcases List.mem_append.1 hx with hx | hx
    · exact (kept_iff _).1 h5 x hx
    · simp only [List.mem_singleton] at hx; subst hx; exact keep_range v
theorem gPop {g : Pg} {t : Th} (ht : GoodT g t) : GoodT g (popM t).1 := by
  obtain ⟨h1, h2, h3, h4, h5, h6, h7⟩ := ht
  have hv := popM_v ((kept_iff _).1 h5)
  have hs := popM_sk t
  have hf := popM_fr t
  have hrest : (popM t).1.st = t.st ∧ (popM t).1.on = t.on ∧ (popM t).1.code = t.code := by unfold popM; split <;> exact ⟨rfl, rfl, rfl⟩
  refine ⟨hrest.1.trans h1, hrest.2.1.trans h2, hrest.2.2.trans h3, by omega, kept_of hv.2, by rw [hf]; exact h6, by rw [hf]; exact h7⟩
theorem gTop {g : Pg} {t : Th} (ht : GoodT g t) {s : List Fm} {f f' : Fm} (hs : t.fr = s ++ [f]) (ho : oddF g f' = false) : GoodT g { t with fr := s ++ [f'] } := by
  obtain ⟨h1, h2, h3, h4, h5, h6, h7⟩ := ht
  refine ⟨h1, h2, h3, h4, h5, by rw [hs] at h6; simpa using h6, ?_⟩
  intro x hx
  rcases List.mem_append.1 hx with hx | hx
  · exact h7 x (by rw [hs]; simp [hx])
  · simp only [List.mem_singleton] at hx; subst hx; exact ho
/-- How a step goes. -/
def StepOk (g : Pg) (r : Th × Rq) : Prop := (r.2.kd ≠ 1 ∧ GoodT g r.1 ∧ (r.2.kd = 0 → r.2 = nq)) ∨ ∃ c, (c = 0 ∨ c = 1 ∨ c = 2 ∨ c = 3 ∨ c = 6) ∧ r = (endT c, ⟨1, 0, c⟩)
theorem okPush {g : Pg} {t : Th} (ht : GoodT g t) (v : Int) : StepOk g (pushX t v) := by
  rcases gPush ht v with ⟨h1, h2⟩ | h
  · rw [h1]; exact .inl ⟨by show (0 : Int) ≠ 1; decide, h2, fun _ => rfl⟩
  · rw [h]; exact .inr ⟨2, by simp, rfl⟩
theorem okPlain {g : Pg} {t : Th} (ht : GoodT g t) : StepOk g (t, nq) := .inl ⟨by show (0 : Int) ≠ 1; decide, ht, fun _ => rfl⟩
theorem okAsk {g : Pg} {t : Th} (ht : GoodT g t) {k a v : Int} (h0 : k ≠ 0) (h1 : k ≠ 1) : StepOk g (t, ⟨k, a, v⟩) := .inl ⟨h1, ht, fun h => absurd h h0⟩
theorem step_ok {g : Pg} (hg : GoodP g) {t : Th} (ht : GoodT g t) : StepOk g (stepT g t) := by
  obtain ⟨s, k, pc, ls, u, h⟩ := ST.of ht
  obtain ⟨⟨op, a⟩, b, hx⟩ : ∃ x b, fetchI g ⟨k, pc, ls⟩ = (x, b) := ⟨_, _, rfl⟩
  cases b with
  | false => rw [stepT_off h.fr hx]; exact .inr ⟨6, by simp, rfl⟩
  | true =>
    rw [stepT_go h.fr hx]
    dsimp only
    have hxt := xt_of hg h hx
    have hpl := (fetch_in h.hu hx).2
    have hgu := hg.fu u (List.mem_of_getElem? h.hu)
    have hin := hgu.2.2 _ (fetch_in h.hu hx).1
    obtain ⟨i1, i2, i3, i4, i5, _⟩ := hin
    have hlsl := h.lsl
    have hloc := hgu.1
    have odd : ∀ (q : Int) (l : List Int), 0 ≤ q → q ≤ u.code.length → l.length = ls.length → kept l = true → oddF g ⟨k, q, l⟩ = false := fun q l h0 h1 h2 h3 => odd_not h.hu ⟨h0, h1⟩ (by omega) hloc.1 h3
    obtain ⟨t1, ht1⟩ : ∃ t1 : Th, t1 = { t with fr := s ++ [⟨k, (pc : Int) + 1, ls⟩] } := ⟨_, rfl⟩
    have hG : GoodT g t1 := by rw [ht1]; exact gTop ht h.fr (odd _ ls (by omega) (by omega) rfl h.kl)
    have hfr1 : t1.fr = s ++ [⟨k, (pc : Int) + 1, ls⟩] := by rw [ht1]
    rw [← ht1] at hxt ⊢
    by_cases hu : (t1.sk.length : Int) < needsI op
    · rw [ex_under g s _ t1 a hu]; exact .inr ⟨1, by simp, rfl⟩
    have hpG := gPop hG
    have hppG := gPop hpG
    have hpf : (popM t1).1.fr = s ++ [⟨k, (pc : Int) + 1, ls⟩] := by rw [popM_fr]; exact hfr1
    have hc : op = 0 ∨ op = 1 ∨ op = 2 ∨ op = 3 ∨ op = 4 ∨ op = 5 ∨ op = 6 ∨ op = 7 ∨ op = 8 ∨ op = 9 ∨ op = 10 ∨ op = 11 ∨ op = 12 ∨ op = 13 ∨ op = 14 ∨ op = 15 ∨ op = 16 ∨ op = 17 ∨ op = 18 ∨ op = 19 ∨ op = 20 ∨ op = 21 ∨ op = 22 ∨ op = 23 ∨ op = 24 ∨ op = 25 ∨ op = 26 := by have := hxt.opr; omega
    have n1 : needsI op = 1 → 0 < t1.sk.length := fun e => by omega
    have n2 : needsI op = 2 → 1 < t1.sk.length := fun e => by omega
    dsimp only at i3 i4 i5
    rcases hc with rfl | rfl | rfl | rfl | rfl | rfl | rfl | rfl | rfl | rfl | rfl | rfl | rfl | rfl | rfl | rfl | rfl | rfl | rfl | rfl | rfl | rfl | rfl | rfl | rfl | rfl | rfl
    · rw [ex0]; exact okPush hG _
    · rw [ex1 g s _ t1 a (n1 rfl)]; exact okPlain hpG
    · rw [ex2 g s _ t1 a (n1 rfl) hG.sk]
      rcases gPush hpG (popM t1).2.1 with ⟨_, h2⟩ | h2
      · exact okPush h2 _
      · exfalso
        have htt := (popM_tt (n1 rfl)).2
        have h16 := hG.sk
        have hne : ¬ (popM t1).1.sk.length = 16 := by omega
        unfold pushX pushT at h2
        simp [hne] at h2
    · rw [ex3 g s _ t1 a (n2 rfl)]; exact okPush hppG _
    · rw [ex4 g s _ t1 a (n2 rfl)]; exact okPush hppG _
    · obtain ⟨a0, a1⟩ := hxt.lo (.inl rfl)
      dsimp only at a1
      rw [ex5 g s _ t1 a (List.getElem?_eq_getElem (l := ls) (i := a.toNat) (by omega))]; exact okPush hG _
    · obtain ⟨a0, a1⟩ := hxt.lo (.inr rfl)
      rw [ex6 g s _ t1 a (n1 rfl)]
      refine okPlain (gTop hpG hpf (odd ((pc : Int) + 1) _ (by omega) (by omega) (by simp) (kept_of ?_)))
      intro y hy
      rcases List.mem_or_eq_of_mem_set hy with hy | rfl
      · exact (kept_iff _).1 h.kl y hy
      · exact keep_range _
    · have := i4 (.inl rfl)
      rw [ex7]; exact okPlain (gTop hG hfr1 (odd a ls (by omega) (by omega) rfl h.kl))
    · have := i4 (.inr rfl)
      rw [ex8 g s _ t1 a (n1 rfl)]
      split
      · exact okPlain (gTop hpG hpf (odd a ls (by omega) (by omega) rfl h.kl))
      · exact okPlain hpG
    · obtain ⟨a0, a1⟩ := hxt.fu rfl
      obtain ⟨v, hv⟩ : ∃ v, g.fu[a.toNat]? = some v := ⟨_, List.getElem?_eq_getElem (by omega)⟩
      rw [ex9 g s _ t1 a hv]
      unfold enterT
      by_cases h8 : t1.fr.length = 8
      · rw [if_pos h8]; exact .inr ⟨3, by simp, rfl⟩
      · rw [if_neg h8]
        have hgv := hg.fu v (List.mem_of_getElem? hv)
        obtain ⟨g1, g2, g3, g4, g5, g6, g7⟩ := hG
        refine okPlain ⟨g1, g2, g3, g4, g5, by simp; omega, ?_⟩
        intro x hx
        rcases List.mem_append.1 hx with hx | hx
        · exact g7 x hx
        · simp only [List.mem_singleton] at hx; subst hx
          have := odd_not (pc := 0) (l := List.replicate v.loc.toNat 0) hv ⟨by omega, by omega⟩ (by simp) hgv.1.1 (kept_of (fun y hy => by rw [List.eq_of_mem_replicate hy]; exact ⟨by decide, by decide⟩))
          rwa [show ((a.toNat : Nat) : Int) = a by omega] at this
    · rw [ex10]
      by_cases hz : s = []
      · rw [if_pos hz, if_pos hz]; exact .inr ⟨0, by simp, rfl⟩
      · rw [if_neg hz, if_neg hz]
        obtain ⟨g1, g2, g3, g4, g5, g6, g7⟩ := hG
        have := List.length_pos_iff.2 hz
        refine okPlain ⟨g1, g2, g3, g4, g5, ⟨this, by have := h.sl; show s.length ≤ 8; omega⟩, fun x hx => g7 x (by rw [hfr1]; simp [show x ∈ s from hx])⟩
    · rw [exR g s _ t1 a (op := 11) (k := 3) rfl]; exact okAsk hG (by decide) (by decide)
    · rw [exR g s _ t1 a (op := 12) (k := 2) rfl]; exact okAsk hG (by decide) (by decide)
    · rw [exQ g s _ t1 a (op := 13) (k := 4) (n1 rfl) rfl]; exact okAsk hpG (by decide) (by decide)
    · rw [exQ g s _ t1 a (op := 14) (k := 5) (n1 rfl) rfl]; exact okAsk hpG (by decide) (by decide)
    · rw [exR g s _ t1 a (op := 15) (k := 6) rfl]; exact okAsk hG (by decide) (by decide)
    · rw [exR g s _ t1 a (op := 16) (k := 7) rfl]; exact okAsk hG (by decide) (by decide)
    · rw [exR g s _ t1 a (op := 17) (k := 8) rfl]; exact okAsk hG (by decide) (by decide)
    · rw [exR g s _ t1 a (op := 18) (k := 9) rfl]; exact okAsk hG (by decide) (by decide)
    · rw [exR g s _ t1 a (op := 19) (k := 10) rfl]; exact okAsk hG (by decide) (by decide)
    · rw [exR g s _ t1 a (op := 20) (k := 11) rfl]; exact okAsk hG (by decide) (by decide)
    · rw [exR g s _ t1 a (op := 21) (k := 12) rfl]; exact okAsk hG (by decide) (by decide)
    · rw [exQ g s _ t1 a (op := 22) (k := 13) (n1 rfl) rfl]; exact okAsk hpG (by decide) (by decide)
    · rw [exR g s _ t1 a (op := 23) (k := 14) rfl]; exact okAsk hG (by decide) (by decide)
    · rw [exR g s _ t1 a (op := 24) (k := 15) rfl]; exact okAsk hG (by decide) (by decide)
    · rw [exQ g s _ t1 a (op := 25) (k := 16) (n1 rfl) rfl]; exact okAsk hpG (by decide) (by decide)
    · rw [ex26]; exact .inr ⟨0, by simp, rfl⟩
end Go.Proofs.YtkceciebmkklpaaGreat.V
end
section
namespace Go.Proofs.YtkceciebmkklpaaGreat.V
open Go Go.Proofs
set_option maxRecDepth 100000
set_option maxHeartbeats 40000000
@[reducible] def g0 : Pg := ⟨[], 0, [], [], [], [], 0⟩
def tellT (t : Th) (l : List Int) : Th × Bool := if 0 ≤ (pushL t (-1) l).2 then (endT (pushL t (-1) l).2, false) else ((pushL t (-1) l).1, true)
theorem pushL_2 : ∀ (l : List Int) (t : Th), (pushL t 2 l).2 = 2
  | [], t => rfl
  | v :: l, t => by simp only [pushL]; rw [show underE 2 (pushT t v).2 2 = 2 by simp [underE]]; exact pushL_2 l _
theorem pushL_e : ∀ (l : List Int) (t : Th), (pushL t (-1) l).2 = -1 ∨ (pushL t (-1) l).2 = 2
  | [], t => .inl rfl
  | v :: l, t => by
    simp only [pushL]
    rcases Bool.eq_false_or_eq_true (pushT t v).2 with h | h
    · rw [h, under_t]; exact pushL_e l _
    · rw [h, under_f]; exact .inr (pushL_2 l _)
theorem tell99 (t : Th) (l : List Int) (hsk : t.sk.length ≤ 16) (hl : l.length ≤ 1000000) : Spec Tryz.prog 220 [thD t, ints l] [] (fun d os' => d = .tup [thD (tellT t l).1, .bool (tellT t l).2] ∧ os' = []) := by
  refine Spec.frz (post' := fun d => d = .tup [thD (tellT t l).1, .bool (tellT t l).2]) ?_
  refine Spec.by Tryz.func220 rfl (by decide) (by decide +kernel) rfl ?_
  (refine goR ?_)
  ((with_reducible refine Pt.go ?_); conv => whnf)
  (refine goR ?_)
  ((with_reducible refine Pt.go ?_); conv => whnf)
  (refine goR ?_)
  refine Pt.weak (Weak.frzO (fun _ => false) [] 2 (ty := 154) (sz := 17) (es := [.agg [.nils, .int .i64 0, .nils, .nils, .nils, .nils, .int .i64 0, .int .i64 t.st, .int .i64 t.on, frs t.fr, ints t.sk, .int .i64 t.code, .int .i64 0, .int .i64 (-1), .int .i64 0, .int .i64 0, .int .i64 0]]) rfl rfl [mD g0 t 0 (-1) nq] rfl (.cons (.agg (.cons (View.nils 2 false) (.cons (.same _) (.cons (View.nils 1 false) (.cons (View.nils 1 false) (.cons (View.nils 1 false) (.cons (View.nils 1 false) (.same _)))))))) .nil) trivial) ?_
  (refine goA ?_)
  refine Call.mk ((mpush168 g0 t 0 (-1) nq l hsk hl).cellAt 2 _ rfl (fun j hj => one_pos _ hj) rfl rfl (by rintro d y ⟨rfl, rfl⟩; exact ⟨rfl, rfl⟩)) ?_; rintro d os' ⟨y, ⟨rfl, rfl⟩, rfl⟩
  (refine goA ?_)
  refine Br.dec (fun h0 => ?_) (fun h0 => ?_)
  · have he : tellT t l = (endT (pushL t (-1) l).2, false) := by unfold tellT; rw [if_pos h0]
    (refine goA ?_)
    refine Call.mk ((end55 t (pushL t (-1) l).2).only _ rfl (by rintro d rfl; rfl)) ?_; rintro d os' ⟨rfl, rfl⟩
    (refine goA ?_)
    refine Ret.mk [.cell 4 42, .tmp 5] rfl ?_; (refine goA ?_)
    rw [he]
    exact ⟨_, View.same _, rfl, rfl⟩
  · have he : tellT t l = ((pushL t (-1) l).1, true) := by unfold tellT; rw [if_neg h0]
    (refine goA ?_)
    refine Ret.mk [.cell 4 42, .tmp 5] rfl ?_; (refine goA ?_)
    rw [he]
    exact ⟨_, View.same _, rfl, rfl⟩
theorem pushL_okB : ∀ (l : List Int) (t : Th) (e : Int), t.sk.length ≤ 16 → t.okB → (pushL t e l).1.okB
  | [], t, e, _, h => h
  | v :: l, t, e, hs, h => by
    simp only [pushL]
    refine pushL_okB l _ _ (pushT_sk t v hs) ?_
    obtain ⟨h1, h2, h3⟩ := h
    have := pushT_sk t v hs
    have hf : (pushT t v).1.fr = t.fr := by unfold pushT; split <;> rfl
    exact ⟨by rw [hf]; exact h1, by omega, by rw [hf]; exact h3⟩
end Go.Proofs.YtkceciebmkklpaaGreat.V
end
