/- VData: a text of a symbolic executor that is proved sound, and contracts that are proved with it. -/
import Derived.Calls
import Derived.Below
import Derived.Laws.AppendOwn
namespace Go.Proofs.Ytaplihoeephbeaa.V
open Go

inductive D where
  | int (k : IntKind) (n : Int)
  | bool (b : Bool)
  | str (s : ByteArray)
  | nilp
  | ptr (i j sz e off : Nat)
  | pel (x : D) (off : Nat)
  | nils
  | lst (sz : Nat) (full : Bool) (es : List D)
  | sl (i j sz lo len : Nat) (cap : Option Nat)
  | agg (cs : List D)
  | tup (vs : List D)
  | fn (f : Fn) (first captured : List D)
  | nilf
  | mp (i j : Nat)
  | junk
  deriving Inhabited

/-- Where an object lies: its block, and of how many elements it is. -/
abbrev Pl := Nat → Nat → Option (Nat × Nat)
def bot : Pl := fun _ _ => none
/-- What is never written. -/
abbrev Im := Nat → Option Obj

def Value.fine (u : Value) (sz : Nat) : Prop := u.cells.size = sz ∧ ∀ c ∈ u.cells.toList, c.oneCell' = true
def flat (us : List Value) : List Value := us.flatMap fun u => u.cells.toList

mutual
def rep (ρ : Pl) (I : Im) : D → Value → Prop
  | .int k n, v => v = .int k n
  | .bool b, v => v = .bool b
  | .str s, v => v = .string s
  | .nilp, v => v = .pointer none
  | .ptr i j sz e off, v => ∃ p, ρ i j = some p ∧ 0 < p.2 ∧ v = .pointer (some ⟨p.1, e * sz + off, none⟩)
  | .pel x off, v => ∃ b o arr t fz u, v = .pointer (some ⟨b, o + off, none⟩) ∧ I b = some (.cells arr t fz) ∧ rep bot I x u ∧ u.cells.toList <+: arr.toList.drop o
  | .nils, v => v = .slice none 0 0
  | .lst sz full es, v => ∃ A c us, v = .slice A es.length c ∧ es.length ≤ c ∧ c ≤ maxLen ∧ (full = true → c = es.length) ∧ repL bot I es us ∧ (∀ u ∈ us, Value.fine u sz) ∧
      (es = [] ∨ ∃ b o arr t fz, A = some ⟨b, o, none⟩ ∧ I b = some (.cells arr t fz) ∧ flat us <+: arr.toList.drop o)
  | .sl i j sz lo len cap, v => ∃ p A c, ρ i j = some p ∧ v = .slice A len c ∧ len ≤ c ∧ c ≤ maxLen ∧ lo + c ≤ p.2 ∧ (match cap with | none => lo + c = p.2 | some c' => c = c') ∧
      (0 < p.2 → A = some ⟨p.1, lo * sz, none⟩)
  | .agg cs, v => ∃ arr, v = .agg arr ∧ repL ρ I cs arr.toList
  | .tup vs, v => ∃ arr, v = .tuple arr ∧ repL ρ I vs arr.toList
  | .fn f a b, v => ∃ x y, v = .func f x y ∧ repL ρ I a x.toList ∧ repL ρ I b y.toList
  | .nilf, v => v = .nilFunc
  | .mp i j, v => ∃ p, ρ i j = some p ∧ 0 < p.2 ∧ v = .map (some p.1)
  | .junk, _ => True
def repL (ρ : Pl) (I : Im) : List D → List Value → Prop
  | [], vs => vs = []
  | d :: ds, vs => ∃ u us, vs = u :: us ∧ rep ρ I d u ∧ repL ρ I ds us
end

theorem repL_nil {ρ : Pl} {I : Im} {vs : List Value} : repL ρ I [] vs ↔ vs = [] := by rw [repL]
theorem repL_cons {ρ : Pl} {I : Im} {d : D} {ds : List D} {vs : List Value} : repL ρ I (d :: ds) vs ↔ ∃ u us, vs = u :: us ∧ rep ρ I d u ∧ repL ρ I ds us := by rw [repL]
theorem repL_length {ρ : Pl} {I : Im} : ∀ {ds : List D} {vs : List Value}, repL ρ I ds vs → vs.length = ds.length
  | [], _, h => by rw [repL_nil] at h; simp [h]
  | d :: ds, _, h => by
    obtain ⟨u, us, rfl, _, h⟩ := repL_cons.1 h
    simp [repL_length h]
theorem repL_get {ρ : Pl} {I : Im} : ∀ {ds : List D} {vs : List Value} {n : Nat} {d : D}, repL ρ I ds vs → ds[n]? = some d → ∃ v, vs[n]? = some v ∧ rep ρ I d v
  | [], _, _, _, _, h => by simp at h
  | e :: ds, _, n, d, h, hn => by
    obtain ⟨u, us, rfl, hu, h⟩ := repL_cons.1 h
    cases n with
    | zero => simp at hn; subst hn; exact ⟨u, rfl, hu⟩
    | succ n => obtain ⟨v, hv, hr⟩ := repL_get h (n := n) (d := d) (by simpa using hn); exact ⟨v, by simpa using hv, hr⟩
theorem repL_append {ρ : Pl} {I : Im} : ∀ {ds es : List D} {vs us : List Value}, repL ρ I ds vs → repL ρ I es us → repL ρ I (ds ++ es) (vs ++ us)
  | [], _, _, _, h, k => by rw [repL_nil] at h; subst h; exact k
  | d :: ds, _, _, _, h, k => by
    obtain ⟨u, us, rfl, hu, h⟩ := repL_cons.1 h
    exact repL_cons.2 ⟨u, _, rfl, hu, repL_append h k⟩
theorem repL_take {ρ : Pl} {I : Im} : ∀ {ds : List D} {vs : List Value} (n : Nat), repL ρ I ds vs → repL ρ I (ds.take n) (vs.take n)
  | _, _, 0, _ => by simp [repL_nil]
  | [], _, n + 1, h => by rw [repL_nil] at h; subst h; simp [repL_nil]
  | d :: ds, _, n + 1, h => by
    obtain ⟨u, us, rfl, hu, h⟩ := repL_cons.1 h
    simp only [List.take_succ_cons]
    exact repL_cons.2 ⟨u, _, rfl, hu, repL_take n h⟩
theorem repL_drop {ρ : Pl} {I : Im} : ∀ {ds : List D} {vs : List Value} (n : Nat), repL ρ I ds vs → repL ρ I (ds.drop n) (vs.drop n)
  | _, _, 0, h => by simpa using h
  | [], _, n + 1, h => by rw [repL_nil] at h; subst h; simp [repL_nil]
  | d :: ds, _, n + 1, h => by
    obtain ⟨u, us, rfl, hu, h⟩ := repL_cons.1 h
    simpa using repL_drop n h
theorem repL_set {ρ : Pl} {I : Im} : ∀ {ds : List D} {vs : List Value} (n : Nat) {d : D} {v : Value}, repL ρ I ds vs → rep ρ I d v → repL ρ I (ds.set n d) (vs.set n v)
  | [], _, n, _, _, h, _ => by rw [repL_nil] at h; subst h; simp [repL_nil]
  | e :: ds, _, n, _, _, h, hd => by
    obtain ⟨u, us, rfl, hu, h⟩ := repL_cons.1 h
    cases n with
    | zero => exact repL_cons.2 ⟨_, _, rfl, hd, h⟩
    | succ n => exact repL_cons.2 ⟨_, _, rfl, hu, repL_set n h hd⟩

def Im.le (I J : Im) : Prop := ∀ b o, I b = some o → J b = some o
theorem Im.le_refl (I : Im) : I.le I := fun _ _ h => h
theorem Im.le_trans {I J K : Im} (h : I.le J) (k : J.le K) : I.le K := fun b o hb => k b o (h b o hb)

def Pl.le (ρ ρ' : Pl) : Prop := ∀ i j p, ρ i j = some p → ρ' i j = some p
theorem Pl.le_refl (ρ : Pl) : ρ.le ρ := fun _ _ _ h => h
theorem Pl.le_trans {a b c : Pl} (h : a.le b) (k : b.le c) : a.le c := fun i j p hp => k i j p (h i j p hp)
theorem Pl.bot_le (ρ : Pl) : bot.le ρ := fun _ _ _ h => by simp [bot] at h

mutual
theorem rep_mono {ρ ρ' : Pl} {I J : Im} (hρ : ρ.le ρ') (hI : I.le J) : ∀ (d : D) (v : Value), rep ρ I d v → rep ρ' J d v
  | .int _ _, _, h | .bool _, _, h | .str _, _, h | .nilp, _, h | .nils, _, h | .nilf, _, h | .junk, _, h => by
    rw [rep] at h ⊢; exact h
  | .ptr .., _, h | .mp .., _, h => by
    rw [rep] at h ⊢; obtain ⟨p, hp, h⟩ := h; exact ⟨p, hρ _ _ _ hp, h⟩
  | .sl .., _, h => by
    rw [rep] at h ⊢; obtain ⟨p, A, c, hp, h⟩ := h; exact ⟨p, A, c, hρ _ _ _ hp, h⟩
  | .pel x off, _, h => by
    rw [rep] at h ⊢
    obtain ⟨b, o, arr, t, fz, u, e, hb, hx, hp⟩ := h
    exact ⟨b, o, arr, t, fz, u, e, hI _ _ hb, rep_mono (Pl.le_refl _) hI x u hx, hp⟩
  | .lst sz full es, _, h => by
    rw [rep] at h ⊢
    obtain ⟨A, c, us, e, h1, hm, h2, h3, h4, h5⟩ := h
    exact ⟨A, c, us, e, h1, hm, h2, repL_mono (Pl.le_refl _) hI es us h3, h4, h5.imp id fun ⟨b, o, arr, t, fz, e, hb, hp⟩ => ⟨b, o, arr, t, fz, e, hI _ _ hb, hp⟩⟩
  | .agg cs, _, h => by rw [rep] at h ⊢; obtain ⟨arr, e, h⟩ := h; exact ⟨arr, e, repL_mono hρ hI cs _ h⟩
  | .tup cs, _, h => by rw [rep] at h ⊢; obtain ⟨arr, e, h⟩ := h; exact ⟨arr, e, repL_mono hρ hI cs _ h⟩
  | .fn f a b, _, h => by rw [rep] at h ⊢; obtain ⟨x, y, e, h1, h2⟩ := h; exact ⟨x, y, e, repL_mono hρ hI a _ h1, repL_mono hρ hI b _ h2⟩
theorem repL_mono {ρ ρ' : Pl} {I J : Im} (hρ : ρ.le ρ') (hI : I.le J) : ∀ (ds : List D) (vs : List Value), repL ρ I ds vs → repL ρ' J ds vs
  | [], _, h => by rw [repL_nil] at h ⊢; exact h
  | d :: ds, _, h => by
    obtain ⟨u, us, rfl, hu, h⟩ := repL_cons.1 h
    exact repL_cons.2 ⟨u, us, rfl, rep_mono hρ hI d u hu, repL_mono hρ hI ds us h⟩
end

mutual
/-- d names no object. -/
def D.pure : D → Bool
  | .ptr .. | .sl .. | .mp .. => false
  | .agg cs => D.pureL cs
  | .tup cs => D.pureL cs
  | .fn _ a b => D.pureL a && D.pureL b
  | _ => true
def D.pureL : List D → Bool
  | [] => true
  | d :: ds => d.pure && D.pureL ds
end

mutual
theorem rep_pure {ρ ρ' : Pl} {I : Im} : ∀ (d : D) (v : Value), d.pure = true → rep ρ I d v → rep ρ' I d v
  | .int _ _, _, _, h | .bool _, _, _, h | .str _, _, _, h | .nilp, _, _, h | .nils, _, _, h | .nilf, _, _, h | .junk, _, _, h => by
    rw [rep] at h ⊢; exact h
  | .pel x off, _, _, h => by rw [rep] at h ⊢; exact h
  | .lst sz full es, _, _, h => by rw [rep] at h ⊢; exact h
  | .agg cs, _, hp, h => by
    rw [rep] at h ⊢; obtain ⟨arr, e, h⟩ := h; exact ⟨arr, e, repL_pure cs _ (by simpa [D.pure] using hp) h⟩
  | .tup cs, _, hp, h => by
    rw [rep] at h ⊢; obtain ⟨arr, e, h⟩ := h; exact ⟨arr, e, repL_pure cs _ (by simpa [D.pure] using hp) h⟩
  | .fn f a b, _, hp, h => by
    rw [rep] at h ⊢; obtain ⟨x, y, e, h1, h2⟩ := h
    have hp' : D.pureL a = true ∧ D.pureL b = true := by simpa [D.pure] using hp
    exact ⟨x, y, e, repL_pure a _ hp'.1 h1, repL_pure b _ hp'.2 h2⟩
  | .ptr .., _, hp, _ | .sl .., _, hp, _ | .mp .., _, hp, _ => by simp [D.pure] at hp
theorem repL_pure {ρ ρ' : Pl} {I : Im} : ∀ (ds : List D) (vs : List Value), D.pureL ds = true → repL ρ I ds vs → repL ρ' I ds vs
  | [], _, _, h => by rw [repL_nil] at h ⊢; exact h
  | d :: ds, _, hp, h => by
    obtain ⟨u, us, rfl, hu, h⟩ := repL_cons.1 h
    have hp' : d.pure = true ∧ D.pureL ds = true := by simpa [D.pureL] using hp
    exact repL_cons.2 ⟨u, us, rfl, rep_pure d u hp'.1 hu, repL_pure ds us hp'.2 h⟩
end
theorem rep_bot {ρ : Pl} {I : Im} {d : D} {v : Value} (h : rep bot I d v) : rep ρ I d v := rep_mono (Pl.bot_le ρ) (Im.le_refl I) d v h
theorem repL_bot {ρ : Pl} {I : Im} {ds : List D} {vs : List Value} (h : repL bot I ds vs) : repL ρ I ds vs := repL_mono (Pl.bot_le ρ) (Im.le_refl I) ds vs h

/-- The cells of a value. -/
def D.cells : D → List D
  | .agg cs => cs
  | d => [d]
theorem rep_cells {ρ : Pl} {I : Im} {d : D} {v : Value} (hj : d ≠ .junk) (h : rep ρ I d v) : repL ρ I d.cells v.cells.toList := by
  cases d <;> simp only [D.cells] <;> try (rw [repL_cons])
  case agg cs => rw [rep] at h; obtain ⟨arr, rfl, h⟩ := h; exact h
  case junk => exact absurd rfl hj
  all_goals
    refine ⟨v, [], ?_, h, repL_nil.2 rfl⟩
    rw [rep] at h
  case int => subst h; rfl
  case bool => subst h; rfl
  case str => subst h; rfl
  case nilp => subst h; rfl
  case ptr => obtain ⟨p, _, _, rfl⟩ := h; rfl
  case pel => obtain ⟨b, o, arr, t, fz, u, rfl, _⟩ := h; rfl
  case nils => subst h; rfl
  case lst => obtain ⟨A, c, us, rfl, _⟩ := h; rfl
  case sl => obtain ⟨p, A, c, _, rfl, _⟩ := h; rfl
  case tup => obtain ⟨arr, rfl, h⟩ := h; rfl
  case fn => obtain ⟨x, y, rfl, _⟩ := h; rfl
  case nilf => subst h; rfl
  case mp => obtain ⟨p, _, _, rfl⟩ := h; rfl

/-! ### Objects -/
inductive O where
  | gone
  | row (t : TypeId) (sz : Nat) (pure : Bool) (es : List D)
  | map (es : List (Int × D))
/-- One object, or a row of them. -/
inductive Fam where
  | one (o : O)
  | fam (f : Nat → O)
  | rows (t : TypeId) (sz : Nat) (C : Nat → List D)
def Fam.at : Fam → Nat → O
  | .one o, 0 => o
  | .one _, _ + 1 => .gone
  | .fam f, j => f j
  | .rows t sz C, j => .row t sz true (C j)
abbrev Objs := List Fam
def Objs.at (os : Objs) (i j : Nat) : O := (os.getD i (.fam fun _ => .gone)).at j
@[reducible] def one (o : O) : Fam := .one o
def Fam.put (F : Fam) (j : Nat) (o : O) : Fam :=
  match F with
  | .one x => match j with
    | 0 => .one o
    | j + 1 => .fam (fun k => if k = j + 1 then o else (Fam.one x).at k)
  | .fam f => .fam (fun k => if k = j then o else f k)
  | .rows t sz C => match o with
    | .row t' sz' true es => bif Nat.beq t t' && Nat.beq sz sz' then .rows t sz (fun k => bif Nat.beq k j then es else C k) else .fam (fun k => if k = j then .row t' sz' true es else .row t sz true (C k))
    | o => .fam (fun k => if k = j then o else .row t sz true (C k))
def Objs.put (os : Objs) (i j : Nat) (o : O) : Objs := os.set i ((os.getD i (.fam fun _ => .gone)).put j o)
def objOk (ρ : Pl) (I : Im) (w : World) (p : Nat × Nat) : O → Prop
  | .gone => True
  | .row t sz pure es => es.length ≤ p.2 ∧ p.2 ≤ maxLen ∧ (0 < p.2 → ∃ arr us, w.heap[p.1]? = some (.cells arr t (0, 0)) ∧ arr.size = p.2 * sz ∧
      repL (if pure then bot else ρ) I es us ∧ (∀ u ∈ us, Value.fine u sz) ∧ flat us <+: arr.toList)
  | .map es => 0 < p.2 ∧ ∃ ents clk, w.heap[p.1]? = some (.map ents clk) ∧ ∃ us, repL ρ I (es.map (·.2)) us ∧ ents.toList.map (fun e => (e.key, e.val)) = (es.zip us).map (fun x => (.int .i64 x.1.1, x.2))
/-- Where the objects lie. -/
def foot (ρ : Pl) (os : Objs) (b : Nat) : Prop := ∃ i j p, os.at i j ≠ .gone ∧ ρ i j = some p ∧ 0 < p.2 ∧ p.1 = b
structure Sat (ρ : Pl) (I : Im) (os : Objs) (w : World) : Prop where
  im : ∀ b o, I b = some o → w.heap[b]? = some o
  ok : ∀ i j, os.at i j ≠ .gone → ∃ p, ρ i j = some p ∧ objOk ρ I w p (os.at i j)
  inj : ∀ i j i' j' p p', os.at i j ≠ .gone → os.at i' j' ≠ .gone → ρ i j = some p → ρ i' j' = some p' → 0 < p.2 → 0 < p'.2 → p.1 = p'.1 → i = i' ∧ j = j'
  apart : ∀ b, foot ρ os b → I b = none
  dom : ∀ i j, os.length ≤ i → ρ i j = none
/-- What has become of the world since the call began. -/
structure Fr (ρ0 : Pl) (I0 : Im) (os0 : Objs) (w0 : World) (ρ : Pl) (I : Im) (os : Objs) (w : World) : Prop where
  wos : w.os = w0.os
  tape : w.tape = w0.tape
  output : w.output = w0.output
  size : w0.heap.size ≤ w.heap.size
  kept : ∀ b, b < w0.heap.size → ¬ foot ρ0 os0 b → w.heap[b]? = w0.heap[b]?
  len : os0.length ≤ os.length
  same : ∀ i j, i < os0.length → ρ i j = ρ0 i j
  imle : I0.le I
  imnew : ∀ b, I b ≠ none → I0 b ≠ none ∨ foot ρ0 os0 b ∨ w0.heap.size ≤ b
  obnew : ∀ b, foot ρ os b → foot ρ0 os0 b ∨ w0.heap.size ≤ b
end Go.Proofs.Ytaplihoeephbeaa.V
