/- VOps: a text of a symbolic executor that is proved sound, and contracts that are proved with it. -/
import Derived.Test.YtaplihoeephbeaaVSat
import Derived.Deep.MidRow
import Derived.Deep.AppendSrc
import Derived.Laws.MakeOwn
namespace Go.Proofs.Ytaplihoeephbeaa.V
open Go Go.RowKit

/-! ### Types -/
inductive TK where
  | int (k : IntKind) | bool | str | ptr | slice (e : TypeId) | struct (fs : List (Nat × TypeId)) | arr (n : Nat) (e : TypeId) | map (k e : TypeId) | func | other
structure TI where
  k : TK
  size : Nat
  bytes : Nat
  zero : D
abbrev Tau := TypeId → Option TI
def kindOk : TK → TypeDesc → Prop
  | .int k, d => d = .int k
  | .bool, d => d = .bool
  | .str, d => d = .string
  | .ptr, d => ∃ e, d = .pointer e
  | .slice e, d => d = .slice e
  | .struct fs, d => ∃ F : Array Field, d = .struct F ∧ fs = F.toList.map fun f => (f.offset, f.type)
  | .arr n e, d => d = .array n e
  | .map k e, d => d = .map k e
  | .func, d => ∃ a b c, d = .func a b c
  | .other, _ => True
def TK.agg : TK → Option Bool
  | .struct _ | .arr .. => some true
  | .other => none
  | _ => some false
structure TypeOk (P : Program) (t : TypeId) (ti : TI) (i : TypeInfo) (d : TypeDesc) : Prop where
  info : P.info? t = some i
  und : P.underlying t = some d
  size : i.size = ti.size
  bytes : i.bytes = ti.bytes
  kind : kindOk ti.k d
  zero : ti.zero = .junk ∨ ∃ z, i.zero = some z ∧ (∀ ρ I, rep ρ I ti.zero z) ∧ Value.fine z ti.size
def TauOk (P : Program) (τ : Tau) : Prop := ∀ t ti, τ t = some ti → ∃ i d, TypeOk P t ti i d

/-! ### The words of a condition -/
inductive Br : Bool → Prop → Prop → Prop
  | t {A B : Prop} : A → Br true A B
  | f {A B : Prop} : B → Br false A B
inductive Opt {α : Type} : Option α → (α → Prop) → Prop
  | mk {x : α} {K : α → Prop} : K x → Opt (some x) K
inductive Ar (k : IntKind) (e : Int) (K : Int → Prop) : Prop
  | mk (z : Int) (h : z = k.wrap e) (hk : K z) : Ar k e K

/-- A new row: the call's own, to be written and to grow; or only read from now on. -/
inductive App (K : D → Objs → Prop) (os : Objs) (e : TypeId) (sz len : Nat) (pr : Bool) (es : List D) : Prop
  | own (h : K (.sl os.length 0 sz 0 len none) (os ++ [one (.row e sz pr es)]))
  | only (full : Bool) (hf : full = false) (hp : pr = true) (h : K (.lst sz full es) os)
/-- A term that may be told in other words. -/
inductive Nm {α : Type} (e : α) (K : α → Prop) : Prop
  | mk (x : α) (h : x = e) (hk : K x)
theorem Nm.iff {α : Type} {e : α} {K : α → Prop} : Nm e K ↔ K e := ⟨fun ⟨x, h, hk⟩ => h ▸ hk, fun h => ⟨e, rfl, h⟩⟩
theorem Br.iff {b : Bool} {A B : Prop} : Br b A B ↔ if b then A else B := by
  cases b <;> constructor <;> intro h
  · cases h; assumption
  · exact .f h
  · cases h; assumption
  · exact .t h
theorem Opt.iff {α : Type} {o : Option α} {K : α → Prop} : Opt o K ↔ ∃ x, o = some x ∧ K x :=
  ⟨fun h => by cases h with | mk h => exact ⟨_, rfl, h⟩, fun ⟨x, e, h⟩ => by subst e; exact .mk h⟩

def D.force (K : D → Prop) : D → Prop
  | .int k n => K (.int k n)
  | .bool b => K (.bool b)
  | .str s => K (.str s)
  | .nilp => K .nilp
  | .ptr i j sz e off => K (.ptr i j sz e off)
  | .pel x off => K (.pel x off)
  | .nils => K .nils
  | .lst sz f es => K (.lst sz f es)
  | .sl i j sz lo len cap => K (.sl i j sz lo len cap)
  | .agg cs => K (.agg cs)
  | .tup vs => K (.tup vs)
  | .fn f a b => K (.fn f a b)
  | .nilf => K .nilf
  | .mp i j => K (.mp i j)
  | .junk => K .junk
theorem D.force_eq (K : D → Prop) (d : D) : D.force K d = K d := by cases d <;> rfl

def forceL : List D → (List D → Prop) → Prop
  | [], K => K []
  | d :: ds, K => D.force (fun d => forceL ds (fun ds => K (d :: ds))) d
theorem forceL_eq : ∀ (ds : List D) (K : List D → Prop), forceL ds K = K ds
  | [], K => rfl
  | d :: ds, K => by rw [forceL, D.force_eq, forceL_eq ds]
def D.deep (K : D → Prop) : D → Prop
  | .agg cs => forceL cs (fun cs => K (.agg cs))
  | d => D.force K d
theorem D.deep_eq (K : D → Prop) (d : D) : D.deep K d = K d := by
  cases d <;> first | rfl | exact forceL_eq _ _

/-- One cell's value. -/
def D.one : D → Bool
  | .agg _ | .tup _ | .junk => false
  | _ => true
theorem rep_one {ρ : Pl} {I : Im} {d : D} {v : Value} (h1 : d.one = true) (h : rep ρ I d v) : v.oneCell' = true := by
  cases d <;> simp [D.one] at h1 <;> rw [rep] at h
  case int => subst h; rfl
  case bool => subst h; rfl
  case str => subst h; rfl
  case nilp => subst h; rfl
  case ptr => obtain ⟨p, _, _, rfl⟩ := h; rfl
  case pel => obtain ⟨b, o, arr, t, fz, u, rfl, _⟩ := h; rfl
  case nils => subst h; rfl
  case lst => obtain ⟨A, c, us, rfl, _⟩ := h; rfl
  case sl => obtain ⟨p, A, c, _, rfl, _⟩ := h; rfl
  case fn => obtain ⟨x, y, rfl, _⟩ := h; rfl
  case nilf => subst h; rfl
  case mp => obtain ⟨p, _, _, rfl⟩ := h; rfl
theorem repL_one {ρ : Pl} {I : Im} : ∀ {ds : List D} {vs : List Value}, ds.all D.one = true → repL ρ I ds vs → ∀ c ∈ vs, c.oneCell' = true
  | [], _, _, h => by rw [repL_nil] at h; subst h; simp
  | d :: ds, _, h1, h => by
    obtain ⟨u, us, rfl, hu, h⟩ := repL_cons.1 h
    simp only [List.all_cons, Bool.and_eq_true] at h1
    intro c hc
    rcases List.mem_cons.1 hc with rfl | hc
    · exact rep_one h1.1 hu
    · exact repL_one h1.2 h c hc

/-- A constant. -/
def dOf1 : Value → D
  | .int k n => .int k n
  | .bool b => .bool b
  | .string s => .str s
  | .pointer none => .nilp
  | .slice none 0 0 => .nils
  | .nilFunc => .nilf
  | _ => .junk
def dOf : Value → D
  | .agg cs => .agg (cs.toList.map dOf1)
  | v => dOf1 v
theorem rep_dOf1 (ρ : Pl) (I : Im) (v : Value) : rep ρ I (dOf1 v) v := by
  unfold dOf1
  split <;> rw [rep] <;> trivial
theorem repL_dOf1 (ρ : Pl) (I : Im) : ∀ (vs : List Value), repL ρ I (vs.map dOf1) vs
  | [] => repL_nil.2 rfl
  | v :: vs => repL_cons.2 ⟨v, vs, rfl, rep_dOf1 ρ I v, repL_dOf1 ρ I vs⟩
theorem rep_dOf (ρ : Pl) (I : Im) (v : Value) : rep ρ I (dOf v) v := by
  unfold dOf
  split
  · rw [rep]; exact ⟨_, rfl, repL_dOf1 ρ I _⟩
  · exact rep_dOf1 ρ I v

def evalO (get : Nat → D) : Operand → D
  | .tmp t => get t
  | .const v => dOf v
  | .global _ => .junk
  | .func f => .fn (.func f) [] []
theorem rep_evalO {ρ : Pl} {I : Im} {get : Nat → D} {a : Act} (h : ∀ i, rep ρ I (get i) (a.tmps.getD i undef)) (x : Operand) : rep ρ I (evalO get x) (a.eval x) := by
  cases x with
  | tmp t => exact h t
  | const v => exact rep_dOf ρ I v
  | global g => simp only [evalO]; rw [rep]; trivial
  | func f => simp only [evalO, Act.eval]; rw [rep]; exact ⟨#[], #[], rfl, repL_nil.2 rfl, repL_nil.2 rfl⟩
theorem repL_evalO {ρ : Pl} {I : Im} {get : Nat → D} {a : Act} (h : ∀ i, rep ρ I (get i) (a.tmps.getD i undef)) : ∀ (xs : List Operand), repL ρ I (xs.map (evalO get)) (xs.map a.eval)
  | [] => repL_nil.2 rfl
  | x :: xs => repL_cons.2 ⟨_, _, rfl, rep_evalO h x, repL_evalO h xs⟩

/-- A part of an element: what a load gives. -/
def ldPart (τ : Tau) (t : TypeId) (cs : List D) (off : Nat) (K : D → Prop) : Prop :=
  match τ t with
  | none => False
  | some ti => match ti.k.agg with
    | none => False
    | some true => bif Nat.beq off 0 && Nat.beq cs.length ti.size then K (.agg cs) else bif Nat.beq ((cs.drop off).take ti.size).length ti.size then forceL ((cs.drop off).take ti.size) (fun cs => K (.agg cs)) else False
    | some false => ti.size = 1 ∧ Opt cs[off]? (D.force K)
def D.upd (x : D) (off : Nat) (ds : List D) : D :=
  match x with
  | .agg cs => .agg (cs.take off ++ (ds ++ cs.drop (off + ds.length)))
  | _ => ds.headD .junk

def vcBin (op : BinOp) (x y : D) (K : D → Prop) : Prop :=
  match op, x, y with
  | .add, .int k a, .int k' b => if k = k' then Ar k (a + b) (fun z => K (.int k z)) else False
  | .sub, .int k a, .int k' b => if k = k' then Ar k (a - b) (fun z => K (.int k z)) else False
  | .mul, .int k a, .int k' b => if k = k' then Ar k (a * b) (fun z => K (.int k z)) else False
  | .quo, .int k a, .int k' b => if k = k' then b ≠ 0 ∧ Ar k (a.tdiv b) (fun z => K (.int k z)) else False
  | .rem, .int k a, .int k' b => if k = k' then b ≠ 0 ∧ K (.int k (a.tmod b)) else False
  | .eql, .int k a, .int k' b => if k = k' then K (.bool (decide (a = b))) else False
  | .neq, .int k a, .int k' b => if k = k' then K (.bool (decide (a ≠ b))) else False
  | .lss, .int k a, .int k' b => if k = k' then K (.bool (decide (a < b))) else False
  | .leq, .int k a, .int k' b => if k = k' then K (.bool (decide (a ≤ b))) else False
  | .gtr, .int k a, .int k' b => if k = k' then K (.bool (decide (b < a))) else False
  | .geq, .int k a, .int k' b => if k = k' then K (.bool (decide (b ≤ a))) else False
  | _, _, _ => False
/-- Sameness of two values that are no whole numbers. -/
def vcEq (k : TK) (x y : D) (K : Bool → Prop) : Prop :=
  match k, x, y with
  | .bool, .bool a, .bool b => K (a == b)
  | .str, .str a, .str b => K (decide (a = b))
  | .ptr, .nilp, .nilp => K true
  | .ptr, .nilp, .ptr .. => K false
  | .ptr, .ptr .., .nilp => K false
  | .func, .nilf, .nilf => K true
  | .func, .nilf, .fn .. => K false
  | .func, .fn .., .nilf => K false
  | _, _, _ => False
theorem ba_eq (a b : ByteArray) : (a == b) = decide (a = b) := by
  cases a with | mk x => cases b with | mk y =>
  show (x == y) = _
  by_cases h : x = y
  · subst h; simp
  · have : ¬ (ByteArray.mk x = ByteArray.mk y) := fun e => h (by injection e)
    simp [this, h]

/-! ### The operations -/
/-- What a call comes to: the function's number, its arguments, the objects. -/
abbrev CallW := FuncId → List D → Objs → (D → Objs → Prop) → Prop

def fillD (place : Nat → Option (Nat × Nat)) (cells : List D) : List (Nat × D) → Option (List D)
  | [] => some cells
  | (i, v) :: rest =>
    match place i with
    | none => none
    | some (off, size) =>
      if v.cells.length = size ∧ off + size ≤ cells.length then fillD place (cells.take off ++ (v.cells ++ cells.drop (off + size))) rest else none
def setAll (es : List D) : List (Nat × D) → List D
  | [] => es
  | (i, d) :: r => setAll (es.set i d) r
def minL : Int → List D → Option Int
  | x, [] => some x
  | x, .int _ y :: r => minL (if y < x then y else x) r
  | _, _ => none
def maxL : Int → List D → Option Int
  | x, [] => some x
  | x, .int _ y :: r => maxL (if x < y then y else x) r
  | _, _ => none
def D.isJunk : D → Bool | .junk => true | _ => false

/-- What is appended: so many elements. -/
def srcD (os : Objs) (sz : Nat) (x : D) (K : List D → Prop) : Prop :=
  match x with
  | .nils => K []
  | .lst sz' _ es => if sz' = sz then K es else False
  | .sl i j sz' lo len _ => if sz' = sz then
      match os.at i j with
      | .row _ sz'' _ es => if sz'' = sz then lo + len ≤ es.length ∧ K ((es.drop lo).take len) else False
      | _ => False
    else False
  | _ => False

def D.isPureP (p : Bool) (ds : List D) : Prop := p = true → D.pureL ds = true
def vcAppend (ti : TI) (e : TypeId) (s : D) (news : List D) (os : Objs) (K : D → Objs → Prop) : Prop :=
  match s with
  | .nils => (news = [] → K .nils os) ∧ (news ≠ [] → news.length * ti.bytes ≤ 140737488355328 ∧ news.length ≤ 140737488355328 ∧
      App K os e ti.size news.length (D.pureL news) news)
  | .lst sz full es => if sz = ti.size ∧ full = true then (news = [] → K (.lst sz full es) os) ∧ (news ≠ [] → (es.length + news.length) * ti.bytes ≤ 140737488355328 ∧ es.length + news.length ≤ 140737488355328 ∧
      App K os e ti.size (es.length + news.length) (D.pureL news) (es ++ news)) else False
  | .sl i j sz lo len cap => if sz = ti.size then match os.at i j with
      | .row t' sz' p es => if t' = e ∧ sz' = sz then match cap with
        | none => if lo = 0 then es.length = len ∧ D.isPureP p news ∧ (len + news.length) * ti.bytes ≤ 140737488355328 ∧ len + news.length ≤ 140737488355328 ∧
          K (.sl os.length 0 sz 0 (len + news.length) none) (os.put i j .gone ++ [one (.row e sz p (es ++ news))]) else False
        | some c => c = len ∧ (news = [] → K (.sl i j sz lo len (some c)) os) ∧ (news ≠ [] → (len + news.length) * ti.bytes ≤ 140737488355328 ∧ len + news.length ≤ 140737488355328 ∧ lo + len ≤ es.length ∧
          App K os e sz (len + news.length) (p && D.pureL news) ((es.drop lo).take len ++ news)) else False
      | _ => False else False
  | _ => False

def D.isPure (p : Bool) (ds : List D) : Bool := !p || D.pureL ds
def ldOf (τ : Tau) (t : TypeId) (d : D) (off : Nat) (K : D → Prop) : Prop := bif d.isJunk then False else ldPart τ t d.cells off K
def vcLoad (τ : Tau) (t : TypeId) (x : D) (os : Objs) (K : D → Objs → Prop) : Prop :=
  match x with
  | .ptr i j sz e off => match os.at i j with
    | .row _ sz' _ es => if sz' = sz then Opt es[e]? (fun d => ldOf τ t d off (fun d => K d os)) else False
    | _ => False
  | .pel d off => ldOf τ t d off (fun d => K d os)
  | _ => False
def vcStore (τ : Tau) (t : TypeId) (x y : D) (os : Objs) (K : D → Objs → Prop) : Prop :=
  match x with
  | .ptr i j sz e off => match os.at i j with
    | .row t' sz' p es => if sz' = sz then Opt es[e]? (fun d => D.force (fun u => match τ t with
        | some ti => bif (u.cells.all D.one && !d.isJunk) && Nat.ble 1 ti.size && (Nat.beq u.cells.length ti.size && (Nat.ble (off + ti.size) d.cells.length && D.isPure p u.cells)) then
            D.deep (fun d' => K (.tup []) (os.put i j (.row t' sz p (es.set e d')))) (d.upd off u.cells) else False
        | none => False) y) else False
    | _ => False
  | _ => False
def vcBuildSlice (τ : Tau) (t : TypeId) (len : Nat) (is : List Nat) (vs : List D) (os : Objs) (K : D → Objs → Prop) : Prop :=
  match τ t with
  | some { k := .slice e, .. } => match τ e with
    | some te => bif (te.zero.isJunk || !(Nat.ble (len * te.size) 65536)) || Nat.beq te.size 0 then False else
        forceL vs fun vs =>
        bif (is.zip vs).all (fun p => Nat.blt p.1 len && (Nat.beq p.2.cells.length te.size && p.2.cells.all D.one)) then
          App K os e te.size len (te.zero.pure && D.pureL vs) (setAll (List.replicate len te.zero) (is.zip vs))
        else False
    | none => False
  | _ => False
def vcBuild (τ : Tau) (t : TypeId) (is : List Nat) (vs : List D) (K : D → Prop) : Prop :=
  match τ t with
  | some { k := .struct fs, zero := .agg zc, .. } => match fs.mapM (fun f => (τ f.2).map fun tf => (f.1, tf.size)) with
    | some places => forceL vs fun vs => bif !(vs.all fun d => !d.isJunk) then False else match fillD (fun i => places[i]?) zc (is.zip vs) with
      | some cs => forceL cs (fun cs => K (.agg cs))
      | none => False
    | none => False
  | _ => False
def vcMakeSlice (τ : Tau) (t : TypeId) (l c : D) (os : Objs) (K : D → Objs → Prop) : Prop :=
  match τ t with
  | some { k := .slice e, .. } => match τ e, l, c with
    | some te, .int _ a, .int _ b => bif te.zero.isJunk || Nat.beq te.size 0 then False else
        (0 ≤ a ∧ a ≤ b) ∧ (te.bytes : Int) * b ≤ 140737488355328 ∧ b ≤ 140737488355328 ∧
          App K os e te.size a.toNat te.zero.pure (List.replicate a.toNat te.zero)
    | _, _, _ => False
  | _ => False
def vcFieldAddr (τ : Tau) (t : TypeId) (x : D) (f : Nat) (K : D → Prop) : Prop :=
  match τ t with
  | some { k := .struct fs, .. } => match fs[f]? with
    | some (o, ft) => match τ ft with
      | some tf => bif Nat.beq tf.size 0 then False else match x with
        | .ptr i j sz e off => K (.ptr i j sz e (off + o))
        | .pel d off => K (.pel d (off + o))
        | _ => False
      | none => False
    | none => False
  | _ => False
def vcField (τ : Tau) (t : TypeId) (x : D) (f : Nat) (K : D → Prop) : Prop :=
  match τ t with
  | some { k := .struct fs, .. } => match fs[f]?, x with
    | some (o, ft), .agg cs => ldPart τ ft cs o K
    | _, _ => False
  | _ => False
def vcIndexAddr (τ : Tau) (t : TypeId) (x i : D) (K : D → Prop) : Prop :=
  match τ t with
  | some { k := .slice e, .. } => match τ e with
    | some te => match x, i with
      | .lst sz _ es, .int _ n => if sz = te.size then 0 ≤ n ∧ Opt es[n.toNat]? (fun d => K (.pel d 0)) else False
      | .sl i j sz lo len _, .int _ n => if sz = te.size then (0 ≤ n ∧ n < (len : Int)) ∧ K (.ptr i j sz (lo + n.toNat) 0) else False
      | _, _ => False
    | none => False
  | _ => False
def vcSlice (τ : Tau) (t : TypeId) (x l : D) (hi mx : Option D) (K : D → Prop) : Prop :=
  match τ t with
  | some { k := .slice e, .. } => match τ e with
    | some te => match x, l with
      | .lst sz full es, .int _ l => match hi.getD (.int .i64 es.length), mx with
        | .int _ h, none => if sz = te.size then (0 ≤ l ∧ l ≤ h) ∧ h ≤ (es.length : Int) ∧ Nm ((es.take h.toNat).drop l.toNat) (fun es' => K (.lst sz (full && decide (h = (es.length : Int))) es')) else False
        | .int _ h, some (.int _ m) => if sz = te.size ∧ hi.isSome = true then (0 ≤ l ∧ l ≤ h) ∧ (h = m ∧ m ≤ (es.length : Int)) ∧ Nm ((es.take h.toNat).drop l.toNat) (fun es' => K (.lst sz true es')) else False
        | _, _ => False
      | .sl i j sz lo len cap, .int _ l => match hi.getD (.int .i64 len), mx with
        | .int _ h, none => if sz = te.size then (0 ≤ l ∧ l ≤ h) ∧ (h ≤ (len : Int) ∧ (l = 0 ∨ l < h)) ∧ K (.sl i j sz (lo + l.toNat) (h.toNat - l.toNat) (cap.map (· - l.toNat))) else False
        | .int _ h, some (.int _ m) => if sz = te.size ∧ hi.isSome = true then (0 ≤ l ∧ l ≤ h) ∧ (h = m ∧ m ≤ (len : Int)) ∧ (l = h → K (.lst sz true [])) ∧ (l < h → K (.sl i j sz (lo + l.toNat) (h.toNat - l.toNat) (some (h.toNat - l.toNat)))) else False
        | _, _ => False
      | .nils, .int _ l => match hi.getD (.int .i64 0), mx with
        | .int _ h, none => (l = 0 ∧ h = 0) ∧ K .nils
        | .int _ h, some (.int _ m) => if hi.isSome = true then (l = 0 ∧ h = 0 ∧ m = 0) ∧ K .nils else False
        | _, _ => False
      | _, _ => False
    | none => False
  | _ => False
def vcEql (τ : Tau) (t : TypeId) (x y : D) (K : Bool → Prop) : Prop :=
  match x, y with
  | .int k a, .int k' b => if k = k' then K (decide (a = b)) else False
  | a, b => match τ t with
    | some ti => vcEq ti.k a b K
    | none => False
def vcBuiltin (τ : Tau) (b : Builtin) (xs : List D) (ts : List TypeId) (os : Objs) (K : D → Objs → Prop) : Prop :=
  match b, xs, ts with
  | .len, [x], [t] => match τ t with
    | some ti => match ti.k, x with
      | .slice _, .nils => K (.int .i64 0) os
      | .slice _, .lst _ _ es => K (.int .i64 (es.length : Int)) os
      | .slice _, .sl _ _ _ _ len _ => K (.int .i64 (len : Int)) os
      | .str, .str s => K (.int .i64 (s.size : Int)) os
      | _, _ => False
    | none => False
  | .min, .int k x :: r, _ => match minL x r with
    | some z => K (.int k z) os
    | none => False
  | .max, .int k x :: r, _ => match maxL x r with
    | some z => K (.int k z) os
    | none => False
  | .append, [s, x], [t, tx] => match τ t, τ tx with
    | some { k := .slice e, .. }, some { k := .slice _, .. } => match τ e with
      | some te => bif Nat.beq te.size 0 || te.zero.isJunk then False else srcD os te.size x (fun news => vcAppend te e s news os K)
      | none => False
    | _, _ => False
  | _, _, _ => False

def isNilS : Operand → Bool
  | .const (.slice none 0 0) => true
  | _ => false
/-- Is a row nil? Of an empty one it may not be known. -/
def vcNil (τ : Tau) (t : TypeId) (x : D) (K : Bool → Prop) : Prop :=
  match τ t with
  | some { k := .slice _, .. } => match x with
    | .nils => K true
    | .lst _ _ es => (es ≠ [] → K false) ∧ (es = [] → K true ∧ K false)
    | .sl _ _ _ _ len _ => (0 < len → K false) ∧ (len = 0 → K true ∧ K false)
    | _ => False
  | _ => False
def vcNilOp (τ : Tau) (t : TypeId) (op : BinOp) (x : D) (K : Bool → Prop) : Prop :=
  match op with
  | .eql => vcNil τ t x K
  | .neq => vcNil τ t x (fun b => K (!b))
  | _ => False
def vcCmp (τ : Tau) (op : BinOp) (t : TypeId) (x y : D) (K : D → Prop) : Prop :=
  match op with
  | .eql => vcEql τ t x y (fun r => K (.bool r))
  | .neq => vcEql τ t x y (fun r => K (.bool (!r)))
  | op => vcBin op x y K
def vcOp (τ : Tau) (C : CallW) (get : Nat → D) (os : Objs) (op : Op) (K : D → Objs → Prop) : Prop :=
  match op with
  | .move x | .assign x => D.force (fun d => K d os) (evalO get x)
  | .pick c a b => match evalO get c with
    | .bool t => Br t (D.force (fun d => K d os) (evalO get a)) (D.force (fun d => K d os) (evalO get b))
    | _ => False
  | .alloc t => match τ t with
    | some ti => bif ti.zero.isJunk then False else K (.ptr os.length 0 ti.size 0 0) (os ++ [one (.row t ti.size false [ti.zero])])
    | none => False
  | .box t x => D.force (fun d => bif d.cells.all D.one then K (.ptr os.length 0 d.cells.length 0 0) (os ++ [one (.row t d.cells.length false [d])]) else False) (evalO get x)
  | .buildSlice t len parts => vcBuildSlice τ t len (parts.toList.map (·.1)) (parts.toList.map fun p => evalO get p.2) os K
  | .build t parts => vcBuild τ t (parts.toList.map (·.1)) (parts.toList.map fun p => evalO get p.2) (fun d => K d os)
  | .load t x => vcLoad τ t (evalO get x) os K
  | .store t x y => vcStore τ t (evalO get x) (evalO get y) os K
  | .nilCheck x => match evalO get x with
    | .ptr i j sz e off => K (.ptr i j sz e off) os
    | .pel d off => K (.pel d off) os
    | .fn (.func f) a b => K (.fn (.func f) a b) os
    | _ => False
  | .binOp op t x y _ => bif isNilS y then vcNilOp τ t op (evalO get x) (fun b => K (.bool b) os) else vcCmp τ op t (evalO get x) (evalO get y) (fun d => K d os)
  | .unOp op _ x => match op, evalO get x with
    | .not, .bool b => K (.bool (!b)) os
    | .neg, .int k n => Ar k (0 - n) (fun z => K (.int k z) os)
    | _, _ => False
  | .convert src dst x => match τ src, τ dst, evalO get x with
    | some { k := .int _, .. }, some { k := .int k, .. }, .int _ n => Ar k n (fun z => K (.int k z) os)
    | some { k := .str, .. }, some { k := .str, .. }, .str s => K (.str s) os
    | _, _, _ => False
  | .makeFunc fn a b => forceL (a.toList.map (evalO get)) fun x => forceL (b.toList.map (evalO get)) fun y => K (.fn fn x y) os
  | .makeSlice t l c => vcMakeSlice τ t (evalO get l) (evalO get c) os K
  | .fieldAddr t x f => vcFieldAddr τ t (evalO get x) f (fun d => K d os)
  | .field t x f => vcField τ t (evalO get x) f (fun d => K d os)
  | .indexAddr t x i => vcIndexAddr τ t (evalO get x) (evalO get i) (fun d => K d os)
  | .slice t x lo hi mx => vcSlice τ t (evalO get x) ((lo.map (evalO get)).getD (.int .i64 0)) (hi.map (evalO get)) (mx.map (evalO get)) (fun d => K d os)
  | .extract x i => match evalO get x with
    | .tup vs => match vs[i]? with
      | some d => D.force (fun d => K d os) d
      | none => False
    | _ => False
  | .call { callee := .value f, args, .. } => match evalO get f with
    | .fn (.func n) a b => forceL (a ++ (args.toList.map (evalO get) ++ b)) fun xs => C n xs os K
    | _ => False
  | .call { callee := .builtin b, args, argTypes } => vcBuiltin τ b (args.toList.map (evalO get)) argTypes.toList os K
  | _ => False
end Go.Proofs.Ytaplihoeephbeaa.V
