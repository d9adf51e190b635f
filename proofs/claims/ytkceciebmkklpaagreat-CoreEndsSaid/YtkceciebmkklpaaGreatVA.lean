/- VA: a text of a symbolic executor that is proved sound, and contracts that are proved with it. -/
import Derived.Calls
import Derived.Below
import Derived.Laws.AppendOwn
import Derived.Deep.MidRow
import Derived.Deep.AppendSrc
import Derived.Laws.MakeOwn
import Derived.Deep.Upon
import Derived.Lib.AppendZeros
import Derived.RangeFuncRecord
import Derived.Laws.Shifts
import Derived.Laws.Strings
import Derived.Laws.BytesString
set_option linter.unusedVariables false
set_option linter.unusedSimpArgs false
section
namespace Go.Proofs.YtkceciebmkklpaaGreat.V
open Go
inductive D where
 | int (k:IntKind) (n:Int)
 | bool (b:Bool)
 | str (s:ByteArray)
 | nilp
 | ptr (i j sz e off:Nat)
 | pel (x:D) (off:Nat)
 | nils
 | lst (sz:Nat) (full:Bool) (es:List D)
 | sl (i j sz lo len:Nat) (cap:Option Nat)
 | agg (cs:List D)
 | tup (vs:List D)
 | fn (f:Fn) (first captured:List D)
 | nilf
 | mp (i j:Nat)
 | yl (i j:Nat)
 | junk
 deriving Inhabited
abbrev Pl:=Nat→Nat→Option (Nat × Nat)
def bot:Pl:=fun _ _=>none
abbrev Im:=Nat→Option Obj
def Value.fine (u:Value) (sz:Nat):Prop:=u.cells.size = sz∧∀ c ∈ u.cells.toList,c.oneCell' = true
def flat (us:List Value):List Value:=us.flatMap fun u=>u.cells.toList
mutual
def rep (ρ:Pl) (I:Im):D→Value→Prop
 | .int k n,v=>v = .int k n
 | .bool b,v=>v = .bool b
 | .str s,v=>v = .string s
 | .nilp,v=>v = .pointer none
 | .ptr i j sz e off,v=>∃ p,ρ i j = some p∧0 < p.2∧v = .pointer (some ⟨p.1,e * sz+off,none⟩)
 | .pel x off,v=>∃ b o arr t fz u,v = .pointer (some ⟨b,o+off,none⟩)∧I b = some (.cells arr t fz)∧rep bot I x u∧u.cells.toList <+: arr.toList.drop o
 | .nils,v=>v = .slice none 0 0
 | .lst sz full es,v=>∃ A c us,v = .slice A es.length c∧es.length≤c∧c≤maxLen∧(full = true→c = es.length)∧repL bot I es us∧(∀ u ∈ us,Value.fine u sz) ∧
   (es = []∨∃ b o arr t fz,A = some ⟨b,o,none⟩∧I b = some (.cells arr t fz)∧flat us <+: arr.toList.drop o)
 | .sl i j sz lo len cap,v=>∃ p A c,ρ i j = some p∧v = .slice A len c∧len≤c∧c≤maxLen∧lo+c≤p.2∧(match cap with | none=>lo+c = p.2 | some c'=>c = c') ∧
   (lo < p.2→A = some ⟨p.1,lo * sz,none⟩)
 | .agg cs,v=>∃ arr,v = .agg arr∧repL ρ I cs arr.toList
 | .tup vs,v=>∃ arr,v = .tuple arr∧repL ρ I vs arr.toList
 | .fn f a b,v=>∃ x y,v = .func f x y∧repL ρ I a x.toList∧repL ρ I b y.toList
 | .nilf,v=>v = .nilFunc
 | .mp i j,v=>∃ p,ρ i j = some p∧0 < p.2∧v = .map (some p.1)
 | .yl i j,v=>∃ p,ρ i j = some p∧0 < p.2∧v = .func (.yield p.1) #[] #[]
 | .junk,_=>True
def repL (ρ:Pl) (I:Im):List D→List Value→Prop
 | [],vs=>vs = []
 | d :: ds,vs=>∃ u us,vs = u :: us∧rep ρ I d u∧repL ρ I ds us
end
theorem repL_nil {ρ:Pl} {I:Im} {vs:List Value}:repL ρ I [] vs ↔ vs = []:=by rw [repL]
theorem repL_cons {ρ:Pl} {I:Im} {d:D} {ds:List D} {vs:List Value}:repL ρ I (d :: ds) vs ↔ ∃ u us,vs = u :: us∧rep ρ I d u∧repL ρ I ds us:=by rw [repL]
theorem repL_length {ρ:Pl} {I:Im}:∀ {ds:List D} {vs:List Value},repL ρ I ds vs→vs.length = ds.length
 | [],_,h=>by rw [repL_nil] at h; simp [h]
 | d :: ds,_,h=>by
  obtain ⟨u,us,rfl,_,h⟩:=repL_cons.1 h
  simp [repL_length h]
theorem repL_get {ρ:Pl} {I:Im}:∀ {ds:List D} {vs:List Value} {n:Nat} {d:D},repL ρ I ds vs→ds[n]? = some d→∃ v,vs[n]? = some v∧rep ρ I d v
 | [],_,_,_,_,h=>by simp at h
 | e :: ds,_,n,d,h,hn=>by
  obtain ⟨u,us,rfl,hu,h⟩:=repL_cons.1 h
  cases n with
  | zero=>simp at hn; subst hn; exact ⟨u,rfl,hu⟩
  | succ n=>obtain ⟨v,hv,hr⟩:=repL_get h (n:=n) (d:=d) (by simpa using hn); exact ⟨v,by simpa using hv,hr⟩
theorem repL_append {ρ:Pl} {I:Im}:∀ {ds es:List D} {vs us:List Value},repL ρ I ds vs→repL ρ I es us→repL ρ I (ds ++ es) (vs ++ us)
 | [],_,_,_,h,k=>by rw [repL_nil] at h; subst h; exact k
 | d :: ds,_,_,_,h,k=>by
  obtain ⟨u,us,rfl,hu,h⟩:=repL_cons.1 h
  exact repL_cons.2 ⟨u,_,rfl,hu,repL_append h k⟩
theorem repL_take {ρ:Pl} {I:Im}:∀ {ds:List D} {vs:List Value} (n:Nat),repL ρ I ds vs→repL ρ I (ds.take n) (vs.take n)
 | _,_,0,_=>by simp [repL_nil]
 | [],_,n+1,h=>by rw [repL_nil] at h; subst h; simp [repL_nil]
 | d :: ds,_,n+1,h=>by
  obtain ⟨u,us,rfl,hu,h⟩:=repL_cons.1 h
  simp only [List.take_succ_cons]
  exact repL_cons.2 ⟨u,_,rfl,hu,repL_take n h⟩
theorem repL_drop {ρ:Pl} {I:Im}:∀ {ds:List D} {vs:List Value} (n:Nat),repL ρ I ds vs→repL ρ I (ds.drop n) (vs.drop n)
 | _,_,0,h=>by simpa using h
 | [],_,n+1,h=>by rw [repL_nil] at h; subst h; simp [repL_nil]
 | d :: ds,_,n+1,h=>by
  obtain ⟨u,us,rfl,hu,h⟩:=repL_cons.1 h
  simpa using repL_drop n h
theorem repL_set {ρ:Pl} {I:Im}:∀ {ds:List D} {vs:List Value} (n:Nat) {d:D} {v:Value},repL ρ I ds vs→rep ρ I d v→repL ρ I (ds.set n d) (vs.set n v)
 | [],_,n,_,_,h,_=>by rw [repL_nil] at h; subst h; simp [repL_nil]
 | e :: ds,_,n,_,_,h,hd=>by
  obtain ⟨u,us,rfl,hu,h⟩:=repL_cons.1 h
  cases n with
  | zero=>exact repL_cons.2 ⟨_,_,rfl,hd,h⟩
  | succ n=>exact repL_cons.2 ⟨_,_,rfl,hu,repL_set n h hd⟩
def Im.le (I J:Im):Prop:=∀ b o,I b = some o→J b = some o
theorem Im.le_refl (I:Im):I.le I:=fun _ _ h=>h
theorem Im.le_trans {I J K:Im} (h:I.le J) (k:J.le K):I.le K:=fun b o hb=>k b o (h b o hb)
def Pl.le (ρ ρ':Pl):Prop:=∀ i j p,ρ i j = some p→ρ' i j = some p
theorem Pl.le_refl (ρ:Pl):ρ.le ρ:=fun _ _ _ h=>h
theorem Pl.le_trans {a b c:Pl} (h:a.le b) (k:b.le c):a.le c:=fun i j p hp=>k i j p (h i j p hp)
theorem Pl.bot_le (ρ:Pl):bot.le ρ:=fun _ _ _ h=>by simp [bot] at h
mutual
theorem rep_mono {ρ ρ':Pl} {I J:Im} (hρ:ρ.le ρ') (hI:I.le J):∀ (d:D) (v:Value),rep ρ I d v→rep ρ' J d v
 | .int _ _,_,h | .bool _,_,h | .str _,_,h | .nilp,_,h | .nils,_,h | .nilf,_,h | .junk,_,h=>by
  rw [rep] at h ⊢; exact h
 | .ptr ..,_,h | .mp ..,_,h | .yl ..,_,h=>by
  rw [rep] at h ⊢; obtain ⟨p,hp,h⟩:=h; exact ⟨p,hρ _ _ _ hp,h⟩
 | .sl ..,_,h=>by
  rw [rep] at h ⊢; obtain ⟨p,A,c,hp,h⟩:=h; exact ⟨p,A,c,hρ _ _ _ hp,h⟩
 | .pel x off,_,h=>by
  rw [rep] at h ⊢
  obtain ⟨b,o,arr,t,fz,u,e,hb,hx,hp⟩:=h
  exact ⟨b,o,arr,t,fz,u,e,hI _ _ hb,rep_mono (Pl.le_refl _) hI x u hx,hp⟩
 | .lst sz full es,_,h=>by
  rw [rep] at h ⊢
  obtain ⟨A,c,us,e,h1,hm,h2,h3,h4,h5⟩:=h
  exact ⟨A,c,us,e,h1,hm,h2,repL_mono (Pl.le_refl _) hI es us h3,h4,h5.imp id fun ⟨b,o,arr,t,fz,e,hb,hp⟩=>⟨b,o,arr,t,fz,e,hI _ _ hb,hp⟩⟩
 | .agg cs,_,h=>by rw [rep] at h ⊢; obtain ⟨arr,e,h⟩:=h; exact ⟨arr,e,repL_mono hρ hI cs _ h⟩
 | .tup cs,_,h=>by rw [rep] at h ⊢; obtain ⟨arr,e,h⟩:=h; exact ⟨arr,e,repL_mono hρ hI cs _ h⟩
 | .fn f a b,_,h=>by rw [rep] at h ⊢; obtain ⟨x,y,e,h1,h2⟩:=h; exact ⟨x,y,e,repL_mono hρ hI a _ h1,repL_mono hρ hI b _ h2⟩
theorem repL_mono {ρ ρ':Pl} {I J:Im} (hρ:ρ.le ρ') (hI:I.le J):∀ (ds:List D) (vs:List Value),repL ρ I ds vs→repL ρ' J ds vs
 | [],_,h=>by rw [repL_nil] at h ⊢; exact h
 | d :: ds,_,h=>by
  obtain ⟨u,us,rfl,hu,h⟩:=repL_cons.1 h
  exact repL_cons.2 ⟨u,us,rfl,rep_mono hρ hI d u hu,repL_mono hρ hI ds us h⟩
end
mutual
def D.pure:D→Bool
 | .ptr .. | .sl .. | .mp .. | .yl ..=>false
 | .agg cs=>D.pureL cs
 | .tup cs=>D.pureL cs
 | .fn _ a b=>D.pureL a && D.pureL b
 | _=>true
def D.pureL:List D→Bool
 | []=>true
 | d :: ds=>d.pure && D.pureL ds
end
mutual
theorem rep_pure {ρ ρ':Pl} {I:Im}:∀ (d:D) (v:Value),d.pure = true→rep ρ I d v→rep ρ' I d v
 | .int _ _,_,_,h | .bool _,_,_,h | .str _,_,_,h | .nilp,_,_,h | .nils,_,_,h | .nilf,_,_,h | .junk,_,_,h=>by
  rw [rep] at h ⊢; exact h
 | .pel x off,_,_,h=>by rw [rep] at h ⊢; exact h
 | .lst sz full es,_,_,h=>by rw [rep] at h ⊢; exact h
 | .agg cs,_,hp,h=>by
  rw [rep] at h ⊢; obtain ⟨arr,e,h⟩:=h; exact ⟨arr,e,repL_pure cs _ (by simpa [D.pure] using hp) h⟩
 | .tup cs,_,hp,h=>by
  rw [rep] at h ⊢; obtain ⟨arr,e,h⟩:=h; exact ⟨arr,e,repL_pure cs _ (by simpa [D.pure] using hp) h⟩
 | .fn f a b,_,hp,h=>by
  rw [rep] at h ⊢; obtain ⟨x,y,e,h1,h2⟩:=h
  have hp':D.pureL a = true∧D.pureL b = true:=by simpa [D.pure] using hp
  exact ⟨x,y,e,repL_pure a _ hp'.1 h1,repL_pure b _ hp'.2 h2⟩
 | .ptr ..,_,hp,_ | .sl ..,_,hp,_ | .mp ..,_,hp,_ | .yl ..,_,hp,_=>by simp [D.pure] at hp
theorem repL_pure {ρ ρ':Pl} {I:Im}:∀ (ds:List D) (vs:List Value),D.pureL ds = true→repL ρ I ds vs→repL ρ' I ds vs
 | [],_,_,h=>by rw [repL_nil] at h ⊢; exact h
 | d :: ds,_,hp,h=>by
  obtain ⟨u,us,rfl,hu,h⟩:=repL_cons.1 h
  have hp':d.pure = true∧D.pureL ds = true:=by simpa [D.pureL] using hp
  exact repL_cons.2 ⟨u,us,rfl,rep_pure d u hp'.1 hu,repL_pure ds us hp'.2 h⟩
end
theorem rep_bot {ρ:Pl} {I:Im} {d:D} {v:Value} (h:rep bot I d v):rep ρ I d v:=rep_mono (Pl.bot_le ρ) (Im.le_refl I) d v h
theorem repL_bot {ρ:Pl} {I:Im} {ds:List D} {vs:List Value} (h:repL bot I ds vs):repL ρ I ds vs:=repL_mono (Pl.bot_le ρ) (Im.le_refl I) ds vs h
def D.cells:D→List D
 | .agg cs=>cs
 | d=>[d]
theorem rep_cells {ρ:Pl} {I:Im} {d:D} {v:Value} (hj:d ≠ .junk) (h:rep ρ I d v):repL ρ I d.cells v.cells.toList:=by
 cases d <;> simp only [D.cells] <;> try (rw [repL_cons])
 case agg cs=>rw [rep] at h; obtain ⟨arr,rfl,h⟩:=h; exact h
 case junk=>exact absurd rfl hj
 all_goals
  refine ⟨v,[],?_,h,repL_nil.2 rfl⟩
  rw [rep] at h
 case int=>subst h; rfl
 case bool=>subst h; rfl
 case str=>subst h; rfl
 case nilp=>subst h; rfl
 case ptr=>obtain ⟨p,_,_,rfl⟩:=h; rfl
 case pel=>obtain ⟨b,o,arr,t,fz,u,rfl,_⟩:=h; rfl
 case nils=>subst h; rfl
 case lst=>obtain ⟨A,c,us,rfl,_⟩:=h; rfl
 case sl=>obtain ⟨p,A,c,_,rfl,_⟩:=h; rfl
 case tup=>obtain ⟨arr,rfl,h⟩:=h; rfl
 case fn=>obtain ⟨x,y,rfl,_⟩:=h; rfl
 case nilf=>subst h; rfl
 case mp=>obtain ⟨p,_,_,rfl⟩:=h; rfl
 case yl=>obtain ⟨p,_,_,rfl⟩:=h; rfl
inductive O where
 | gone
 | row (t:TypeId) (sz:Nat) (pure:Bool) (es:List D)
 | map (es:List (Int × D))
 | loop (r:Loop) (st:LoopState) (pe:Option Code) (sl:List (Nat × D))
inductive Fam where
 | one (o:O)
 | fam (f:Nat→O)
 | rows (t:TypeId) (sz:Nat) (C:Nat→List D)
def Fam.at:Fam→Nat→O
 | .one o,0=>o
 | .one _,_+1=>.gone
 | .fam f,j=>f j
 | .rows t sz C,j=>.row t sz true (C j)
abbrev Objs:=List Fam
def Objs.at (os:Objs) (i j:Nat):O:=(os.getD i (.fam fun _=>.gone)).at j
@[reducible] def one (o:O):Fam:=.one o
def Fam.put (F:Fam) (j:Nat) (o:O):Fam :=
 match F with
 | .one x=>match j with
  | 0=>.one o
  | j+1=>.fam (fun k=>if k = j+1 then o else (Fam.one x).at k)
 | .fam f=>.fam (fun k=>if k = j then o else f k)
 | .rows t sz C=>match o with
  | .row t' sz' true es=>bif Nat.beq t t' && Nat.beq sz sz' then .rows t sz (fun k=>bif Nat.beq k j then es else C k) else .fam (fun k=>if k = j then .row t' sz' true es else .row t sz true (C k))
  | o=>.fam (fun k=>if k = j then o else .row t sz true (C k))
def Objs.put (os:Objs) (i j:Nat) (o:O):Objs:=os.set i ((os.getD i (.fam fun _=>.gone)).put j o)
def objOk (ρ:Pl) (I:Im) (w:World) (p:Nat × Nat):O→Prop
 | .gone=>True
 | .row t sz pure es=>es.length≤p.2∧p.2≤maxLen∧(0 < p.2→∃ arr us,w.heap[p.1]? = some (.cells arr t (0,0))∧arr.size = p.2 * sz ∧
   repL (if pure then bot else ρ) I es us∧(∀ u ∈ us,Value.fine u sz)∧flat us <+: arr.toList)
 | .map es=>0 < p.2∧∃ ents clk,w.heap[p.1]? = some (.map ents clk)∧∃ us,repL ρ I (es.map (·.2)) us∧ents.toList.map (fun e=>(e.key,e.val)) = (es.zip us).map (fun x=>(.int .i64 x.1.1,x.2))
 | .loop r st pe sl=>(0 < p.2∧p.1 = r.defers+1)∧w.heap[p.1]? = some (.loop { r with state:=st,pending:=pe })∧repL ρ I (sl.map (·.2)) (sl.map fun q=>r.tmps.getD q.1 undef)
def foot (ρ:Pl) (os:Objs) (b:Nat):Prop:=∃ i j p,os.at i j ≠ .gone∧ρ i j = some p∧0 < p.2∧p.1 = b
structure Sat (ρ:Pl) (I:Im) (os:Objs) (w:World):Prop where
 im:∀ b o,I b = some o→w.heap[b]? = some o
 ok:∀ i j,os.at i j ≠ .gone→∃ p,ρ i j = some p∧objOk ρ I w p (os.at i j)
 inj:∀ i j i' j' p p',os.at i j ≠ .gone→os.at i' j' ≠ .gone→ρ i j = some p→ρ i' j' = some p'→0 < p.2→0 < p'.2→p.1 = p'.1→i = i'∧j = j'
 apart:∀ b,foot ρ os b→I b = none
 dom:∀ i j,os.length≤i→ρ i j = none
structure Fr (ρ0:Pl) (I0:Im) (os0:Objs) (w0:World) (ρ:Pl) (I:Im) (os:Objs) (w:World):Prop where
 wos:w.os = w0.os
 tape:w.tape = w0.tape
 output:w.output = w0.output
 size:w0.heap.size≤w.heap.size
 kept:∀ b,b < w0.heap.size→¬ foot ρ0 os0 b→w.heap[b]? = w0.heap[b]?
 len:os0.length≤os.length
 same:∀ i j,i < os0.length→ρ i j = ρ0 i j
 imle:I0.le I
 imnew:∀ b,I b ≠ none→I0 b ≠ none∨foot ρ0 os0 b∨w0.heap.size≤b
 obnew:∀ b,foot ρ os b→foot ρ0 os0 b∨w0.heap.size≤b
end Go.Proofs.YtkceciebmkklpaaGreat.V
end
section
namespace Go.Proofs.YtkceciebmkklpaaGreat.V
open Go Go.RowKit
theorem at_lt (os:Objs) (l:Objs) {i:Nat} (j:Nat) (h:i < os.length):Objs.at (os ++ l) i j = os.at i j:=by
 simp [Objs.at,List.getElem?_append_left h]
theorem at_new (os:Objs) (f:Fam) (j:Nat):Objs.at (os ++ [f]) os.length j = f.at j:=by
 simp [Objs.at]
theorem at_ge (os:Objs) {i:Nat} (j:Nat) (h:os.length≤i):os.at i j = .gone:=by
 simp [Objs.at,List.getElem?_eq_none h,Fam.at]
theorem lt_of_at {os:Objs} {i j:Nat} (h:os.at i j ≠ .gone):i < os.length:=by
 rcases Nat.lt_or_ge i os.length with h' | h'
 ·exact h'
 ·exact absurd (at_ge os j h') h
theorem Fam.at_put (F:Fam) (j:Nat) (o:O) (k:Nat):(F.put j o).at k = if k = j then o else F.at k:=by
 cases F with
 | one x=>cases j with
  | zero=>cases k with
   | zero=>rfl
   | succ k=>rfl
  | succ j=>rfl
 | fam f=>rfl
 | rows t sz C =>
  cases o with
  | gone=>rfl
  | map es=>rfl
  | loop _ _ _ _=>rfl
  | row t' sz' pr es =>
   cases pr with
   | false=>rfl
   | true =>
    simp only [Fam.put]
    cases hb:(Nat.beq t t' && Nat.beq sz sz') with
    | false=>rfl
    | true =>
     rw [Bool.and_eq_true] at hb
     obtain rfl:=Nat.eq_of_beq_eq_true hb.1
     obtain rfl:=Nat.eq_of_beq_eq_true hb.2
     simp only [cond_true,Fam.at]
     by_cases hk:k = j
     ·subst hk; rw [Nat.beq_refl]; simp
     ·rw [if_neg hk]
      have:Nat.beq k j = false:=by
       cases h:Nat.beq k j with
       | false=>rfl
       | true=>exact absurd (Nat.eq_of_beq_eq_true h) hk
      rw [this]; rfl
theorem Fam.at_put_self (F:Fam) (j:Nat) (o:O):(F.put j o).at j = o:=by rw [Fam.at_put,if_pos rfl]
theorem Fam.at_put_ne (F:Fam) {j k:Nat} (o:O) (h:k ≠ j):(F.put j o).at k = F.at k:=by rw [Fam.at_put,if_neg h]
theorem at_put_self (os:Objs) {i:Nat} (j:Nat) (o:O) (h:i < os.length):(os.put i j o).at i j = o:=by
 simp [Objs.at,Objs.put,h,Fam.at_put_self]
theorem at_put_ne (os:Objs) (i j:Nat) (o:O) {i' j':Nat} (h:¬ (i' = i∧j' = j)):(os.put i j o).at i' j' = os.at i' j':=by
 unfold Objs.at Objs.put
 simp only [List.getD_eq_getElem?_getD,List.getElem?_set]
 by_cases hi:i = i'
 ·subst hi
  have hj:j' ≠ j:=fun e=>h ⟨rfl,e⟩
  by_cases hl:i < os.length
  ·simp [hl,Fam.at_put_ne _ _ hj]
  ·simp [hl]
 ·simp [hi]
theorem length_put (os:Objs) (i j:Nat) (o:O):(os.put i j o).length = os.length:=by simp [Objs.put]
theorem one_pos (o:O) {j:Nat} (h:j ≠ 0):(one o).at j = .gone:=by cases j <;> simp_all [one,Fam.at]
def Pl.new (ρ:Pl) (n:Nat) (p:Nat × Nat):Pl:=fun i j=>if i = n∧j = 0 then some p else ρ i j
theorem Pl.le_new {ρ:Pl} {n:Nat} {p:Nat × Nat} (h:∀ j,ρ n j = none):ρ.le (ρ.new n p):=by
 intro i j q hq
 unfold Pl.new
 split
 ·rename_i hc; rw [hc.1,h] at hq; simp at hq
 ·exact hq
theorem Pl.new_self (ρ:Pl) (n:Nat) (p:Nat × Nat):ρ.new n p n 0 = some p:=by simp [Pl.new]
theorem Pl.new_ne (ρ:Pl) {n:Nat} (p:Nat × Nat) {i j:Nat} (h:¬ (i = n∧j = 0)):ρ.new n p i j = ρ i j:=by simp [Pl.new,h]
theorem objOk_mono {ρ ρ':Pl} {I I':Im} {w w':World} {p:Nat × Nat} {o:O} (hρ:ρ.le ρ') (hI:I.le I') (hw:0 < p.2→w'.heap[p.1]? = w.heap[p.1]?)
  (h:objOk ρ I w p o):objOk ρ' I' w' p o:=by
 cases o with
 | gone=>trivial
 | row t sz pure es =>
  obtain ⟨h1,h2,h3⟩:=h
  refine ⟨h1,h2,fun hp=>?_⟩
  obtain ⟨arr,us,ha,hs,hr,hf,hfl⟩:=h3 hp
  refine ⟨arr,us,(hw hp).trans ha,hs,?_,hf,hfl⟩
  cases pure
  ·exact repL_mono hρ hI _ _ hr
  ·exact repL_mono (Pl.le_refl _) hI _ _ hr
 | map es =>
  obtain ⟨hp,ents,clk,ha,us,hr,he⟩:=h
  exact ⟨hp,ents,clk,(hw hp).trans ha,us,repL_mono hρ hI _ _ hr,he⟩
 | loop r st pe ds =>
  obtain ⟨hp,ha,hr⟩:=h
  exact ⟨hp,(hw hp.1).trans ha,repL_mono hρ hI _ _ hr⟩
theorem objOk_lt {ρ:Pl} {I:Im} {w:World} {p:Nat × Nat} {o:O} (ho:o ≠ .gone) (hp:0 < p.2) (h:objOk ρ I w p o):p.1 < w.heap.size:=by
 cases o with
 | gone=>exact absurd rfl ho
 | row t sz pure es =>
  obtain ⟨arr,us,ha,_⟩:=h.2.2 hp
  exact (Array.getElem?_eq_some_iff.1 ha).1
 | map es =>
  obtain ⟨_,ents,clk,ha,_⟩:=h
  exact (Array.getElem?_eq_some_iff.1 ha).1
 | loop r st pe ds =>
  obtain ⟨_,ha,_⟩:=h
  exact (Array.getElem?_eq_some_iff.1 ha).1
theorem Sat.foot_lt {ρ:Pl} {I:Im} {os:Objs} {w:World} (h:Sat ρ I os w) {b:Nat} (hb:foot ρ os b):b < w.heap.size:=by
 obtain ⟨i,j,p,hne,hp,hpos,rfl⟩:=hb
 obtain ⟨p',hp',hok⟩:=h.ok i j hne
 rw [hp] at hp'; cases hp'
 exact objOk_lt hne hpos hok
theorem Sat.im_lt {ρ:Pl} {I:Im} {os:Objs} {w:World} (h:Sat ρ I os w) {b:Nat} {o:Obj} (hb:I b = some o):b < w.heap.size :=
 (Array.getElem?_eq_some_iff.1 (h.im b o hb)).1
theorem Sat.heap {ρ:Pl} {I:Im} {os:Objs} {w w':World} (h:Sat ρ I os w) (hw:w'.heap = w.heap):Sat ρ I os w' :=
 ⟨fun b o hb=>by rw [hw]; exact h.im b o hb,fun i j hne=>by
  obtain ⟨p,hp,hok⟩:=h.ok i j hne
  exact ⟨p,hp,objOk_mono (Pl.le_refl _) (Im.le_refl _) (fun _=>by rw [hw]) hok⟩,h.inj,h.apart,h.dom⟩
theorem Sat.new {ρ:Pl} {I:Im} {os:Objs} {w w':World} (h:Sat ρ I os w) (hw:∀ b,b < w.heap.size→w'.heap[b]? = w.heap[b]?) (C:Nat) (o:O)
  (ho:objOk (ρ.new os.length (w.heap.size,C)) I w' (w.heap.size,C) o):Sat (ρ.new os.length (w.heap.size,C)) I (os ++ [one o]) w':=by
 have hle:ρ.le (ρ.new os.length (w.heap.size,C)):=Pl.le_new (fun j=>h.dom _ _ (Nat.le_refl _))
 have old:∀ i j,Objs.at (os ++ [one o]) i j ≠ .gone→¬ (i = os.length∧j = 0)→os.at i j ≠ .gone∧i < os.length:=by
  intro i j hne hn
  rcases Nat.lt_or_ge i os.length with hi | hi
  ·rw [at_lt _ _ _ hi] at hne; exact ⟨hne,hi⟩
  ·rcases Nat.eq_or_lt_of_le hi with e | hlt
   ·subst e; rw [at_new] at hne; exact absurd (one_pos o (fun e=>hn ⟨rfl,e⟩)) hne
   ·exact absurd (at_ge (os ++ [one o]) j (by simp; omega)) hne
 refine ⟨fun b ob hb=>by rw [hw b (h.im_lt hb)]; exact h.im b ob hb,fun i j hne=>?_,?_,?_,?_⟩
 ·by_cases hc:i = os.length∧j = 0
  ·obtain ⟨rfl,rfl⟩:=hc
   exact ⟨_,Pl.new_self _ _ _,by rw [at_new]; exact ho⟩
  ·obtain ⟨hne',hi⟩:=old i j hne hc
   obtain ⟨p,hp,hok⟩:=h.ok i j hne'
   refine ⟨p,by rw [Pl.new_ne _ _ hc]; exact hp,?_⟩
   rw [at_lt _ _ _ hi]
   exact objOk_mono hle (Im.le_refl _) (fun hpos=>hw _ (objOk_lt hne' hpos hok)) hok
 ·intro i j i' j' p p' hne hne' hp hp' hpos hpos' he
  by_cases hc:i = os.length∧j = 0 <;> by_cases hc':i' = os.length∧j' = 0
  ·exact ⟨hc.1.trans hc'.1.symm,hc.2.trans hc'.2.symm⟩
  ·obtain ⟨k,hi⟩:=old i' j' hne' hc'
   rw [Pl.new_ne _ _ hc'] at hp'
   have:=h.foot_lt ⟨i',j',p',k,hp',hpos',rfl⟩
   obtain ⟨rfl,rfl⟩:=hc
   rw [Pl.new_self] at hp; cases hp
   simp at he; omega
  ·obtain ⟨k,hi⟩:=old i j hne hc
   rw [Pl.new_ne _ _ hc] at hp
   have:=h.foot_lt ⟨i,j,p,k,hp,hpos,rfl⟩
   obtain ⟨rfl,rfl⟩:=hc'
   rw [Pl.new_self] at hp'; cases hp'
   simp at he; omega
  ·rw [Pl.new_ne _ _ hc] at hp
   rw [Pl.new_ne _ _ hc'] at hp'
   exact h.inj i j i' j' p p' (old i j hne hc).1 (old i' j' hne' hc').1 hp hp' hpos hpos' he
 ·rintro b ⟨i,j,p,hne,hp,hpos,rfl⟩
  by_cases hc:i = os.length∧j = 0
  ·obtain ⟨rfl,rfl⟩:=hc
   rw [Pl.new_self] at hp; cases hp
   cases hI:I w.heap.size with
   | none=>rfl
   | some ob=>exact absurd (h.im_lt hI) (by omega)
  ·rw [Pl.new_ne _ _ hc] at hp
   exact h.apart _ ⟨i,j,p,(old i j hne hc).1,hp,hpos,rfl⟩
 ·intro i j hi
  rw [Pl.new_ne _ _ (fun e=>by simp at hi; omega)]
  exact h.dom i j (by simp at hi; omega)
theorem Sat.write {ρ:Pl} {I:Im} {os:Objs} {w w':World} (h:Sat ρ I os w) {i j:Nat} {p:Nat × Nat} (hne:os.at i j ≠ .gone) (hp:ρ i j = some p) (hpos:0 < p.2)
  (hw:∀ b,b ≠ p.1→w'.heap[b]? = w.heap[b]?) (o:O) (ho:o ≠ .gone→objOk ρ I w' p o):Sat ρ I (os.put i j o) w':=by
 have hi:=lt_of_at hne
 have hap:I p.1 = none:=h.apart _ ⟨i,j,p,hne,hp,hpos,rfl⟩
 have old:∀ i' j',(os.put i j o).at i' j' ≠ .gone→os.at i' j' ≠ .gone:=by
  intro i' j' hn
  by_cases hc:i' = i∧j' = j
  ·obtain ⟨rfl,rfl⟩:=hc; exact hne
  ·rwa [at_put_ne _ _ _ _ hc] at hn
 refine ⟨fun b ob hb=>?_,fun i' j' hn=>?_,?_,?_,?_⟩
 ·rw [hw b (fun e=>by subst e; rw [hap] at hb; simp at hb)]; exact h.im b ob hb
 ·by_cases hc:i' = i∧j' = j
  ·obtain ⟨rfl,rfl⟩:=hc
   rw [at_put_self _ _ _ hi] at hn ⊢
   exact ⟨p,hp,ho hn⟩
  ·have hn':=old i' j' hn
   obtain ⟨q,hq,hok⟩:=h.ok i' j' hn'
   refine ⟨q,hq,?_⟩
   rw [at_put_ne _ _ _ _ hc]
   exact objOk_mono (Pl.le_refl _) (Im.le_refl _) (fun hqp=>hw _ (fun e=>hc (h.inj i' j' i j q p hn' hne hq hp hqp hpos e))) hok
 ·intro a b a' b' q q' hn hn' hq hq' h1 h2 he
  exact h.inj a b a' b' q q' (old _ _ hn) (old _ _ hn') hq hq' h1 h2 he
 ·rintro b ⟨a,c,q,hn,hq,hqp,rfl⟩
  exact h.apart _ ⟨a,c,q,old _ _ hn,hq,hqp,rfl⟩
 ·intro a b hab
  exact h.dom a b (by rwa [length_put] at hab)
theorem Sat.drop {ρ:Pl} {I:Im} {os:Objs} {w:World} (h:Sat ρ I os w) (i j:Nat):Sat ρ I (os.put i j .gone) w:=by
 have old:∀ i' j',(os.put i j .gone).at i' j' ≠ .gone→¬ (i' = i∧j' = j)∧os.at i' j' ≠ .gone:=by
  intro i' j' hn
  by_cases hc:i' = i∧j' = j
  ·obtain ⟨rfl,rfl⟩:=hc
   rcases Nat.lt_or_ge i' os.length with hl | hl
   ·rw [at_put_self _ _ _ hl] at hn; exact absurd rfl hn
   ·rw [at_ge _ _ (by rw [length_put]; exact hl)] at hn; exact absurd rfl hn
  ·exact ⟨hc,by rwa [at_put_ne _ _ _ _ hc] at hn⟩
 refine ⟨h.im,fun i' j' hn=>?_,?_,?_,?_⟩
 ·obtain ⟨hc,hn'⟩:=old i' j' hn
  rw [at_put_ne _ _ _ _ hc]
  exact h.ok i' j' hn'
 ·intro a b a' b' q q' hn hn' hq hq' h1 h2 he
  exact h.inj a b a' b' q q' (old _ _ hn).2 (old _ _ hn').2 hq hq' h1 h2 he
 ·rintro b ⟨a,c,q,hn,hq,hqp,rfl⟩
  exact h.apart _ ⟨a,c,q,(old _ _ hn).2,hq,hqp,rfl⟩
 ·intro a b hab
  exact h.dom a b (by rwa [length_put] at hab)
theorem Sat.pass {ρ:Pl} {I:Im} {os:Objs} {w w':World} (h:Sat ρ I os w) {i j:Nat} {p:Nat × Nat} (hne:os.at i j ≠ .gone) (hp:ρ i j = some p) (hpos:0 < p.2)
  (hw:∀ b,b ≠ p.1→w'.heap[b]? = w.heap[b]?) (o:O) (ho:objOk (ρ.new os.length p) I w' p o) :
  Sat (ρ.new os.length p) I (os.put i j .gone ++ [one o]) w':=by
 have hi:=lt_of_at hne
 have hap:I p.1 = none:=h.apart _ ⟨i,j,p,hne,hp,hpos,rfl⟩
 have hle:ρ.le (ρ.new os.length p):=Pl.le_new (fun j=>h.dom _ _ (Nat.le_refl _))
 have old:∀ a b,Objs.at (os.put i j .gone ++ [one o]) a b ≠ .gone→¬ (a = os.length∧b = 0)→os.at a b ≠ .gone∧a < os.length∧¬ (a = i∧b = j):=by
  intro a b hn hc
  rcases Nat.lt_or_ge a os.length with ha | ha
  ·rw [at_lt _ _ _ (by rw [length_put]; exact ha)] at hn
   have hnc:¬ (a = i∧b = j):=fun e=>by obtain ⟨rfl,rfl⟩:=e; rw [at_put_self _ _ _ hi] at hn; exact hn rfl
   rw [at_put_ne _ _ _ _ hnc] at hn
   exact ⟨hn,ha,hnc⟩
  ·rcases Nat.eq_or_lt_of_le ha with e | hlt
   ·subst e
    have:=at_new (os.put i j .gone) (one o) b
    rw [length_put] at this
    rw [this] at hn
    exact absurd (one_pos o (fun e=>hc ⟨rfl,e⟩)) hn
   ·exact absurd (at_ge _ b (by simp [length_put]; omega)) hn
 refine ⟨fun b ob hb=>?_,fun a b hn=>?_,?_,?_,?_⟩
 ·rw [hw b (fun e=>by subst e; rw [hap] at hb; simp at hb)]; exact h.im b ob hb
 ·by_cases hc:a = os.length∧b = 0
  ·obtain ⟨rfl,rfl⟩:=hc
   refine ⟨p,Pl.new_self _ _ _,?_⟩
   have:=at_new (os.put i j .gone) (one o) 0
   rw [length_put] at this
   rw [this]; exact ho
  ·obtain ⟨hn',ha,hnc⟩:=old a b hn hc
   obtain ⟨q,hq,hok⟩:=h.ok a b hn'
   refine ⟨q,by rw [Pl.new_ne _ _ hc]; exact hq,?_⟩
   rw [at_lt _ _ _ (by rw [length_put]; exact ha),at_put_ne _ _ _ _ hnc]
   exact objOk_mono hle (Im.le_refl _) (fun hqp=>hw _ (fun e=>hnc (h.inj a b i j q p hn' hne hq hp hqp hpos e))) hok
 ·intro a b a' b' q q' hn hn' hq hq' h1 h2 he
  by_cases hc:a = os.length∧b = 0 <;> by_cases hc':a' = os.length∧b' = 0
  ·exact ⟨hc.1.trans hc'.1.symm,hc.2.trans hc'.2.symm⟩
  ·obtain ⟨k,_,knc⟩:=old a' b' hn' hc'
   rw [Pl.new_ne _ _ hc'] at hq'
   obtain ⟨rfl,rfl⟩:=hc
   rw [Pl.new_self] at hq; cases hq
   exact absurd (h.inj a' b' i j q' p k hne hq' hp h2 hpos he.symm) knc
  ·obtain ⟨k,_,knc⟩:=old a b hn hc
   rw [Pl.new_ne _ _ hc] at hq
   obtain ⟨rfl,rfl⟩:=hc'
   rw [Pl.new_self] at hq'; cases hq'
   exact absurd (h.inj a b i j q p k hne hq hp h1 hpos he) knc
  ·rw [Pl.new_ne _ _ hc] at hq
   rw [Pl.new_ne _ _ hc'] at hq'
   exact h.inj a b a' b' q q' (old a b hn hc).1 (old a' b' hn' hc').1 hq hq' h1 h2 he
 ·rintro b ⟨a,c,q,hn,hq,hqp,rfl⟩
  by_cases hc:a = os.length∧c = 0
  ·obtain ⟨rfl,rfl⟩:=hc
   rw [Pl.new_self] at hq; cases hq
   exact hap
  ·rw [Pl.new_ne _ _ hc] at hq
   exact h.apart _ ⟨a,c,q,(old a c hn hc).1,hq,hqp,rfl⟩
 ·intro a b hab
  rw [Pl.new_ne _ _ (fun e=>by simp [length_put] at hab; omega)]
  exact h.dom a b (by simp [length_put] at hab; omega)
structure Ctx where
 ρ:Pl
 I:Im
 os:Objs
 w:World
 pins:List Nat:=[]
abbrev Ctx.Fr (Γ:Ctx) (ρ:Pl) (I:Im) (os:Objs) (w:World):Prop:=V.Fr Γ.ρ Γ.I Γ.os Γ.w ρ I os w
theorem Fr.refl (ρ:Pl) (I:Im) (os:Objs) (w:World):Fr ρ I os w ρ I os w :=
 ⟨rfl,rfl,rfl,Nat.le_refl _,fun _ _ _=>rfl,Nat.le_refl _,fun _ _ _=>rfl,Im.le_refl _,fun _ h=>.inl h,fun _ h=>.inl h⟩
theorem Fr.heap {Γ:Ctx} {ρ:Pl} {I:Im} {os:Objs} {w w':World} (h:Γ.Fr ρ I os w) (hw:w'.heap = w.heap) (ho:w'.os = w.os) (ht:w'.tape = w.tape) (hu:w'.output = w.output):Γ.Fr ρ I os w' :=
 ⟨ho.trans h.wos,ht.trans h.tape,hu.trans h.output,by rw [hw]; exact h.size,fun b hb hf=>by rw [hw]; exact h.kept b hb hf,h.len,h.same,h.imle,h.imnew,h.obnew⟩
structure Turn (w w':World):Prop where
 wos:w'.os = w.os
 tape:w'.tape = w.tape
 output:w'.output = w.output
 size:w.heap.size≤w'.heap.size
theorem Fr.new {Γ:Ctx} {ρ:Pl} {I:Im} {os:Objs} {w w':World} (h:Γ.Fr ρ I os w) (ht:Turn w w') (hw:∀ b,b < w.heap.size→w'.heap[b]? = w.heap[b]?) (C:Nat) (o:O) :
  Γ.Fr (ρ.new os.length (w.heap.size,C)) I (os ++ [one o]) w':=by
 refine ⟨ht.wos.trans h.wos,ht.tape.trans h.tape,ht.output.trans h.output,Nat.le_trans h.size ht.size,fun b hb hf=>by rw [hw b (Nat.lt_of_lt_of_le hb h.size)]; exact h.kept b hb hf,
  by have:=h.len; simp; omega,fun i j hi=>?_,h.imle,h.imnew,?_⟩
 ·rw [Pl.new_ne _ _ (fun e=>by have:=h.len; omega)]; exact h.same i j hi
 ·rintro b ⟨i,j,p,hne,hp,hpos,rfl⟩
  by_cases hc:i = os.length∧j = 0
  ·obtain ⟨rfl,rfl⟩:=hc
   rw [Pl.new_self] at hp; cases hp
   exact .inr h.size
  ·rw [Pl.new_ne _ _ hc] at hp
   rcases Nat.lt_or_ge i os.length with hi | hi
   ·rw [at_lt _ _ _ hi] at hne
    exact h.obnew _ ⟨i,j,p,hne,hp,hpos,rfl⟩
   ·rcases Nat.eq_or_lt_of_le hi with e | hlt
    ·subst e; rw [at_new] at hne; exact absurd (one_pos o (fun e=>hc ⟨rfl,e⟩)) hne
    ·exact absurd (at_ge (os ++ [one o]) j (by simp; omega)) hne
theorem Fr.write {Γ:Ctx} {ρ:Pl} {I:Im} {os:Objs} {w w':World} (h:Γ.Fr ρ I os w) (ht:Turn w w') {i j:Nat} {p:Nat × Nat} (hne:os.at i j ≠ .gone) (hp:ρ i j = some p) (hpos:0 < p.2)
  (hw:∀ b,b ≠ p.1→w'.heap[b]? = w.heap[b]?) (o:O):Γ.Fr ρ I (os.put i j o) w':=by
 refine ⟨ht.wos.trans h.wos,ht.tape.trans h.tape,ht.output.trans h.output,Nat.le_trans h.size ht.size,fun b hb hf=>?_,by rw [length_put]; exact h.len,h.same,h.imle,h.imnew,?_⟩
 ·rw [hw b (fun e=>?_)]
  ·exact h.kept b hb hf
  ·subst e
   rcases h.obnew _ ⟨i,j,p,hne,hp,hpos,rfl⟩ with h' | h'
   ·exact hf h'
   ·omega
 ·rintro b ⟨a,c,q,hn,hq,hqp,rfl⟩
  refine h.obnew _ ⟨a,c,q,?_,hq,hqp,rfl⟩
  by_cases hc:a = i∧c = j
  ·obtain ⟨rfl,rfl⟩:=hc; exact hne
  ·rwa [at_put_ne _ _ _ _ hc] at hn
theorem Fr.pass {Γ:Ctx} {ρ:Pl} {I:Im} {os:Objs} {w w':World} (h:Γ.Fr ρ I os w) (ht:Turn w w') {i j:Nat} {p:Nat × Nat} (hne:os.at i j ≠ .gone) (hp:ρ i j = some p) (hpos:0 < p.2)
  (hw:∀ b,b ≠ p.1→w'.heap[b]? = w.heap[b]?) (o:O):Γ.Fr (ρ.new os.length p) I (os.put i j .gone ++ [one o]) w':=by
 have hi:=lt_of_at hne
 refine ⟨ht.wos.trans h.wos,ht.tape.trans h.tape,ht.output.trans h.output,Nat.le_trans h.size ht.size,fun b hb hf=>?_,by have:=h.len; simp [length_put]; omega,fun a c ha=>?_,h.imle,h.imnew,?_⟩
 ·rw [hw b (fun e=>?_)]
  ·exact h.kept b hb hf
  ·subst e
   rcases h.obnew _ ⟨i,j,p,hne,hp,hpos,rfl⟩ with h' | h'
   ·exact hf h'
   ·omega
 ·rw [Pl.new_ne _ _ (fun e=>by have:=h.len; omega)]; exact h.same a c ha
 ·rintro b ⟨a,c,q,hn,hq,hqp,rfl⟩
  by_cases hc:a = os.length∧c = 0
  ·obtain ⟨rfl,rfl⟩:=hc
   rw [Pl.new_self] at hq; cases hq
   exact h.obnew _ ⟨i,j,p,hne,hp,hpos,rfl⟩
  ·rw [Pl.new_ne _ _ hc] at hq
   refine h.obnew _ ⟨a,c,q,?_,hq,hqp,rfl⟩
   rcases Nat.lt_or_ge a os.length with ha | ha
   ·rw [at_lt _ _ _ (by rw [length_put]; exact ha)] at hn
    by_cases hc':a = i∧c = j
    ·obtain ⟨rfl,rfl⟩:=hc'; exact hne
    ·rwa [at_put_ne _ _ _ _ hc'] at hn
   ·rcases Nat.eq_or_lt_of_le ha with e | hlt
    ·subst e
     have:=at_new (os.put i j .gone) (one o) c
     rw [length_put] at this
     rw [this] at hn
     exact absurd (one_pos o (fun e=>hc ⟨rfl,e⟩)) hn
    ·exact absurd (at_ge _ c (by simp [length_put]; omega)) hn
end Go.Proofs.YtkceciebmkklpaaGreat.V
end
section
namespace Go.Proofs.YtkceciebmkklpaaGreat.V
open Go Go.RowKit
inductive TK where
 | int (k:IntKind) | bool | str | ptr | slice (e:TypeId) | struct (fs:List (Nat × TypeId)) | arr (n:Nat) (e:TypeId) | map (k e:TypeId) | func | other
structure TI where
 k:TK
 size:Nat
 bytes:Nat
 zero:D
 cmp:Option (List IntKind):=none
abbrev Tau:=TypeId→Option TI
def kindOk:TK→TypeDesc→Prop
 | .int k,d=>d = .int k
 | .bool,d=>d = .bool
 | .str,d=>d = .string
 | .ptr,d=>∃ e,d = .pointer e
 | .slice e,d=>d = .slice e
 | .struct fs,d=>∃ F:Array Field,d = .struct F∧fs = F.toList.map fun f=>(f.offset,f.type)
 | .arr n e,d=>d = .array n e
 | .map k e,d=>d = .map k e
 | .func,d=>∃ a b c,d = .func a b c
 | .other,_=>True
def TK.agg:TK→Option Bool
 | .struct _ | .arr ..=>some true
 | .other=>none
 | _=>some false
def CmpOk (P:Program) (t:TypeId) (ks:List IntKind):Prop:=∃ F:Array Field,P.underlying t = some (.struct F)∧P.stoodInHeld t = false∧F.toList.length = ks.length∧∀ (i:Nat) (f:Field),F.toList[i]? = some f→f.name ≠ "_" ∧ f.offset = i∧∃ k,ks[i]? = some k∧P.underlying f.type = some (.int k)
structure TypeOk (P:Program) (t:TypeId) (ti:TI) (i:TypeInfo) (d:TypeDesc):Prop where
 info:P.info? t = some i
 und:P.underlying t = some d
 size:i.size = ti.size
 bytes:i.bytes = ti.bytes
 kind:kindOk ti.k d
 zero:ti.zero = .junk∨∃ z,i.zero = some z∧(∀ ρ I,rep ρ I ti.zero z)∧Value.fine z ti.size
 cmp:∀ ks,ti.cmp = some ks→CmpOk P t ks
def TauOk (P:Program) (τ:Tau):Prop:=∀ t ti,τ t = some ti→∃ i d,TypeOk P t ti i d
inductive Br:Bool→Prop→Prop→Prop
 | t {A B:Prop}:A→Br true A B
 | f {A B:Prop}:B→Br false A B
inductive Opt {α:Type}:Option α→(α→Prop)→Prop
 | mk {x:α} {K:α→Prop}:K x→Opt (some x) K
inductive Ar (k:IntKind) (e:Int) (K:Int→Prop):Prop
 | mk (z:Int) (h:z = k.wrap e) (hk:K z):Ar k e K
inductive App (K:D→Objs→Prop) (os:Objs) (e:TypeId) (sz len:Nat) (pr:Bool) (es:List D):Prop
 | own (h:K (.sl os.length 0 sz 0 len none) (os ++ [one (.row e sz pr es)]))
 | only (full:Bool) (hf:full = false) (hp:pr = true) (h:K (.lst sz full es) os)
inductive Ap (A B:Prop):Prop
 | grow (h:A)
 | within (h:B)
inductive Cap (a b A B:Prop):Prop
 | full (ha:a) (hA:A)
 | part (hb:b) (hB:B)
inductive Fnd {α:Type} (o:Option α) (A:α→Prop) (B:Prop):Prop
 | got {d:α} (h:o = some d) (k:A d)
 | not (h:o = none) (k:B)
inductive Nm {α:Type} (e:α) (K:α→Prop):Prop
 | mk (x:α) (h:x = e) (hk:K x)
theorem Nm.iff {α:Type} {e:α} {K:α→Prop}:Nm e K ↔ K e:=⟨fun ⟨x,h,hk⟩=>h ▸ hk,fun h=>⟨e,rfl,h⟩⟩
theorem Br.iff {b:Bool} {A B:Prop}:Br b A B ↔ if b then A else B:=by
 cases b <;> constructor <;> intro h
 ·cases h; assumption
 ·exact .f h
 ·cases h; assumption
 ·exact .t h
theorem Opt.iff {α:Type} {o:Option α} {K:α→Prop}:Opt o K ↔ ∃ x,o = some x∧K x :=
 ⟨fun h=>by cases h with | mk h=>exact ⟨_,rfl,h⟩,fun ⟨x,e,h⟩=>by subst e; exact .mk h⟩
def D.force (K:D→Prop):D→Prop
 | .int k n=>K (.int k n)
 | .bool b=>K (.bool b)
 | .str s=>K (.str s)
 | .nilp=>K .nilp
 | .ptr i j sz e off=>K (.ptr i j sz e off)
 | .pel x off=>K (.pel x off)
 | .nils=>K .nils
 | .lst sz f es=>K (.lst sz f es)
 | .sl i j sz lo len cap=>K (.sl i j sz lo len cap)
 | .agg cs=>K (.agg cs)
 | .tup vs=>K (.tup vs)
 | .fn f a b=>K (.fn f a b)
 | .nilf=>K .nilf
 | .mp i j=>K (.mp i j)
 | .yl i j=>K (.yl i j)
 | .junk=>K .junk
theorem D.force_eq (K:D→Prop) (d:D):D.force K d = K d:=by cases d <;> rfl
def forceL:List D→(List D→Prop)→Prop
 | [],K=>K []
 | d :: ds,K=>D.force (fun d=>forceL ds (fun ds=>K (d :: ds))) d
theorem forceL_eq:∀ (ds:List D) (K:List D→Prop),forceL ds K = K ds
 | [],K=>rfl
 | d :: ds,K=>by rw [forceL,D.force_eq,forceL_eq ds]
def D.deep (K:D→Prop):D→Prop
 | .agg cs=>forceL cs (fun cs=>K (.agg cs))
 | d=>D.force K d
theorem D.deep_eq (K:D→Prop) (d:D):D.deep K d = K d:=by
 cases d <;> first | rfl | exact forceL_eq _ _
def D.one:D→Bool
 | .agg _ | .tup _ | .junk=>false
 | _=>true
theorem rep_one {ρ:Pl} {I:Im} {d:D} {v:Value} (h1:d.one = true) (h:rep ρ I d v):v.oneCell' = true:=by
 cases d <;> simp [D.one] at h1 <;> rw [rep] at h
 case int=>subst h; rfl
 case bool=>subst h; rfl
 case str=>subst h; rfl
 case nilp=>subst h; rfl
 case ptr=>obtain ⟨p,_,_,rfl⟩:=h; rfl
 case pel=>obtain ⟨b,o,arr,t,fz,u,rfl,_⟩:=h; rfl
 case nils=>subst h; rfl
 case lst=>obtain ⟨A,c,us,rfl,_⟩:=h; rfl
 case sl=>obtain ⟨p,A,c,_,rfl,_⟩:=h; rfl
 case fn=>obtain ⟨x,y,rfl,_⟩:=h; rfl
 case nilf=>subst h; rfl
 case mp=>obtain ⟨p,_,_,rfl⟩:=h; rfl
 case yl=>obtain ⟨p,_,_,rfl⟩:=h; rfl
theorem repL_one {ρ:Pl} {I:Im}:∀ {ds:List D} {vs:List Value},ds.all D.one = true→repL ρ I ds vs→∀ c ∈ vs,c.oneCell' = true
 | [],_,_,h=>by rw [repL_nil] at h; subst h; simp
 | d :: ds,_,h1,h=>by
  obtain ⟨u,us,rfl,hu,h⟩:=repL_cons.1 h
  simp only [List.all_cons,Bool.and_eq_true] at h1
  intro c hc
  rcases List.mem_cons.1 hc with rfl | hc
  ·exact rep_one h1.1 hu
  ·exact repL_one h1.2 h c hc
def dOf1:Value→D
 | .int k n=>.int k n
 | .bool b=>.bool b
 | .string s=>.str s
 | .pointer none=>.nilp
 | .slice none 0 0=>.nils
 | .nilFunc=>.nilf
 | _=>.junk
def dOf:Value→D
 | .agg cs=>.agg (cs.toList.map dOf1)
 | v=>dOf1 v
theorem rep_dOf1 (ρ:Pl) (I:Im) (v:Value):rep ρ I (dOf1 v) v:=by
 unfold dOf1
 split <;> rw [rep] <;> trivial
theorem repL_dOf1 (ρ:Pl) (I:Im):∀ (vs:List Value),repL ρ I (vs.map dOf1) vs
 | []=>repL_nil.2 rfl
 | v :: vs=>repL_cons.2 ⟨v,vs,rfl,rep_dOf1 ρ I v,repL_dOf1 ρ I vs⟩
theorem rep_dOf (ρ:Pl) (I:Im) (v:Value):rep ρ I (dOf v) v:=by
 unfold dOf
 split
 ·rw [rep]; exact ⟨_,rfl,repL_dOf1 ρ I _⟩
 ·exact rep_dOf1 ρ I v
def evalO (get:Nat→D):Operand→D
 | .tmp t=>get t
 | .const v=>dOf v
 | .global _=>.junk
 | .func f=>.fn (.func f) [] []
theorem rep_evalO {ρ:Pl} {I:Im} {get:Nat→D} {a:Act} (h:∀ i,rep ρ I (get i) (a.tmps.getD i undef)) (x:Operand):rep ρ I (evalO get x) (a.eval x):=by
 cases x with
 | tmp t=>exact h t
 | const v=>exact rep_dOf ρ I v
 | global g=>simp only [evalO]; rw [rep]; trivial
 | func f=>simp only [evalO,Act.eval]; rw [rep]; exact ⟨#[],#[],rfl,repL_nil.2 rfl,repL_nil.2 rfl⟩
theorem repL_evalO {ρ:Pl} {I:Im} {get:Nat→D} {a:Act} (h:∀ i,rep ρ I (get i) (a.tmps.getD i undef)):∀ (xs:List Operand),repL ρ I (xs.map (evalO get)) (xs.map a.eval)
 | []=>repL_nil.2 rfl
 | x :: xs=>repL_cons.2 ⟨_,_,rfl,rep_evalO h x,repL_evalO h xs⟩
def ldPart (τ:Tau) (t:TypeId) (cs:List D) (off:Nat) (K:D→Prop):Prop :=
 match τ t with
 | none=>False
 | some ti=>match ti.k.agg with
  | none=>False
  | some true=>bif Nat.beq off 0 && Nat.beq cs.length ti.size then K (.agg cs) else bif Nat.beq ((cs.drop off).take ti.size).length ti.size then forceL ((cs.drop off).take ti.size) (fun cs=>K (.agg cs)) else False
  | some false=>ti.size = 1∧Opt cs[off]? (D.force K)
def D.upd (x:D) (off:Nat) (ds:List D):D :=
 match x with
 | .agg cs=>.agg (cs.take off ++ (ds ++ cs.drop (off+ds.length)))
 | _=>ds.headD .junk
def vcBin (op:BinOp) (x y:D) (K:D→Prop):Prop :=
 match op,x,y with
 | .add,.int k a,.int k' b=>if k = k' then Ar k (a+b) (fun z=>K (.int k z)) else False
 | .sub,.int k a,.int k' b=>if k = k' then Ar k (a - b) (fun z=>K (.int k z)) else False
 | .mul,.int k a,.int k' b=>if k = k' then Ar k (a * b) (fun z=>K (.int k z)) else False
 | .quo,.int k a,.int k' b=>if k = k' then b ≠ 0∧Ar k (a.tdiv b) (fun z=>K (.int k z)) else False
 | .rem,.int k a,.int k' b=>if k = k' then b ≠ 0∧K (.int k (a.tmod b)) else False
 | .and,.int k a,.int k' b=>if k = k' then Nm (k.wrap (BitVec.ofInt k.bits a &&& BitVec.ofInt k.bits b).toNat) (fun z=>K (.int k z)) else False
 | .shr,.int k a,.int k' b=>if k = k' then 0≤b∧Nm (a / 2 ^ min b.toNat k.bits) (fun z=>K (.int k z)) else False
 | .eql,.int k a,.int k' b=>if k = k' then K (.bool (decide (a = b))) else False
 | .neq,.int k a,.int k' b=>if k = k' then K (.bool (decide (a ≠ b))) else False
 | .lss,.int k a,.int k' b=>if k = k' then K (.bool (decide (a < b))) else False
 | .leq,.int k a,.int k' b=>if k = k' then K (.bool (decide (a≤b))) else False
 | .gtr,.int k a,.int k' b=>if k = k' then K (.bool (decide (b < a))) else False
 | .geq,.int k a,.int k' b=>if k = k' then K (.bool (decide (b≤a))) else False
 | .add,.str a,.str b=>((a.size+b.size:Nat):Int)≤9223372036854775807∧K (.str (a ++ b))
 | _,_,_=>False
def vcEq (k:TK) (x y:D) (K:Bool→Prop):Prop :=
 match k,x,y with
 | .bool,.bool a,.bool b=>K (a == b)
 | .str,.str a,.str b=>K (decide (a = b))
 | .ptr,.nilp,.nilp=>K true
 | .ptr,.nilp,.ptr ..=>K false
 | .ptr,.ptr ..,.nilp=>K false
 | .func,.nilf,.nilf=>K true
 | .func,.nilf,.fn ..=>K false
 | .func,.fn ..,.nilf=>K false
 | _,_,_=>False
abbrev CallW:=FuncId→List D→Objs→(D→Objs→Prop)→Prop
def fillD (place:Nat→Option (Nat × Nat)) (cells:List D):List (Nat × D)→Option (List D)
 | []=>some cells
 | (i,v) :: rest =>
  match place i with
  | none=>none
  | some (off,size) =>
   if v.cells.length = size∧off+size≤cells.length then fillD place (cells.take off ++ (v.cells ++ cells.drop (off+size))) rest else none
def setAll (es:List D):List (Nat × D)→List D
 | []=>es
 | (i,d) :: r=>setAll (es.set i d) r
def minL:Int→List D→Option Int
 | x,[]=>some x
 | x,.int _ y :: r=>minL (if y < x then y else x) r
 | _,_=>none
def maxL:Int→List D→Option Int
 | x,[]=>some x
 | x,.int _ y :: r=>maxL (if x < y then y else x) r
 | _,_=>none
def D.isJunk:D→Bool | .junk=>true | _=>false
def intBeq:Int→Int→Bool
 | .ofNat a,.ofNat b=>Nat.beq a b
 | .negSucc a,.negSucc b=>Nat.beq a b
 | _,_=>false
theorem intBeq_iff (a b:Int):intBeq a b = true ↔ a = b:=by
 cases a <;> cases b <;> simp [intBeq]
 exact ⟨fun h=>by rw [h],fun h=>Int.ofNat.inj h⟩
def lookM:List (Int × D)→Int→Option D
 | [],_=>none
 | (k,d) :: r,n=>bif intBeq k n then some d else lookM r n
def putM:List (Int × D)→Int→D→List (Int × D)
 | [],n,d=>[(n,d)]
 | (k,e) :: r,n,d=>bif intBeq k n then (k,d) :: r else (k,e) :: putM r n d
def splice (es:List D) (lo:Nat) (news:List D):List D:=es.take lo ++ (news ++ es.drop (lo+news.length))
def srcD (os:Objs) (sz:Nat) (x:D) (K:List D→Prop):Prop :=
 match x with
 | .nils=>K []
 | .lst sz' _ es=>if sz' = sz then K es else False
 | .sl i j sz' lo len _=>if sz' = sz then
   match os.at i j with
   | .row _ sz'' _ es=>if sz'' = sz then lo+len≤es.length∧K ((es.drop lo).take len) else False
   | _=>False
  else False
 | _=>False
def D.isPureP (p:Bool) (ds:List D):Prop:=p = true→D.pureL ds = true
def vcAppend (ti:TI) (e:TypeId) (s:D) (news:List D) (os:Objs) (K:D→Objs→Prop):Prop :=
 match s with
 | .nils=>(news = []→K .nils os)∧(news ≠ []→news.length * ti.bytes≤140737488355328∧news.length≤140737488355328 ∧
   App K os e ti.size news.length (D.pureL news) news)
 | .lst sz full es=>if sz = ti.size∧full = true then (news = []→K (.lst sz full es) os)∧(news ≠ []→(es.length+news.length) * ti.bytes≤140737488355328∧es.length+news.length≤140737488355328 ∧
   App K os e ti.size (es.length+news.length) (D.pureL news) (es ++ news)) else False
 | .sl i j sz lo len cap=>if sz = ti.size then match os.at i j with
   | .row t' sz' p es=>if t' = e∧sz' = sz then match cap with
    | none=>if lo = 0 then Ap (es.length = len∧D.isPureP p news∧(len+news.length) * ti.bytes≤140737488355328∧len+news.length≤140737488355328 ∧
     K (.sl os.length 0 sz 0 (len+news.length) none) (os.put i j .gone ++ [one (.row e sz p (es ++ news))]))
     (len+news.length≤es.length∧D.isPureP p news∧(news = []→K (.sl i j sz 0 len none) os)∧(news ≠ []→K (.sl i j sz 0 (len+news.length) none) (os.put i j (.row e sz p (splice es len news))))) else
     (lo+len≤es.length∧D.isPureP p news)∧(news = []→K (.sl i j sz lo len none) os)∧(news ≠ []→(len+news.length) * ti.bytes≤140737488355328∧len+news.length≤140737488355328 ∧
      K (.sl i j sz lo (len+news.length) none) (os.put i j (.row e sz p (splice es (lo+len) news)))∧App K os e sz (len+news.length) (p && D.pureL news) ((es.drop lo).take len ++ news))
    | some c=>c = len∧(news = []→K (.sl i j sz lo len (some c)) os)∧(news ≠ []→(len+news.length) * ti.bytes≤140737488355328∧len+news.length≤140737488355328∧lo+len≤es.length ∧
     App K os e sz (len+news.length) (p && D.pureL news) ((es.drop lo).take len ++ news)) else False
   | _=>False else False
 | _=>False
def D.isPure (p:Bool) (ds:List D):Bool:=!p || D.pureL ds
def ldOf (τ:Tau) (t:TypeId) (d:D) (off:Nat) (K:D→Prop):Prop:=bif d.isJunk then False else ldPart τ t d.cells off K
def vcLoad (τ:Tau) (t:TypeId) (x:D) (os:Objs) (K:D→Objs→Prop):Prop :=
 match x with
 | .ptr i j sz e off=>match os.at i j with
  | .row _ sz' _ es=>if sz' = sz then Opt es[e]? (fun d=>ldOf τ t d off (fun d=>K d os)) else False
  | _=>False
 | .pel d off=>ldOf τ t d off (fun d=>K d os)
 | _=>False
def vcStore (τ:Tau) (t:TypeId) (x y:D) (os:Objs) (K:D→Objs→Prop):Prop :=
 match x with
 | .ptr i j sz e off=>match os.at i j with
  | .row t' sz' p es=>if sz' = sz then Opt es[e]? (fun d=>D.force (fun u=>match τ t with
    | some ti=>bif (u.cells.all D.one && !d.isJunk) && Nat.ble 1 ti.size && (Nat.beq u.cells.length ti.size && (Nat.ble (off+ti.size) d.cells.length && D.isPure p u.cells)) then
      D.deep (fun d'=>K (.tup []) (os.put i j (.row t' sz p (es.set e d')))) (d.upd off u.cells) else False
    | none=>False) y) else False
  | _=>False
 | _=>False
def vcBuildSlice (τ:Tau) (t:TypeId) (len:Nat) (is:List Nat) (vs:List D) (os:Objs) (K:D→Objs→Prop):Prop :=
 match τ t with
 | some { k:=.slice e,.. }=>match τ e with
  | some te=>bif (te.zero.isJunk || !(Nat.ble (len * te.size) 65536)) || Nat.beq te.size 0 then False else
    forceL vs fun vs =>
    bif (is.zip vs).all (fun p=>Nat.blt p.1 len && (Nat.beq p.2.cells.length te.size && p.2.cells.all D.one)) then
     App K os e te.size len (te.zero.pure && D.pureL vs) (setAll (List.replicate len te.zero) (is.zip vs))
    else False
  | none=>False
 | _=>False
def vcBuild (τ:Tau) (t:TypeId) (is:List Nat) (vs:List D) (K:D→Prop):Prop :=
 match τ t with
 | some { k:=.struct fs,zero:=.agg zc,.. }=>match fs.mapM (fun f=>(τ f.2).map fun tf=>(f.1,tf.size)) with
  | some places=>forceL vs fun vs=>bif !(vs.all fun d=>!d.isJunk) then False else match fillD (fun i=>places[i]?) zc (is.zip vs) with
   | some cs=>forceL cs (fun cs=>K (.agg cs))
   | none=>False
  | none=>False
 | _=>False
def vcMakeSlice (τ:Tau) (t:TypeId) (l c:D) (os:Objs) (K:D→Objs→Prop):Prop :=
 match τ t with
 | some { k:=.slice e,.. }=>match τ e,l,c with
  | some te,.int _ a,.int _ b=>bif te.zero.isJunk || Nat.beq te.size 0 then False else
    (0≤a∧a≤b)∧(te.bytes:Int) * b≤140737488355328∧b≤140737488355328 ∧
     App K os e te.size a.toNat te.zero.pure (List.replicate a.toNat te.zero)
  | _,_,_=>False
 | _=>False
def vcFieldAddr (τ:Tau) (t:TypeId) (x:D) (f:Nat) (K:D→Prop):Prop :=
 match τ t with
 | some { k:=.struct fs,.. }=>match fs[f]? with
  | some (o,ft)=>match τ ft with
   | some tf=>bif Nat.beq tf.size 0 then False else match x with
    | .ptr i j sz e off=>K (.ptr i j sz e (off+o))
    | .pel d off=>K (.pel d (off+o))
    | _=>False
   | none=>False
  | none=>False
 | _=>False
def vcField (τ:Tau) (t:TypeId) (x:D) (f:Nat) (K:D→Prop):Prop :=
 match τ t with
 | some { k:=.struct fs,.. }=>match fs[f]?,x with
  | some (o,ft),.agg cs=>ldPart τ ft cs o K
  | _,_=>False
 | _=>False
def vcIndexAddr (τ:Tau) (t:TypeId) (x i:D) (K:D→Prop):Prop :=
 match τ t with
 | some { k:=.slice e,.. }=>match τ e with
  | some te=>match x,i with
   | .lst sz _ es,.int _ n=>if sz = te.size then 0≤n∧Opt es[n.toNat]? (fun d=>K (.pel d 0)) else False
   | .sl i j sz lo len _,.int _ n=>if sz = te.size then (0≤n∧n < (len:Int))∧K (.ptr i j sz (lo+n.toNat) 0) else False
   | _,_=>False
  | none=>False
 | _=>False
def vcSlice (τ:Tau) (t:TypeId) (x l:D) (hi mx:Option D) (K:D→Prop):Prop :=
 match τ t with
 | some { k:=.slice e,.. }=>match τ e with
  | some te=>match x,l with
   | .lst sz full es,.int _ l=>match hi.getD (.int .i64 es.length),mx with
    | .int _ h,none=>if sz = te.size then (0≤l∧l≤h)∧h≤(es.length:Int)∧Nm ((es.take h.toNat).drop l.toNat) (fun es'=>K (.lst sz (full && decide (h = (es.length:Int))) es')) else False
    | .int _ h,some (.int _ m)=>if sz = te.size∧hi.isSome = true then (0≤l∧l≤h)∧(h = m∧m≤(es.length:Int))∧Nm ((es.take h.toNat).drop l.toNat) (fun es'=>K (.lst sz true es')) else False
    | _,_=>False
   | .sl i j sz lo len none,.int _ l=>match hi.getD (.int .i64 len),mx with
    | .int _ h,none=>if sz = te.size then (0≤l∧l≤h)∧h≤(len:Int)∧K (.sl i j sz (lo+l.toNat) (h.toNat - l.toNat) none) else False
    | .int _ h,some (.int _ m)=>if sz = te.size∧hi.isSome = true then (0≤l∧l≤h)∧Cap (h = m∧m≤(len:Int)) (h≤m∧m≤(len:Int)) ((l = h→K (.lst sz true []))∧(l < h→K (.sl i j sz (lo+l.toNat) (h.toNat - l.toNat) (some (h.toNat - l.toNat))))) (K .junk) else False
    | _,_=>False
   | .sl i j sz lo len (some c),.int _ l=>match hi.getD (.int .i64 len),mx with
    | .int _ h,none=>if sz = te.size then (0≤l∧l≤h)∧(h≤(len:Int)∧(l = 0∨l < h))∧K (.sl i j sz (lo+l.toNat) (h.toNat - l.toNat) (some (c - l.toNat))) else False
    | .int _ h,some (.int _ m)=>if sz = te.size∧hi.isSome = true then (0≤l∧l≤h)∧(h = m∧m≤(len:Int))∧(l = h→K (.lst sz true []))∧(l < h→K (.sl i j sz (lo+l.toNat) (h.toNat - l.toNat) (some (h.toNat - l.toNat)))) else False
    | _,_=>False
   | .nils,.int _ l=>match hi.getD (.int .i64 0),mx with
    | .int _ h,none=>(l = 0∧h = 0)∧K .nils
    | .int _ h,some (.int _ m)=>if hi.isSome = true then (l = 0∧h = 0∧m = 0)∧K .nils else False
    | _,_=>False
   | _,_=>False
  | none=>False
 | _=>False
def eqInts:List IntKind→List D→List D→(Bool→Prop)→Prop
 | [],[],[],K=>K true
 | k :: ks,.int k1 a :: cs,.int k2 b :: ds,K=>if k1 = k∧k2 = k then eqInts ks cs ds (fun r=>K (decide (a = b) && r)) else False
 | _,_,_,_=>False
def vcEql (τ:Tau) (t:TypeId) (x y:D) (K:Bool→Prop):Prop :=
 match x,y with
 | .int k a,.int k' b=>if k = k' then K (decide (a = b)) else False
 | .agg cs,.agg ds=>match τ t with
  | some { cmp:=some ks,.. }=>eqInts ks cs ds K
  | _=>False
 | a,b=>match τ t with
  | some ti=>vcEq ti.k a b K
  | none=>False
def vcCopy (te:TI) (d:D) (news:List D) (os:Objs) (K:D→Objs→Prop):Prop :=
 match d with
 | .nils=>K (.int .i64 0) os
 | .sl i j sz lo len _=>if sz = te.size then match os.at i j with
  | .row t' sz' p es=>if sz' = sz then lo+len≤es.length∧Nm (min news.length len) (fun n=>(n = 0→K (.int .i64 0) os)∧(0 < n→D.isPureP p (news.take n)∧K (.int .i64 (n:Int)) (os.put i j (.row t' sz' p (splice es lo (news.take n)))))) else False
  | _=>False else False
 | _=>False
def vcClear (te:TI) (x:D) (os:Objs) (K:D→Objs→Prop):Prop :=
 match x with
 | .nils=>K (.tup []) os
 | .sl i j sz lo len _=>if sz = te.size then match os.at i j with
  | .row t' sz' p es=>if sz' = sz then lo+len≤es.length∧(len = 0→K (.tup []) os)∧(0 < len→K (.tup []) (os.put i j (.row t' sz' p (splice es lo (List.replicate len te.zero))))) else False
  | _=>False else False
 | _=>False
def vcZeros (te:TI) (e:TypeId) (s x:D) (os:Objs) (K:D→Objs→Prop):Prop :=
 match s,x with
 | .nils,.int .i64 n=>(0≤n∧n * te.bytes≤140737488355328∧n≤140737488355328)∧(n = 0→K .nils os)∧(0 < n→App K os e te.size n.toNat te.zero.pure (List.replicate n.toNat te.zero))
 | _,_=>False
def vcBuiltin (τ:Tau) (b:Builtin) (xs:List D) (ts:List TypeId) (os:Objs) (K:D→Objs→Prop):Prop :=
 match b,xs,ts with
 | .len,[x],[t]=>match τ t with
  | some ti=>match ti.k,x with
   | .slice _,.nils=>K (.int .i64 0) os
   | .slice _,.lst _ _ es=>K (.int .i64 (es.length:Int)) os
   | .slice _,.sl _ _ _ _ len _=>K (.int .i64 (len:Int)) os
   | .str,.str s=>K (.int .i64 (s.size:Int)) os
   | _,_=>False
  | none=>False
 | .min,.int k x :: r,_=>match minL x r with
  | some z=>K (.int k z) os
  | none=>False
 | .max,.int k x :: r,_=>match maxL x r with
  | some z=>K (.int k z) os
  | none=>False
 | .append,[s,x],[t,tx]=>match τ t,τ tx with
  | some { k:=.slice e,.. },some { k:=.slice _,.. }=>match τ e with
   | some te=>bif Nat.beq te.size 0 || te.zero.isJunk then False else srcD os te.size x (fun news=>vcAppend te e s news os K)
   | none=>False
  | some { k:=.slice e,.. },some { k:=.int .i64,.. }=>match τ e with
   | some te=>bif Nat.beq te.size 0 || te.zero.isJunk then False else vcZeros te e s x os K
   | none=>False
  | _,_=>False
 | .cap,[x],[t]=>match τ t with
  | some { k:=.slice _,.. }=>match x with
   | .nils=>K (.int .i64 0) os
   | .lst _ true es=>K (.int .i64 (es.length:Int)) os
   | .sl _ _ _ _ _ (some c)=>K (.int .i64 (c:Int)) os
   | _=>False
  | _=>False
 | .copy,[d,s],[t,ts]=>match τ t,τ ts with
  | some { k:=.slice e,.. },some { k:=.slice _,.. }=>match τ e with
   | some te=>srcD os te.size s (fun news=>vcCopy te d news os K)
   | none=>False
  | _,_=>False
 | .clear,[x],[t]=>match τ t with
  | some { k:=.slice e,.. }=>match τ e with
   | some te=>bif te.zero.isJunk || !te.zero.pure then False else vcClear te x os K
   | none=>False
  | _=>False
 | _,_,_=>False
def vcMapPut (τ:Tau) (t:TypeId) (m k x:D) (os:Objs) (K:D→Objs→Prop):Prop :=
 match τ t,m,k with
 | some { k:=.map kt _,.. },.mp i j,.int .i64 n=>match τ kt,os.at i j with
  | some { k:=.int .i64,.. },.map es=>D.force (fun d=>K (.tup []) (os.put i j (.map (putM es n d)))) x
  | _,_=>False
 | _,_,_=>False
def vcLookup (τ:Tau) (t:TypeId) (x i:D) (ok:Bool) (os:Objs) (K:D→Objs→Prop):Prop :=
 match τ t,x,i with
 | some { k:=.map kt et,.. },.mp a b,.int .i64 n=>match τ kt,τ et,os.at a b with
  | some { k:=.int .i64,.. },some te,.map es=>bif te.zero.isJunk then False else
    Fnd (lookM es n) (D.force (fun d=>bif ok then K (.tup [d,.bool true]) os else K d os)) (bif ok then K (.tup [te.zero,.bool false]) os else K te.zero os)
  | _,_,_=>False
 | _,_,_=>False
def bytesL:List D→Option (List Int)
 | []=>some []
 | .int .u8 n :: r=>match bytesL r with
  | some l=>some (n :: l)
  | none=>none
 | _=>none
def bytesD (es:List D):Option ByteArray:=match bytesL es with
 | some ns=>some (ns.foldl (fun r n=>r.push (UInt8.ofNat n.toNat)) ByteArray.empty)
 | none=>none
def vcIndex (τ:Tau) (t:TypeId) (x i:D) (K:D→Prop):Prop :=
 match τ t with
 | some { k:=.arr n e,.. }=>match τ e,x,i with
  | some te,.agg cs,.int _ m=>(0≤m∧m < (n:Int))∧ldPart τ e cs (m.toNat * te.size) K
  | _,_,_=>False
 | _=>False
def isNilS:Operand→Bool
 | .const (.slice none 0 0)=>true
 | _=>false
def vcNil (τ:Tau) (t:TypeId) (x:D) (K:Bool→Prop):Prop :=
 match τ t with
 | some { k:=.slice _,.. }=>match x with
  | .nils=>K true
  | .lst _ _ es=>(es ≠ []→K false)∧(es = []→K true∧K false)
  | .sl _ _ _ _ len _=>(0 < len→K false)∧(len = 0→K true∧K false)
  | _=>False
 | _=>False
def vcNilOp (τ:Tau) (t:TypeId) (op:BinOp) (x:D) (K:Bool→Prop):Prop :=
 match op with
 | .eql=>vcNil τ t x K
 | .neq=>vcNil τ t x (fun b=>K (!b))
 | _=>False
def vcCmp (τ:Tau) (op:BinOp) (t:TypeId) (x y:D) (K:D→Prop):Prop :=
 match op with
 | .eql=>vcEql τ t x y (fun r=>K (.bool r))
 | .neq=>vcEql τ t x y (fun r=>K (.bool (!r)))
 | op=>vcBin op x y K
def vcOp (τ:Tau) (C:CallW) (get:Nat→D) (os:Objs) (op:Op) (K:D→Objs→Prop):Prop :=
 match op with
 | .move x | .assign x=>D.force (fun d=>K d os) (evalO get x)
 | .pick c a b=>match evalO get c with
  | .bool t=>Br t (D.force (fun d=>K d os) (evalO get a)) (D.force (fun d=>K d os) (evalO get b))
  | _=>False
 | .alloc t=>match τ t with
  | some ti=>bif ti.zero.isJunk then False else K (.ptr os.length 0 ti.size 0 0) (os ++ [one (.row t ti.size false [ti.zero])])
  | none=>False
 | .box t x=>D.force (fun d=>bif d.cells.all D.one then K (.ptr os.length 0 d.cells.length 0 0) (os ++ [one (.row t d.cells.length false [d])]) else False) (evalO get x)
 | .buildSlice t len parts=>vcBuildSlice τ t len (parts.toList.map (·.1)) (parts.toList.map fun p=>evalO get p.2) os K
 | .build t parts=>vcBuild τ t (parts.toList.map (·.1)) (parts.toList.map fun p=>evalO get p.2) (fun d=>K d os)
 | .load t x=>vcLoad τ t (evalO get x) os K
 | .store t x y=>vcStore τ t (evalO get x) (evalO get y) os K
 | .nilCheck x=>match evalO get x with
  | .ptr i j sz e off=>K (.ptr i j sz e off) os
  | .pel d off=>K (.pel d off) os
  | .fn (.func f) a b=>K (.fn (.func f) a b) os
  | _=>False
 | .binOp op t x y _=>bif isNilS y then vcNilOp τ t op (evalO get x) (fun b=>K (.bool b) os) else vcCmp τ op t (evalO get x) (evalO get y) (fun d=>K d os)
 | .unOp op _ x=>match op,evalO get x with
  | .not,.bool b=>K (.bool (!b)) os
  | .neg,.int k n=>Ar k (0 - n) (fun z=>K (.int k z) os)
  | _,_=>False
 | .convert src dst x=>match τ src,τ dst,evalO get x with
  | some { k:=.int _,.. },some { k:=.int k,.. },.int _ n=>Ar k n (fun z=>K (.int k z) os)
  | some { k:=.str,.. },some { k:=.str,.. },.str s=>K (.str s) os
  | some { k:=.slice e,.. },some { k:=.str,.. },.lst sz _ es=>match τ e with
   | some { k:=.int .u8,.. }=>if sz = 1 then Opt (bytesD es) (fun s=>K (.str s) os) else False
   | _=>False
  | _,_,_=>False
 | .makeFunc fn a b=>forceL (a.toList.map (evalO get)) fun x=>forceL (b.toList.map (evalO get)) fun y=>K (.fn fn x y) os
 | .makeSlice t l c=>vcMakeSlice τ t (evalO get l) (evalO get c) os K
 | .fieldAddr t x f=>vcFieldAddr τ t (evalO get x) f (fun d=>K d os)
 | .field t x f=>vcField τ t (evalO get x) f (fun d=>K d os)
 | .indexAddr t x i=>vcIndexAddr τ t (evalO get x) (evalO get i) (fun d=>K d os)
 | .index t x i=>vcIndex τ t (evalO get x) (evalO get i) (fun d=>K d os)
 | .slice t x lo hi mx=>vcSlice τ t (evalO get x) ((lo.map (evalO get)).getD (.int .i64 0)) (hi.map (evalO get)) (mx.map (evalO get)) (fun d=>K d os)
 | .makeMap _ none=>K (.mp os.length 0) (os ++ [one (.map [])])
 | .insert t m k x | .mapUpdate t m k x=>vcMapPut τ t (evalO get m) (evalO get k) (evalO get x) os K
 | .lookup t x i ok=>vcLookup τ t (evalO get x) (evalO get i) ok os K
 | .extract x i=>match evalO get x with
  | .tup vs=>match vs[i]? with
   | some d=>D.force (fun d=>K d os) d
   | none=>False
  | _=>False
 | .call { callee:=.value f,args,.. }=>match evalO get f with
  | .fn (.func n) a b=>forceL (a ++ (args.toList.map (evalO get) ++ b)) fun xs=>C n xs os K
  | _=>False
 | .call { callee:=.builtin b,args,argTypes }=>vcBuiltin τ b (args.toList.map (evalO get)) argTypes.toList os K
 | _=>False
end Go.Proofs.YtkceciebmkklpaaGreat.V
end
section
namespace Go.Proofs.YtkceciebmkklpaaGreat.V
open Go Go.RowKit
theorem flat_nil:flat [] = []:=rfl
theorem flat_cons (u:Value) (us:List Value):flat (u :: us) = u.cells.toList ++ flat us:=by simp [flat]
theorem flat_append (us vs:List Value):flat (us ++ vs) = flat us ++ flat vs:=by simp [flat]
theorem flat_length {sz:Nat}:∀ {us:List Value},(∀ u ∈ us,u.cells.size = sz)→(flat us).length = us.length * sz
 | [],_=>by simp [flat]
 | u :: us,h=>by
  rw [flat_cons,List.length_append,flat_length (us:=us) (fun x hx=>h x (by simp [hx])),List.length_cons,Nat.add_mul]
  have:=h u (by simp)
  simp [this]; omega
theorem flat_split {sz:Nat} {us:List Value} {e:Nat} {u:Value} (h:∀ u ∈ us,u.cells.size = sz) (he:us[e]? = some u) :
  ∃ a b,flat us = a ++ (u.cells.toList ++ b)∧a.length = e * sz∧a = flat (us.take e)∧b = flat (us.drop (e+1)):=by
 have hlt:e < us.length:=(List.getElem?_eq_some_iff.1 he).1
 have hu:us[e] = u:=(List.getElem?_eq_some_iff.1 he).2
 refine ⟨flat (us.take e),flat (us.drop (e+1)),?_,?_,rfl,rfl⟩
 ·conv=>lhs; rw [← List.take_append_drop e us,flat_append,List.drop_eq_getElem_cons hlt,flat_cons,hu]
 ·rw [flat_length (sz:=sz) (fun x hx=>h x (List.mem_of_mem_take hx)),List.length_take]
  congr 1; omega
theorem flat_set {sz:Nat} {us:List Value} {e:Nat} {u v:Value} (h:∀ u ∈ us,u.cells.size = sz) (he:us[e]? = some u) (hv:v.cells.size = sz) :
  flat (us.set e v) = (flat us).take (e * sz) ++ (v.cells.toList ++ (flat us).drop (e * sz+sz)):=by
 obtain ⟨a,b,hab,hal,ha,hb⟩:=flat_split h he
 have hlt:e < us.length:=(List.getElem?_eq_some_iff.1 he).1
 have hus:u.cells.toList.length = sz:=by simpa using h u (List.mem_of_getElem? he)
 have e1:(a ++ (u.cells.toList ++ b)).take (e * sz) = a:=by rw [← hal]; exact List.take_left
 have e2:(a ++ (u.cells.toList ++ b)).drop (e * sz+sz) = b:=by
  rw [← List.append_assoc,show e * sz+sz = (a ++ u.cells.toList).length by rw [List.length_append,hal,hus]]; exact List.drop_left
 rw [hab,e1,e2,ha,hb,List.set_eq_take_append_cons_drop,if_pos hlt,flat_append,flat_cons]
theorem flat_drop {sz:Nat} {us:List Value} (n:Nat) (h:∀ u ∈ us,u.cells.size = sz) (hn:n≤us.length):(flat us).drop (n * sz) = flat (us.drop n):=by
 conv=>lhs; rw [← List.take_append_drop n us,flat_append]
 have:(flat (us.take n)).length = n * sz:=by
  rw [flat_length (sz:=sz) (fun x hx=>h x (List.mem_of_mem_take hx)),List.length_take]; congr 1; omega
 rw [List.drop_append_of_le_length (by omega),List.drop_of_length_le (by omega),List.nil_append]
theorem flat_take_prefix (n:Nat) (us:List Value):flat (us.take n) <+: flat us:=by
 conv=>rhs; rw [← List.take_append_drop n us,flat_append]
 exact List.prefix_append _ _
theorem prefix_get {α:Type} {a b:List α} (h:a <+: b) {n:Nat} {x:α} (hn:a[n]? = some x):b[n]? = some x:=by
 obtain ⟨t,rfl⟩:=h
 rw [List.getElem?_append_left (List.getElem?_eq_some_iff.1 hn).1]; exact hn
theorem elem_cells {sz:Nat} {us:List Value} {cs:List Value} {e k:Nat} {u c:Value} (h:∀ u ∈ us,u.cells.size = sz) (hp:flat us <+: cs) (he:us[e]? = some u) (hc:u.cells.toList[k]? = some c) :
  cs[e * sz+k]? = some c:=by
 obtain ⟨a,b,hab,hal,_,_⟩:=flat_split h he
 refine prefix_get hp ?_
 rw [hab,List.getElem?_append_right (by omega),hal]
 have:k < u.cells.toList.length:=(List.getElem?_eq_some_iff.1 hc).1
 rw [show e * sz+k - e * sz = k by omega,List.getElem?_append_left this]; exact hc
def Lies (w:World) (b o:Nat) (cs:List Value):Prop:=w.rangeAt b o cs
theorem Lies.part {w:World} {b o:Nat} {cs:List Value} (h:Lies w b o cs) (off n:Nat):Lies w b (o+off) ((cs.drop off).take n):=by
 intro j v hj
 have:cs[off+j]? = some v:=by
  rw [List.getElem?_take] at hj
  split at hj
  ·rwa [List.getElem?_drop] at hj
  ·cases hj
 have:=h (off+j) v this
 rwa [← Nat.add_assoc] at this
theorem Lies.of_block {w:World} {b:Nat} {arr:Array Value} {t:TypeId} {fz:Nat × Nat} (hb:w.heap[b]? = some (.cells arr t fz)) {o:Nat} {cs:List Value} (h:cs <+: arr.toList.drop o):Lies w b o cs:=by
 intro j v hj
 have:=prefix_get h hj
 rw [List.getElem?_drop] at this
 simp [World.cell?,hb]
 simpa using this
theorem ldPart_run {P:Program} {τ:Tau} (hτ:TauOk P τ) {t:TypeId} {cs:List D} {off:Nat} {K:D→Prop} (h:ldPart τ t cs off K) {ρ:Pl} {I:Im} {w:World} {b o:Nat} {vs:List Value}
  (hr:repL ρ I cs vs) (hl:Lies w b o vs):∃ d v,K d∧rep ρ I d v∧(Instr.loadAt t (.pointer (some ⟨b,o+off,none⟩))).run P w = .ok v w:=by
 unfold ldPart at h
 cases ht:τ t with
 | none=>rw [ht] at h; exact h.elim
 | some ti =>
  rw [ht] at h
  dsimp only at h
  obtain ⟨i,d,hty⟩:=hτ t ti ht
  have agg:∀ ds:List D,ds = (cs.drop off).take ti.size→ds.length = ti.size→ti.k.agg = some true→K (.agg ds)→∃ d v,K d∧rep ρ I d v∧(Instr.loadAt t (.pointer (some ⟨b,o+off,none⟩))).run P w = .ok v w:=by
   intro ds he hlen hagg hK
   subst he
   have hrp:=repL_take ti.size (repL_drop off hr)
   have hlp:=hl.part off ti.size
   have hvl:=repL_length hrp
   have hrow:d.isRow = true:=by
    have:=hty.kind
    cases hk:ti.k <;> rw [hk] at this hagg <;> simp [TK.agg] at hagg <;> simp only [kindOk] at this
    ·obtain ⟨F,rfl,_⟩:=this; rfl
    ·subst this; rfl
   refine ⟨_,.agg ((vs.drop off).take ti.size).toArray,hK,?_,run_loadAt_mid w b (o+off) t _ d hlp hty.und hrow ?_⟩
   ·rw [rep]; exact ⟨_,rfl,by simpa using hrp⟩
   ·rw [hty.info]; simp only [Option.map_some,hty.size]; rw [hvl,hlen]
  cases hk:ti.k.agg with
  | none=>rw [hk] at h; exact h.elim
  | some r =>
   rw [hk] at h
   cases r with
   | true =>
    dsimp only at h
    cases hb:(Nat.beq off 0 && Nat.beq cs.length ti.size) with
    | true =>
     rw [hb] at h
     simp only [cond_true] at h
     rw [Bool.and_eq_true] at hb
     have h0:=Nat.eq_of_beq_eq_true hb.1
     have h1:=Nat.eq_of_beq_eq_true hb.2
     subst h0
     refine agg cs ?_ h1 hk h
     rw [List.drop_zero,List.take_of_length_le (by omega)]
    | false =>
     rw [hb] at h
     simp only [cond_false] at h
     cases hb2:Nat.beq ((cs.drop off).take ti.size).length ti.size with
     | true=>rw [hb2] at h; simp only [cond_true] at h; rw [forceL_eq] at h; exact agg _ rfl (Nat.eq_of_beq_eq_true hb2) hk h
     | false=>rw [hb2] at h; exact h.elim
   | false =>
    obtain ⟨h1,h⟩:=h
    obtain ⟨x,hx,h⟩:=Opt.iff.1 h
    rw [D.force_eq] at h
    obtain ⟨v,hv,hrv⟩:=repL_get hr hx
    refine ⟨x,v,h,hrv,?_⟩
    have hcell:w.cell? ⟨b,o+off,none⟩ = some v:=hl off v hv
    have hagg:(isAgg t).run P w = .ok false w:=by
     unfold isAgg
     rw [Sem.run_bind,run_underlying hty.und w]
     have:=hty.kind
     cases hk':ti.k <;> rw [hk'] at this hk <;> simp [TK.agg] at hk <;> simp only [kindOk] at this
     case int=>subst this; rfl
     case bool=>subst this; rfl
     case str=>subst this; rfl
     case ptr=>obtain ⟨e,rfl⟩:=this; rfl
     case slice=>subst this; rfl
     case map=>subst this; rfl
     case func=>obtain ⟨a,b,c,rfl⟩:=this; rfl
    simp [Instr.loadAt,Instr.sureAddr,loadVar,hagg,hcell]
end Go.Proofs.YtkceciebmkklpaaGreat.V
end
section
namespace Go.Proofs.YtkceciebmkklpaaGreat.V
open Go Go.RowKit
def Goes (Γ:Ctx) (ρ:Pl) (I:Im) (K:D→Objs→Prop) (v:Value) (w':World):Prop :=
 ∃ d os' ρ' I',Sat ρ' I' os' w'∧Γ.Fr ρ' I' os' w'∧ρ.le ρ'∧I.le I'∧rep ρ' I' d v∧K d os'
theorem Goes.same {Γ:Ctx} {ρ:Pl} {I:Im} {os:Objs} {w:World} {K:D→Objs→Prop} {d:D} {v:Value} (sat:Sat ρ I os w) (fr:Γ.Fr ρ I os w) (h:rep ρ I d v) (hk:K d os):Goes Γ ρ I K v w :=
 ⟨d,os,ρ,I,sat,fr,Pl.le_refl _,Im.le_refl _,h,hk⟩
def Out (P:Program) (Γ:Ctx) (ρ:Pl) (I:Im) (r:Result Next) (w:World) (K:D→Objs→Prop):Prop :=
 (∃ v w',(r = .ok (.value v) w'∨(r = .ok .skip w'∧v = undef))∧Goes Γ ρ I K v w') ∨
 (∃ n vs,r = .ok (.enter n vs) w∧Calls P n vs w fun e w'=>∃ v,e = .returned v∧Goes Γ ρ I K v w')
theorem maxLen_pos:1≤maxLen:=by simp [maxLen]
theorem new_row {Γ:Ctx} {ρ:Pl} {I:Im} {os:Objs} {w w':World} (sat:Sat ρ I os w) (fr:Γ.Fr ρ I os w) {arr:Array Value} {t:TypeId} (hh:w'.heap = w.heap.push (.cells arr t))
  (ho:w'.os = w.os) (htp:w'.tape = w.tape) (hu:w'.output = w.output) {sz C:Nat} {pr:Bool} {es:List D} {us:List Value} (hes:es.length≤C) (hC:C≤maxLen) (harr:arr.size = C * sz)
  (hr:repL (if pr then bot else ρ) I es us) (hf:∀ u ∈ us,Value.fine u sz) (hfl:flat us <+: arr.toList) :
  Sat (ρ.new os.length (w.heap.size,C)) I (os ++ [one (.row t sz pr es)]) w'∧Γ.Fr (ρ.new os.length (w.heap.size,C)) I (os ++ [one (.row t sz pr es)]) w'∧ρ.le (ρ.new os.length (w.heap.size,C)):=by
 have hle:ρ.le (ρ.new os.length (w.heap.size,C)):=Pl.le_new (fun j=>sat.dom _ _ (Nat.le_refl _))
 have hold:∀ b,b < w.heap.size→w'.heap[b]? = w.heap[b]?:=fun b hb=>by rw [hh,Array.getElem?_push,if_neg (by omega)]
 refine ⟨sat.new hold C _ ⟨hes,hC,fun _=>⟨arr,us,by rw [hh]; simp,harr,?_,hf,hfl⟩⟩,fr.new ⟨ho,htp,hu,by rw [hh]; simp⟩ hold C _,hle⟩
 cases pr
 ·exact repL_mono hle (Im.le_refl _) _ _ hr
 ·exact hr
theorem new_only {Γ:Ctx} {ρ:Pl} {I:Im} {os:Objs} {w w':World} (sat:Sat ρ I os w) (fr:Γ.Fr ρ I os w) {arr:Array Value} {t:TypeId} (hh:w'.heap = w.heap.push (.cells arr t))
  (ho:w'.os = w.os) (htp:w'.tape = w.tape) (hu:w'.output = w.output) :
  ∃ I',I' w.heap.size = some (.cells arr t (0,0))∧I.le I'∧Sat ρ I' os w'∧Γ.Fr ρ I' os w':=by
 have hold:∀ b,b < w.heap.size→w'.heap[b]? = w.heap[b]?:=fun b hb=>by rw [hh,Array.getElem?_push,if_neg (by omega)]
 have hle:I.le (fun b=>if b = w.heap.size then some (.cells arr t (0,0)) else I b):=fun b o hb=>by
  have:=sat.im_lt hb
  simp [Nat.ne_of_lt this,hb]
 refine ⟨fun b=>if b = w.heap.size then some (.cells arr t (0,0)) else I b,by simp,hle,⟨fun b o hb=>?_,fun i j hne=>?_,sat.inj,fun b hb=>?_,sat.dom⟩,
  ⟨ho.trans fr.wos,htp.trans fr.tape,hu.trans fr.output,by rw [hh]; simp; have:=fr.size; omega,fun b hb hf=>by rw [hold b (Nat.lt_of_lt_of_le hb fr.size)]; exact fr.kept b hb hf,fr.len,fr.same,Im.le_trans fr.imle hle,fun b hb=>?_,fr.obnew⟩⟩
 ·by_cases e:b = w.heap.size
  ·subst e; simp at hb; subst hb; rw [hh]; simp
  ·simp [e] at hb; rw [hold b (sat.im_lt hb)]; exact sat.im b o hb
 ·obtain ⟨p,hp,hok⟩:=sat.ok i j hne
  exact ⟨p,hp,objOk_mono (Pl.le_refl _) hle (fun hpos=>hold _ (objOk_lt hne hpos hok)) hok⟩
 ·have:=sat.foot_lt hb
  simp [Nat.ne_of_lt this,sat.apart b hb]
 ·by_cases e:b = w.heap.size
  ·exact .inr (.inr (by rw [e]; exact fr.size))
  ·simp [e] at hb; exact fr.imnew b hb
theorem app_goes {Γ:Ctx} {ρ:Pl} {I:Im} {os:Objs} {w w':World} {K:D→Objs→Prop} (sat:Sat ρ I os w) (fr:Γ.Fr ρ I os w) {arr:Array Value} {t:TypeId} (hh:w'.heap = w.heap.push (.cells arr t))
  (ho:w'.os = w.os) (htp:w'.tape = w.tape) (hu:w'.output = w.output) {sz C len:Nat} {pr:Bool} {es:List D} {us:List Value} (hes:es.length = len) (hlC:len≤C) (hC:C≤maxLen) (harr:arr.size = C * sz)
  (hr:repL (if pr then bot else ρ) I es us) (hf:∀ u ∈ us,Value.fine u sz) (hfl:flat us <+: arr.toList) (h:App K os t sz len pr es):Goes Γ ρ I K (.slice (some ⟨w.heap.size,0,none⟩) len C) w':=by
 cases h with
 | own h =>
  obtain ⟨k1,k2,k3⟩:=new_row (sz:=sz) (pr:=pr) (es:=es) (us:=us) sat fr hh ho htp hu (by omega) hC harr hr hf hfl
  refine ⟨_,_,_,_,k1,k2,k3,Im.le_refl _,?_,h⟩
  rw [rep]
  exact ⟨_,_,_,Pl.new_self _ _ _,rfl,hlC,hC,by simp,by simp,fun _=>by simp⟩
 | only full hfu hp h =>
  subst hfu hp
  obtain ⟨I',h1,h2,h3,h4⟩:=new_only sat fr hh ho htp hu
  refine ⟨_,_,ρ,I',h3,h4,Pl.le_refl _,h2,?_,h⟩
  rw [rep]
  exact ⟨_,C,us,by rw [hes],by omega,hC,(fun h=>by simp at h),repL_mono (Pl.le_refl _) h2 _ _ hr,hf,.inr ⟨w.heap.size,0,arr,t,(0,0),rfl,h1,by simpa using hfl⟩⟩
section ops
variable {P:Program} {τ:Tau} {Γ:Ctx} {ρ:Pl} {I:Im} {os:Objs} {w:World} {get:Nat→D} {a:Act} {K:D→Objs→Prop}
theorem snd_alloc (hτ:TauOk P τ) (sat:Sat ρ I os w) (fr:Γ.Fr ρ I os w) {t:TypeId} {ti:TI} (ht:τ t = some ti) (hz:ti.zero.isJunk = false)
  (h:K (.ptr os.length 0 ti.size 0 0) (os ++ [one (.row t ti.size false [ti.zero])])):∃ v w',(Instr.alloc t true (.tuple #[])).run P w = .ok v w'∧Goes Γ ρ I K v w':=by
 obtain ⟨i,d,hty⟩:=hτ t ti ht
 rcases hty.zero with e | ⟨z,hz1,hz2,hz3⟩
 ·rw [e] at hz; simp [D.isJunk] at hz
 ·obtain ⟨h1,h2,h3⟩:=new_row (pr:=false) (w':=w.alloc (.cells z.cells t)) sat fr (arr:=z.cells) (t:=t) rfl rfl rfl rfl (sz:=ti.size) (C:=1) (es:=[ti.zero]) (us:=[z]) (Nat.le_refl _) maxLen_pos
   (by rw [hz3.1]; omega) (repL_cons.2 ⟨z,[],rfl,hz2 _ _,repL_nil.2 rfl⟩) (by simpa using hz3) (by simp [flat])
  refine ⟨.pointer (some ⟨w.heap.size,0,none⟩),w.alloc (.cells z.cells t),?_,_,_,_,_,h1,h2,h3,Im.le_refl _,?_,h⟩
  ·simp [Instr.alloc,zeroValue,typeInfo,hty.info,hz1,newVar,newRow]
  ·rw [rep]; exact ⟨_,Pl.new_self _ _ _,by simp,by simp⟩
theorem snd_box (sat:Sat ρ I os w) (fr:Γ.Fr ρ I os w) (t:TypeId) {d:D} {v:Value} (hv:rep ρ I d v) (h1:d.cells.all D.one = true)
  (h:K (.ptr os.length 0 d.cells.length 0 0) (os ++ [one (.row t d.cells.length false [d])])):∃ v' w',(Instr.box t v).run P w = .ok v' w'∧Goes Γ ρ I K v' w':=by
 have hj:d ≠ .junk:=fun e=>by subst e; simp [D.cells,D.one] at h1
 have hc:=rep_cells hj hv
 have hlen:v.cells.size = d.cells.length:=by simpa using repL_length hc
 obtain ⟨k1,k2,k3⟩:=new_row (pr:=false) (w':=w.alloc (.cells v.cells t)) sat fr (arr:=v.cells) (t:=t) rfl rfl rfl rfl (sz:=d.cells.length) (C:=1) (es:=[d]) (us:=[v]) (Nat.le_refl _) maxLen_pos
   (by rw [hlen]; omega) (repL_cons.2 ⟨v,[],rfl,hv,repL_nil.2 rfl⟩) (by simpa using ⟨hlen,by simpa using repL_one h1 hc⟩) (by simp [flat])
 refine ⟨.pointer (some ⟨w.heap.size,0,none⟩),w.alloc (.cells v.cells t),?_,_,_,_,_,k1,k2,k3,Im.le_refl _,?_,h⟩
 ·simp [Instr.box,newVar,newRow]
 ·rw [rep]; exact ⟨_,Pl.new_self _ _ _,by simp,by simp⟩
theorem row_at (sat:Sat ρ I os w) {i j sz e off:Nat} {v:Value} (hv:rep ρ I (.ptr i j sz e off) v) {t:TypeId} {p:Bool} {es:List D} (hat:os.at i j = .row t sz p es) :
  ∃ q arr us,ρ i j = some q∧0 < q.2∧v = .pointer (some ⟨q.1,e * sz+off,none⟩)∧w.heap[q.1]? = some (.cells arr t (0,0))∧arr.size = q.2 * sz ∧
   repL (if p then bot else ρ) I es us∧(∀ u ∈ us,Value.fine u sz)∧flat us <+: arr.toList∧es.length≤q.2∧q.2≤maxLen:=by
 rw [rep] at hv
 obtain ⟨q,hq,hpos,rfl⟩:=hv
 obtain ⟨q',hq',hok⟩:=sat.ok i j (by rw [hat]; simp)
 rw [hq] at hq'; cases hq'
 rw [hat] at hok
 obtain ⟨h1,h2,h3⟩:=hok
 obtain ⟨arr,us,ha,hs,hr,hf,hfl⟩:=h3 hpos
 exact ⟨q,arr,us,hq,hpos,rfl,ha,hs,hr,hf,hfl,h1,h2⟩
theorem rep_if {p:Bool} {d:D} {v:Value} (h:rep (if p then bot else ρ) I d v):rep ρ I d v:=by
 cases p
 ·exact h
 ·exact rep_bot h
theorem repL_if {p:Bool} {ds:List D} {vs:List Value} (h:repL (if p then bot else ρ) I ds vs):repL ρ I ds vs:=by
 cases p
 ·exact h
 ·exact repL_bot h
theorem not_junk_of_cells {d:D} {c:List D} (h:d.cells.all D.one = true):d ≠ .junk:=fun e=>by subst e; simp [D.cells,D.one] at h
theorem elem_lies {arr:Array Value} {t:TypeId} {fz:Nat × Nat} {b o sz e:Nat} {us:List Value} {u:Value} (hb:w.heap[b]? = some (.cells arr t fz)) (hfl:flat us <+: arr.toList.drop o) (hf:∀ u ∈ us,u.cells.size = sz) (hu:us[e]? = some u) :
  Lies w b (o+e * sz) u.cells.toList:=by
 intro k c hc
 have:=elem_cells hf hfl hu hc
 rw [List.getElem?_drop] at this
 simp only [World.cell?,hb]
 rw [show o+e * sz+k = o+(e * sz+k) by omega]
 simpa using this
theorem load_run (hτ:TauOk P τ) (sat:Sat ρ I os w) {t:TypeId} {x:D} {v:Value} (hv:rep ρ I x v)
  (h:vcLoad τ t x os K):∃ v' d,(Instr.loadAt t v).run P w = .ok v' w∧rep ρ I d v'∧K d os:=by
 cases x <;> try exact h.elim
 case ptr i j sz e off =>
  simp only [vcLoad] at h
  cases hat:os.at i j with
  | gone=>rw [hat] at h; exact h.elim
  | map _=>rw [hat] at h; exact h.elim
  | loop _ _ _ _=>rw [hat] at h; exact h.elim
  | row t' sz' p es =>
   rw [hat] at h
   dsimp only at h
   split at h
   ·rename_i hsz; subst hsz
    obtain ⟨d,hd,h⟩:=Opt.iff.1 h
    obtain ⟨q,arr,us,hq,hpos,rfl,ha,hs,hr,hf,hfl,_,_⟩:=row_at sat hv hat
    obtain ⟨u,hu,hdu⟩:=repL_get hr hd
    have hl:=elem_lies (w:=w) (o:=0) ha (by simpa using hfl) (fun u hu=>(hf u hu).1) hu
    unfold ldOf at h
    cases hj:d.isJunk with
    | true=>rw [hj] at h; exact h.elim
    | false =>
     rw [hj] at h
     simp only [cond_false] at h
     have hc:=rep_cells (fun e=>by subst e; simp [D.isJunk] at hj) (rep_if hdu)
     obtain ⟨d',v',hk,hrep,hrun⟩:=ldPart_run hτ h hc (by simpa using hl)
     exact ⟨v',d',hrun,hrep,hk⟩
   ·exact h.elim
 case pel d off =>
  rw [rep] at hv
  obtain ⟨b,o,arr,t',fz,u,rfl,hb,hx,hp⟩:=hv
  simp only [vcLoad,ldOf] at h
  cases hj:d.isJunk with
  | true=>rw [hj] at h; exact h.elim
  | false =>
   rw [hj] at h
   simp only [cond_false] at h
   have hc:=rep_cells (fun e=>by subst e; simp [D.isJunk] at hj) (rep_bot (ρ:=ρ) hx)
   obtain ⟨d',v',hk,hrep,hrun⟩:=ldPart_run hτ h hc (Lies.of_block (sat.im _ _ hb) hp)
   exact ⟨v',d',hrun,hrep,hk⟩
theorem snd_load (hτ:TauOk P τ) (sat:Sat ρ I os w) (fr:Γ.Fr ρ I os w) {t:TypeId} {x:D} {v:Value} (hv:rep ρ I x v)
  (h:vcLoad τ t x os K):∃ v' w',(Instr.loadAt t v).run P w = .ok v' w'∧Goes Γ ρ I K v' w':=by
 obtain ⟨v',d,hrun,hrep,hk⟩:=load_run (P:=P) hτ sat hv h
 exact ⟨v',w,hrun,Goes.same sat fr hrep hk⟩
end ops
end Go.Proofs.YtkceciebmkklpaaGreat.V
end
section
namespace Go.Proofs.YtkceciebmkklpaaGreat.V
open Go Go.RowKit
theorem splice_in {α:Type} (a c r vs:List α) (n off:Nat) (ha:a.length = n) (hk:off+vs.length≤c.length) :
  (a ++ (c ++ r)).take (n+off) ++ vs ++ (a ++ (c ++ r)).drop (n+off+vs.length) = a ++ ((c.take off ++ (vs ++ c.drop (off+vs.length))) ++ r):=by
 subst ha
 have e1:(a ++ (c ++ r)).take (a.length+off) = a ++ c.take off:=by
  rw [List.take_append,List.take_of_length_le (by omega),show a.length+off - a.length = off by omega,List.take_append_of_le_length (by omega)]
 have e2:(a ++ (c ++ r)).drop (a.length+off+vs.length) = c.drop (off+vs.length) ++ r:=by
  rw [Nat.add_assoc,List.drop_append,List.drop_of_length_le (by omega),show a.length+(off+vs.length) - a.length = off+vs.length by omega,List.drop_append_of_le_length (by omega)]
  rfl
 rw [e1,e2]
 simp [List.append_assoc]
theorem turn_setRow (w:World) (g:Nat) (c:Array Value):Turn w (w.setRow g c):=⟨rfl,rfl,rfl,by simp [World.setRow]⟩
section ops
variable {P:Program} {τ:Tau} {Γ:Ctx} {ρ:Pl} {I:Im} {os:Objs} {w:World} {get:Nat→D} {a:Act} {K:D→Objs→Prop}
theorem rep_undef {ρ:Pl} {I:Im}:rep ρ I (.tup []) undef:=by rw [rep]; exact ⟨#[],rfl,repL_nil.2 rfl⟩
theorem mul_add_le {e q sz k:Nat} (h:e < q) (hk:k≤sz):e * sz+k≤q * sz:=by
 have:=Nat.mul_le_mul_right sz (Nat.succ_le_of_lt h)
 rw [Nat.succ_mul] at this
 omega
theorem snd_store (hτ:TauOk P τ) (sat:Sat ρ I os w) (fr:Γ.Fr ρ I os w) {t:TypeId} {x y:D} {vx vy:Value} (hx:rep ρ I x vx) (hy:rep ρ I y vy)
  (h:vcStore τ t x y os K):∃ w',(Instr.storeAt t vx vy).run P w = .ok () w'∧Goes Γ ρ I K undef w':=by
 cases x <;> try exact h.elim
 case ptr i j sz e off =>
 simp only [vcStore] at h
 cases hat:os.at i j with
 | gone=>rw [hat] at h; exact h.elim
 | map _=>rw [hat] at h; exact h.elim
 | loop _ _ _ _=>rw [hat] at h; exact h.elim
 | row t' sz' p es =>
 rw [hat] at h
 dsimp only at h
 split at h
 case isFalse=>exact h.elim
 rename_i hsz; subst hsz
 obtain ⟨d,hd,h⟩:=Opt.iff.1 h
 rw [D.force_eq] at h
 cases ht:τ t with
 | none=>rw [ht] at h; exact h.elim
 | some ti =>
 rw [ht] at h
 dsimp only at h
 cases hb:((y.cells.all D.one && !d.isJunk) && Nat.ble 1 ti.size && (Nat.beq y.cells.length ti.size && (Nat.ble (off+ti.size) d.cells.length && D.isPure p y.cells))) with
 | false=>rw [hb] at h; exact h.elim
 | true =>
 rw [hb] at h
 simp only [cond_true] at h
 rw [D.deep_eq] at h
 simp only [Bool.and_eq_true] at hb
 obtain ⟨⟨⟨hone,hjk⟩,hpos0⟩,hlen,hfit,hpure⟩:=hb
 have hpos0:1≤ti.size:=Nat.le_of_ble_eq_true hpos0
 have hlen:=Nat.eq_of_beq_eq_true hlen
 have hfit:=Nat.le_of_ble_eq_true hfit
 have hj:d ≠ .junk:=fun e=>by subst e; simp [D.isJunk] at hjk
 obtain ⟨q,arr,us,hq,hpos,rfl,ha,hs,hr,hf,hfl,hes,hC⟩:=row_at sat hx hat
 obtain ⟨u,hu,hdu⟩:=repL_get hr hd
 obtain ⟨i',dd,hty⟩:=hτ t ti ht
 have hjy:y ≠ .junk:=not_junk_of_cells (c:=[]) hone
 have hcy:=rep_cells hjy hy
 have hvl:vy.cells.toList.length = ti.size:=by have:=repL_length hcy; omega
 have hcone:=repL_one hone hcy
 have hlt:e < us.length:=(List.getElem?_eq_some_iff.1 hu).1
 have husl:us.length = es.length:=repL_length hr
 have hum:u ∈ us:=List.mem_of_getElem? hu
 have hcu:=rep_cells hj hdu
 have hul:u.cells.toList.length = d.cells.length:=repL_length hcu
 have hus:u.cells.toList.length = sz':=by simpa using (hf u hum).1
 have hroom:e * sz'+off+vy.cells.toList.length≤arr.size:=by
  rw [hs]
  have:=mul_add_le (e:=e) (q:=q.2) (sz:=sz') (k:=off+ti.size) (by omega) (by omega)
  omega
 have hst:=run_storeCells_at P q.1 (e * sz'+off) t' vy.cells.toList 0 arr w ha (by simpa using hroom) hcone
 simp only [Nat.add_zero] at hst
 have hrun:(Instr.storeAt t (.pointer (some ⟨q.1,e * sz'+off,none⟩)) vy).run P w = .ok () (w.setRow q.1 (arr.toList.take (e * sz'+off) ++ vy.cells.toList ++ arr.toList.drop (e * sz'+off+vy.cells.toList.length)).toArray):=by
  have hsz2:vy.cells.size = ti.size:=by simpa using hvl
  simp [Instr.storeAt,Instr.sureAddr,storeVar,sizeOf,typeInfo,hty.info,hty.size,hsz2]
  simpa [hvl] using hst
 obtain ⟨u',hu'1,hu'2⟩:∃ u':Value,u'.cells.toList = u.cells.toList.take off ++ (vy.cells.toList ++ u.cells.toList.drop (off+vy.cells.toList.length))∧rep (if p then bot else ρ) I (d.upd off y.cells) u':=by
  have hcy':repL (if p then bot else ρ) I y.cells vy.cells.toList:=by
   cases p
   ·exact hcy
   ·exact repL_pure _ _ (by simpa [D.isPure] using hpure) hcy
  cases d with
  | agg cs =>
   refine ⟨.agg (u.cells.toList.take off ++ (vy.cells.toList ++ u.cells.toList.drop (off+vy.cells.toList.length))).toArray,by simp [Value.cells],?_⟩
   simp only [D.upd]
   rw [rep]
   refine ⟨_,rfl,?_⟩
   have h3:repL (if p then bot else ρ) I cs u.cells.toList:=hcu
   have:=repL_append (repL_take off h3) (repL_append hcy' (repL_drop (off+ti.size) h3))
   rw [hlen]
   simpa only [hvl] using this
  | junk=>exact absurd rfl hj
  | _ =>
   all_goals
    have h1:off = 0:=by simp [D.cells] at hfit; omega
    have h2:ti.size = 1:=by simp [D.cells] at hfit; omega
    subst h1
    obtain ⟨yc,hyc⟩:∃ yc,y.cells = [yc]:=by
     have:y.cells.length = 1:=by omega
     exact List.length_eq_one_iff.1 this
    rw [hyc] at hcy'
    obtain ⟨c,r,hce,hcr,hrr⟩:=repL_cons.1 hcy'
    rw [repL_nil] at hrr
    subst hrr
    have hcc:c.cells.toList = [c]:=by
     have:=hcone c (by rw [hce]; simp)
     cases c <;> simp [Value.oneCell'] at this <;> rfl
    refine ⟨c,?_,?_⟩
    ·rw [hce,hcc,List.take_zero,List.nil_append]
     rw [List.drop_of_length_le (by simp [D.cells] at hul; simp; omega)]
     rfl
    ·simp only [D.upd,hyc,List.headD]
     exact hcr
 have hf':∀ v ∈ us.set e u',Value.fine v sz':=by
  intro v hv
  rcases List.mem_or_eq_of_mem_set hv with hv | rfl
  ·exact hf v hv
  ·refine ⟨?_,?_⟩
   ·have:v.cells.toList.length = sz':=by
     rw [hu'1,List.length_append,List.length_append,List.length_take,List.length_drop]; omega
    simpa using this
   ·intro c hc
    rw [hu'1] at hc
    rcases List.mem_append.1 hc with hc | hc
    ·exact (hf u hum).2 c (List.mem_of_mem_take hc)
    ·rcases List.mem_append.1 hc with hc | hc
     ·exact hcone c hc
     ·exact (hf u hum).2 c (List.mem_of_mem_drop hc)
 have hfl':flat (us.set e u') <+: arr.toList.take (e * sz'+off) ++ vy.cells.toList ++ arr.toList.drop (e * sz'+off+vy.cells.toList.length):=by
  obtain ⟨rest,hrest⟩:=hfl
  obtain ⟨A,B,hAB,hAl,_,_⟩:=flat_split (fun u hu=>(hf u hu).1) hu
  have hset:=flat_set (v:=u') (fun u hu=>(hf u hu).1) hu (hf' u' (by
   refine List.mem_iff_getElem.2 ⟨e,by simpa using hlt,by simp⟩)).1
  have hA:(flat us).take (e * sz') = A:=by rw [hAB,← hAl]; exact List.take_left
  have hB:(flat us).drop (e * sz'+sz') = B:=by
   rw [hAB,← List.append_assoc,show e * sz'+sz' = (A ++ u.cells.toList).length by rw [List.length_append,hAl,hus]]; exact List.drop_left
  rw [hset,hA,hB,← hrest,hAB,hu'1]
  have:=splice_in A u.cells.toList (B ++ rest) vy.cells.toList (e * sz') off hAl (by omega)
  rw [show A ++ (u.cells.toList ++ B) ++ rest = A ++ (u.cells.toList ++ (B ++ rest)) by simp [List.append_assoc],this]
  refine ⟨rest,by simp [List.append_assoc]⟩
 have hne:os.at i j ≠ .gone:=by rw [hat]; simp
 have hoth:∀ b,b ≠ q.1→(w.setRow q.1 (arr.toList.take (e * sz'+off) ++ vy.cells.toList ++ arr.toList.drop (e * sz'+off+vy.cells.toList.length)).toArray).heap[b]? = w.heap[b]?:=fun b hb=>setRow_other w q.1 b _ hb
 refine ⟨_,hrun,_,_,ρ,I,sat.write hne hq hpos hoth (.row t' sz' p (es.set e (d.upd off y.cells))) (fun _=>⟨by simpa using hes,hC,fun _=>⟨_,us.set e u',setRow_heap w q.1 arr _ t' _ ha,?_,repL_set e hr hu'2,hf',by simpa using hfl'⟩⟩),
  fr.write (turn_setRow _ _ _) hne hq hpos hoth _,Pl.le_refl _,Im.le_refl _,rep_undef,h⟩
 simp only [List.size_toArray,List.length_append,List.length_take,List.length_drop,Array.length_toList]
 rw [← hs]
 simp only [Array.length_toList] at hroom ⊢
 omega
end ops
end Go.Proofs.YtkceciebmkklpaaGreat.V
end
section
namespace Go.Proofs.YtkceciebmkklpaaGreat.V
open Go Go.RowKit
theorem flat_replicate_get {z:Value} {sz n k:Nat} (hz:z.cells.size = sz) (h0:0 < sz) (hk:k < n * sz):(flat (List.replicate n z))[k]? = z.cells[k % sz]?:=by
 have he:k / sz < n:=(Nat.div_lt_iff_lt_mul h0).2 hk
 have hget:(List.replicate n z)[k / sz]? = some z:=by simp [he]
 have hr:k % sz < z.cells.toList.length:=by have:=Nat.mod_lt k h0; simpa [hz] using this
 have:=elem_cells (cs:=flat (List.replicate n z)) (sz:=sz) (fun u hu=>by rw [List.eq_of_mem_replicate hu]; exact hz) (List.prefix_refl _) hget (k:=k % sz) (c:=z.cells.toList[k % sz]) (List.getElem?_eq_getElem hr)
 rw [show k / sz * sz+k % sz = k by rw [Nat.mul_comm]; exact Nat.div_add_mod k sz] at this
 rw [this]
 simp
theorem madeCells_flat {z:Value} {sz n:Nat} (hz:z.cells.size = sz) (h0:0 < sz):(madeCells z.cells (n * sz)).toList = flat (List.replicate n z):=by
 have hl:(flat (List.replicate n z)).length = n * sz:=by
  rw [flat_length (sz:=sz) (fun u hu=>by rw [List.eq_of_mem_replicate hu]; exact hz)]; simp
 apply List.ext_getElem?
 intro k
 by_cases hk:k < n * sz
 ·rw [flat_replicate_get hz h0 hk]
  have hm:k % z.cells.size < z.cells.size:=Nat.mod_lt _ (by omega)
  have hk2:k < (madeCells z.cells (n * sz)).toList.length:=by simpa [madeCells] using hk
  rw [List.getElem?_eq_getElem hk2]
  simp only [madeCells,Array.getElem_toList,Array.getElem_map,Array.getElem_range,hz]
  rw [hz] at hm
  rw [Array.getElem?_eq_getElem (by omega),getElem!_pos z.cells _ (by omega)]
 ·have h1:(flat (List.replicate n z))[k]? = none:=List.getElem?_eq_none (by rw [hl]; omega)
  have h2:(madeCells z.cells (n * sz)).toList[k]? = none:=List.getElem?_eq_none (by simp [madeCells]; omega)
  rw [h1,h2]
section ops
variable {P:Program} {τ:Tau} {Γ:Ctx} {ρ:Pl} {I:Im} {os:Objs} {w:World} {get:Nat→D} {a:Act} {K:D→Objs→Prop}
theorem repL_replicate {d:D} {v:Value} (h:rep ρ I d v):∀ n,repL ρ I (List.replicate n d) (List.replicate n v)
 | 0=>repL_nil.2 rfl
 | n+1=>repL_cons.2 ⟨v,_,rfl,h,repL_replicate h n⟩
theorem snd_makeSlice (hτ:TauOk P τ) (sat:Sat ρ I os w) (fr:Γ.Fr ρ I os w) {t:TypeId} {l c:D} {vl vc:Value} (hl:rep ρ I l vl) (hc:rep ρ I c vc)
  (h:vcMakeSlice τ t l c os K):∃ v' w',(Instr.makeSlice t vl vc).run P w = .ok v' w'∧Goes Γ ρ I K v' w':=by
 unfold vcMakeSlice at h
 split at h
 case h_2=>exact h.elim
 rename_i e s1 s2 s3 s4 ht
 obtain ⟨i0,d0,hty⟩:=hτ t _ ht
 split at h
 case h_2=>exact h.elim
 rename_i te ka x kb y hte
 cases hb:(te.zero.isJunk || Nat.beq te.size 0) with
 | true=>rw [hb] at h; exact h.elim
 | false =>
 rw [hb] at h
 simp only [cond_false] at h
 obtain ⟨⟨h0,h1⟩,h2,h3,h⟩:=h
 simp only [Bool.or_eq_false_iff] at hb
 obtain ⟨hjz,hsz⟩:=hb
 have hsz:0 < te.size:=Nat.pos_of_ne_zero (fun e=>by rw [e] at hsz; simp at hsz)
 obtain ⟨i,d,htye⟩:=hτ e te hte
 rw [rep] at hl hc
 subst hl hc
 have hund:P.underlying t = some (.slice e):=by have:=hty.und; have hk:=hty.kind; simp only [kindOk] at hk; rw [hk] at this; exact this
 rcases htye.zero with e' | ⟨z,hz1,hz2,hz3⟩
 ·rw [e'] at hjz; simp [D.isJunk] at hjz
 ·have hrun:=run_make (P:=P) w t e i z hund htye.info hz1 ka kb x y h0 h1 (by rw [htye.bytes]; omega) (by omega)
  have hes:x.toNat≤y.toNat:=by omega
  have hfl:flat (List.replicate x.toNat z) <+: (madeCells z.cells (y.toNat * i.size)).toList:=by
   rw [htye.size,madeCells_flat hz3.1 hsz,show y.toNat = x.toNat+(y.toNat - x.toNat) by omega,← List.replicate_append_replicate,flat_append]
   exact List.prefix_append _ _
  refine ⟨_,_,hrun,app_goes (pr:=te.zero.pure) (w':=w.alloc (.cells (madeCells z.cells (y.toNat * i.size)) e)) sat fr (arr:=madeCells z.cells (y.toNat * i.size)) (t:=e) rfl rfl rfl rfl (sz:=te.size) (C:=y.toNat)
   (es:=List.replicate x.toNat te.zero) (us:=List.replicate x.toNat z) (by simp) hes (by simp only [maxLen]; omega)
   (by rw [size_madeCells,htye.size]) (by
    cases hp:te.zero.pure
    ·exact repL_replicate (hz2 _ _) _
    ·exact repL_replicate (hz2 _ _) _)
   (fun u hu=>by rw [List.eq_of_mem_replicate hu]; exact hz3) hfl h⟩
theorem snd_fieldAddr (hτ:TauOk P τ) (sat:Sat ρ I os w) (fr:Γ.Fr ρ I os w) {t:TypeId} {x:D} {f:Nat} {v:Value} (hv:rep ρ I x v) (h:vcFieldAddr τ t x f (fun d=>K d os)) :
  ∃ v',(Instr.fieldAt t v f).run P w = .ok v' w∧Goes Γ ρ I K v' w:=by
 unfold vcFieldAddr at h
 split at h
 case h_2=>exact h.elim
 rename_i fs s1 s2 s3 s4 ht
 obtain ⟨i0,d0,hty⟩:=hτ t _ ht
 split at h
 case h_2=>exact h.elim
 rename_i o ft hf
 split at h
 case h_2=>exact h.elim
 rename_i tf htf
 obtain ⟨i1,d1,htyf⟩:=hτ ft _ htf
 cases hb:Nat.beq tf.size 0 with
 | true=>rw [hb] at h; exact h.elim
 | false =>
 rw [hb] at h
 simp only [cond_false] at h
 have hsz:tf.size ≠ 0:=fun e=>by rw [e] at hb; simp at hb
 have hk:=hty.kind
 simp only [kindOk] at hk
 obtain ⟨F,rfl,hF⟩:=hk
 obtain ⟨fld,hfld,he⟩:∃ fld,F[f]? = some fld∧(fld.offset,fld.type) = (o,ft):=by
  rw [hF,List.getElem?_map] at hf
  cases hq:F.toList[f]? with
  | none=>rw [hq] at hf; simp at hf
  | some fld=>rw [hq] at hf; exact ⟨fld,by simpa using hq,by simpa using hf⟩
 simp only [Prod.mk.injEq] at he
 have hplace:∀ (b o':Nat),(fieldPlace ⟨b,o',none⟩ fld).run P w = .ok ⟨b,o'+o,none⟩ w:=by
  intro b o'
  simp [fieldPlace,sizeOf,typeInfo,he.2,htyf.info,htyf.size,hsz,Addr.add_mid,he.1]
 have hrun:∀ (b o':Nat),(Instr.fieldAt t (.pointer (some ⟨b,o',none⟩)) f).run P w = .ok (.pointer (some ⟨b,o'+o,none⟩)) w:=by
  intro b o'
  simp [Instr.fieldAt,run_underlying hty.und,hfld,Instr.sureAddr,hplace]
 cases x <;> try exact h.elim
 case ptr i j sz e off =>
  rw [rep] at hv
  obtain ⟨p,hp,hpos,rfl⟩:=hv
  refine ⟨_,hrun _ _,Goes.same sat fr ?_ h⟩
  rw [rep]; exact ⟨p,hp,hpos,by simp [Nat.add_assoc]⟩
 case pel d off =>
  rw [rep] at hv
  obtain ⟨b,o',arr,t',fz,u,rfl,hb,hx,hp⟩:=hv
  refine ⟨_,hrun _ _,Goes.same sat fr ?_ h⟩
  rw [rep]; exact ⟨b,o',arr,t',fz,u,by simp [Nat.add_assoc],hb,hx,hp⟩
theorem part_run (hτ:TauOk P τ) {t:TypeId} {cs:List D} {off:Nat} {K:D→Prop} (h:ldPart τ t cs off K) {vs:Array Value}
  (hr:repL ρ I cs vs.toList):∃ d v,K d∧rep ρ I d v∧(part t vs off).run P w = .ok v w:=by
 unfold ldPart at h
 cases ht:τ t with
 | none=>rw [ht] at h; exact h.elim
 | some ti =>
  rw [ht] at h
  dsimp only at h
  obtain ⟨i,d,hty⟩:=hτ t ti ht
  have agg:∀ ds:List D,ds = (cs.drop off).take ti.size→ds.length = ti.size→ti.k.agg = some true→K (.agg ds)→∃ d v,K d∧rep ρ I d v∧(part t vs off).run P w = .ok v w:=by
   intro ds he hlen hagg hK
   subst he
   have hrp:=repL_take ti.size (repL_drop off hr)
   have hia:(isAgg t).run P w = .ok true w:=by
    unfold isAgg
    rw [Sem.run_bind,run_underlying hty.und w]
    have:=hty.kind
    cases hk:ti.k <;> rw [hk] at this hagg <;> simp [TK.agg] at hagg <;> simp only [kindOk] at this
    ·obtain ⟨F,rfl,_⟩:=this; rfl
    ·subst this; rfl
   refine ⟨_,.agg (vs.extract off (off+ti.size)),hK,?_,?_⟩
   ·rw [rep]; refine ⟨_,rfl,?_⟩
    have e1:(vs.extract off (off+ti.size)).toList = (vs.toList.drop off).take ti.size:=by
     simp [List.extract_eq_take_drop,List.drop_take]
    rw [e1]; exact hrp
   ·simp [part,hia,sizeOf,typeInfo,hty.info,hty.size]
  cases hk:ti.k.agg with
  | none=>rw [hk] at h; exact h.elim
  | some r =>
   rw [hk] at h
   cases r with
   | true =>
    dsimp only at h
    cases hb:(Nat.beq off 0 && Nat.beq cs.length ti.size) with
    | true =>
     rw [hb] at h
     simp only [cond_true] at h
     rw [Bool.and_eq_true] at hb
     have h0:=Nat.eq_of_beq_eq_true hb.1
     have h1:=Nat.eq_of_beq_eq_true hb.2
     subst h0
     refine agg cs ?_ h1 hk h
     rw [List.drop_zero,List.take_of_length_le (by omega)]
    | false =>
     rw [hb] at h
     simp only [cond_false] at h
     cases hb2:Nat.beq ((cs.drop off).take ti.size).length ti.size with
     | true=>rw [hb2] at h; simp only [cond_true] at h; rw [forceL_eq] at h; exact agg _ rfl (Nat.eq_of_beq_eq_true hb2) hk h
     | false=>rw [hb2] at h; exact h.elim
   | false =>
    obtain ⟨h1,h⟩:=h
    obtain ⟨x,hx,h⟩:=Opt.iff.1 h
    rw [D.force_eq] at h
    obtain ⟨v,hv,hrv⟩:=repL_get hr hx
    refine ⟨x,v,h,hrv,?_⟩
    have hagg:(isAgg t).run P w = .ok false w:=by
     unfold isAgg
     rw [Sem.run_bind,run_underlying hty.und w]
     have:=hty.kind
     cases hk':ti.k <;> rw [hk'] at this hk <;> simp [TK.agg] at hk <;> simp only [kindOk] at this
     case int=>subst this; rfl
     case bool=>subst this; rfl
     case str=>subst this; rfl
     case ptr=>obtain ⟨e,rfl⟩:=this; rfl
     case slice=>subst this; rfl
     case map=>subst this; rfl
     case func=>obtain ⟨a,b,c,rfl⟩:=this; rfl
    have hv':vs[off]? = some v:=by simpa using hv
    simp [part,hagg,hv']
theorem snd_field (hτ:TauOk P τ) (sat:Sat ρ I os w) (fr:Γ.Fr ρ I os w) {t:TypeId} {x:D} {f:Nat} {v:Value} (hv:rep ρ I x v) (h:vcField τ t x f (fun d=>K d os)) :
  ∃ v',(Instr.field t v f).run P w = .ok v' w∧Goes Γ ρ I K v' w:=by
 unfold vcField at h
 split at h
 case h_2=>exact h.elim
 rename_i fs s1 s2 s3 s4 ht
 obtain ⟨i0,d0,hty⟩:=hτ t _ ht
 split at h
 case h_2=>exact h.elim
 rename_i o ft cs hf
 have hk:=hty.kind
 simp only [kindOk] at hk
 obtain ⟨F,rfl,hF⟩:=hk
 obtain ⟨fld,hfld,he⟩:∃ fld,F[f]? = some fld∧(fld.offset,fld.type) = (o,ft):=by
  rw [hF,List.getElem?_map] at hf
  cases hq:F.toList[f]? with
  | none=>rw [hq] at hf; simp at hf
  | some fld=>rw [hq] at hf; exact ⟨fld,by simpa using hq,by simpa using hf⟩
 simp only [Prod.mk.injEq] at he
 rw [rep] at hv
 obtain ⟨arr,rfl,hr⟩:=hv
 obtain ⟨d',v',hk',hrep,hrun⟩:=part_run (P:=P) (w:=w) hτ h hr
 refine ⟨v',?_,Goes.same sat fr hrep hk'⟩
 simp [Instr.field,run_underlying hty.und,hfld,asAgg,he.1,he.2,hrun]
theorem prefix_drop {α:Type} {a b:List α} (h:a <+: b) {n:Nat} (hn:n≤a.length):a.drop n <+: b.drop n:=by
 obtain ⟨t,rfl⟩:=h
 rw [List.drop_append_of_le_length hn]
 exact List.prefix_append _ _
theorem prefix_of_drop {α:Type} {a b:List α} {o n:Nat} (h:a <+: b.drop o) (hn:n≤a.length):a.drop n <+: b.drop (o+n):=by
 rw [← List.drop_drop]
 exact prefix_drop h hn
theorem snd_indexAddr (hτ:TauOk P τ) (sat:Sat ρ I os w) (fr:Γ.Fr ρ I os w) {t:TypeId} {x i:D} {v vi:Value} (hv:rep ρ I x v) (hi:rep ρ I i vi) (h:vcIndexAddr τ t x i (fun d=>K d os)) :
  ∃ v',(Instr.indexAt t v vi).run P w = .ok v' w∧Goes Γ ρ I K v' w:=by
 unfold vcIndexAddr at h
 split at h
 case h_2=>exact h.elim
 rename_i e s1 s2 s3 s4 ht
 obtain ⟨i0,d0,hty⟩:=hτ t _ ht
 have hund:P.underlying t = some (.slice e):=by have:=hty.und; have hk:=hty.kind; simp only [kindOk] at hk; rw [hk] at this; exact this
 split at h
 case h_2=>exact h.elim
 rename_i te hte
 obtain ⟨i1,d1,htye⟩:=hτ e _ hte
 have hrun:∀ (b o len c:Nat) (k:IntKind) (n:Int),0≤n→n < (len:Int)→(Instr.indexAt t (.slice (some ⟨b,o,none⟩) len c) (.int k n)).run P w = .ok (.pointer (some ⟨b,o+n.toNat * te.size,none⟩)) w:=by
  intro b o len c k n h0 h1
  simp [Instr.indexAt,asIntOf,run_underlying hund,sizeOf,typeInfo,htye.info,htye.size,h0,h1,Addr.add_mid]
 split at h
 ·rename_i sz full es k n
  split at h
  case isFalse=>exact h.elim
  rename_i hsz; subst hsz
  obtain ⟨h0,h⟩:=h
  obtain ⟨d,hd,h⟩:=Opt.iff.1 h
  have hi:vi = .int k n:=by rw [rep] at hi; exact hi
  rw [rep] at hv
  subst hi
  obtain ⟨A,c,us,rfl,h1,hm,h2,hr,hf,hA⟩:=hv
  have hlt:n.toNat < es.length:=(List.getElem?_eq_some_iff.1 hd).1
  rcases hA with rfl | ⟨b,o,arr,t',fz,rfl,hI,hfl⟩
  ·simp at hlt
  ·refine ⟨_,hrun b o _ c k n h0 (by omega),Goes.same sat fr ?_ h⟩
   obtain ⟨u,hu,hdu⟩:=repL_get hr hd
   obtain ⟨a',b',hab,hal,_,_⟩:=flat_split (fun u hu=>(hf u hu).1) hu
   rw [rep]
   refine ⟨b,o+n.toNat * te.size,arr,t',fz,u,by simp,hI,hdu,?_⟩
   have hl:(flat us).length = us.length * te.size:=flat_length (fun u hu=>(hf u hu).1)
   have:=prefix_of_drop (n:=n.toNat * te.size) hfl (by rw [hab,List.length_append]; omega)
   rw [hab,← hal,List.drop_left,hal] at this
   exact (List.prefix_append _ _).trans this
 ·rename_i i' j sz lo len cap k n
  split at h
  case isFalse=>exact h.elim
  rename_i hsz; subst hsz
  obtain ⟨⟨h0,h1⟩,h⟩:=h
  have hi:vi = .int k n:=by rw [rep] at hi; exact hi
  rw [rep] at hv
  subst hi
  obtain ⟨p,A,c,hp,rfl,h2,h3,h4,h5,hA⟩:=hv
  have hpos:0 < p.2:=by omega
  rw [hA (by omega)]
  refine ⟨_,hrun _ _ _ c k n h0 h1,Goes.same sat fr ?_ h⟩
  rw [rep]; exact ⟨p,hp,hpos,by simp [Nat.add_mul]⟩
 ·exact h.elim
end ops
end Go.Proofs.YtkceciebmkklpaaGreat.V
end
section
namespace Go.Proofs.YtkceciebmkklpaaGreat.V
open Go Go.RowKit
section ops
variable {P:Program} {τ:Tau} {Γ:Ctx} {ρ:Pl} {I:Im} {os:Objs} {w:World} {get:Nat→D} {a:Act} {K:D→Objs→Prop}
theorem rep_int {k:IntKind} {n:Int} {v:Value} (h:rep ρ I (.int k n) v):v = .int k n:=by rw [rep] at h; exact h
theorem run_bounds (b:Bool) (len cap:Nat) (kl kh:IntKind) (l h:Int) (h0:0≤l) (h1:l≤h) (h2:h≤(cap:Int)) (lo hi:Option Value)
  (hlo:lo = some (.int kl l)∨(lo = none∧l = 0)) (hhi:hi = some (.int kh h)∨(hi = none∧h = (len:Int))) :
  (Instr.sliceBounds b len cap lo hi none).run P w = .ok (l.toNat,h.toNat,cap) w:=by
 have e1:max h 0 = h:=by omega
 have e3:0≤h:=by omega
 rcases hlo with rfl | ⟨rfl,rfl⟩ <;> rcases hhi with rfl | ⟨rfl,rfl⟩ <;> simp [Instr.sliceBounds,Instr.sliceBound,asIntOf,h0,h1,h2,e1,e3]
theorem run_bounds3 (b:Bool) (len cap:Nat) (kl kh km:IntKind) (l h m:Int) (h0:0≤l) (h1:l≤h) (h2:h≤m) (h3:m≤(cap:Int)) (lo:Option Value)
  (hlo:lo = some (.int kl l)∨(lo = none∧l = 0)) :
  (Instr.sliceBounds b len cap lo (some (.int kh h)) (some (.int km m))).run P w = .ok (l.toNat,h.toNat,m.toNat) w:=by
 have e1:max h 0 = h:=by omega
 have e2:max m 0 = m:=by omega
 have e3:0≤h:=by omega
 have e4:0≤m:=by omega
 rcases hlo with rfl | ⟨rfl,rfl⟩ <;> simp [Instr.sliceBounds,Instr.sliceBound,asIntOf,h0,h1,h2,h3,e1,e2,e3,e4]
theorem cut_rows {sz:Nat} {es:List D} {us:List Value} (l h:Nat) (hr:repL ρ I es us) (hf:∀ u ∈ us,Value.fine u sz):repL ρ I ((es.take h).drop l) ((us.take h).drop l)∧∀ u ∈ (us.take h).drop l,Value.fine u sz :=
 ⟨repL_drop l (repL_take h hr),fun u hu=>hf u (List.mem_of_mem_take (List.mem_of_mem_drop hu))⟩
theorem cut_flat {sz:Nat} {us:List Value} {cs:List Value} {o:Nat} (l h:Nat) (hf:∀ u ∈ us,Value.fine u sz) (hl:l≤(us.take h).length) (hfl:flat us <+: cs.drop o):flat ((us.take h).drop l) <+: cs.drop (o+l * sz):=by
 have hf':∀ u ∈ us.take h,u.cells.size = sz:=fun u hu=>(hf u (List.mem_of_mem_take hu)).1
 rw [← flat_drop l hf' hl]
 refine prefix_of_drop ((flat_take_prefix h us).trans hfl) ?_
 rw [flat_length hf']
 exact Nat.mul_le_mul_right _ hl
theorem snd_slice (hτ:TauOk P τ) (sat:Sat ρ I os w) (fr:Γ.Fr ρ I os w) {t:TypeId} {x:D} {v:Value} (hv:rep ρ I x v) {lo hi mx:Option D} {vlo vhi vmx:Option Value}
  (hlo:lo = none∧vlo = none∨∃ d u,lo = some d∧vlo = some u∧rep ρ I d u)
  (hhi:hi = none∧vhi = none∨∃ d u,hi = some d∧vhi = some u∧rep ρ I d u)
  (hmx:mx = none∧vmx = none∨∃ d u,mx = some d∧vmx = some u∧rep ρ I d u)
  (h:vcSlice τ t x (lo.getD (.int .i64 0)) hi mx (fun d=>K d os)) :
  ∃ v',(Instr.sliceAt t v vlo vhi vmx).run P w = .ok v' w∧Goes Γ ρ I K v' w:=by
 unfold vcSlice at h
 split at h
 case h_2=>exact h.elim
 rename_i e s1 s2 s3 s4 ht
 obtain ⟨i0,d0,hty⟩:=hτ t _ ht
 have hund:P.underlying t = some (.slice e):=by have:=hty.und; have hk:=hty.kind; simp only [kindOk] at hk; rw [hk] at this; exact this
 split at h
 case h_2=>exact h.elim
 rename_i te hte
 obtain ⟨i1,d1,htye⟩:=hτ e _ hte
 have start:∀ (k:IntKind) (l:Int),lo.getD (.int .i64 0) = .int k l→vlo = some (.int k l)∨(vlo = none∧l = 0):=by
  intro k l he
  rcases hlo with ⟨rfl,rfl⟩ | ⟨d,u,rfl,rfl,hd⟩
  ·simp at he; exact .inr ⟨rfl,he.2.symm⟩
  ·simp at he; subst he; rw [rep_int hd]; exact .inl rfl
 have stop:∀ (n:Nat) (k:IntKind) (l:Int),hi.getD (.int .i64 (n:Int)) = .int k l→vhi = some (.int k l)∨(vhi = none∧l = (n:Int)):=by
  intro n k l he
  rcases hhi with ⟨rfl,rfl⟩ | ⟨d,u,rfl,rfl,hd⟩
  ·simp at he; exact .inr ⟨rfl,he.2.symm⟩
  ·simp at he; subst he; rw [rep_int hd]; exact .inl rfl
 have hrun:∀ (A:Option Addr) (len c l hh m:Nat),(Instr.sliceBounds true len c vlo vhi vmx).run P w = .ok (l,hh,m) w →
   (Instr.sliceAt t (.slice A len c) vlo vhi vmx).run P w = .ok (.slice (if m = l then A else A.map (·.add (l * te.size))) (hh - l) (m - l)) w:=by
  intro A len c l hh m hb
  simp [Instr.sliceAt,run_underlying hund,Instr.slice,hb,sizeOf,typeInfo,htye.info,htye.size]
 simp only [Nm.iff] at h
 split at h
 ·
  rename_i sz full es kl l hlx
  have hl':=start kl l hlx
  rw [rep] at hv
  obtain ⟨A,c,us,rfl,h1,hm,h2,hr,hf,hA⟩:=hv
  have hul:us.length = es.length:=repL_length hr
  split at h
  ·rename_i kh hh hhx
   split at h
   case isFalse=>exact h.elim
   rename_i hsz; subst hsz
   obtain ⟨⟨g0,g1⟩,g2,h⟩:=h
   rcases hmx with ⟨_,rfl⟩ | ⟨d,u,e',_,_⟩
   case inr=>simp at e'
   refine ⟨_,hrun A _ c _ _ _ (run_bounds true es.length c kl kh l hh g0 g1 (by omega) vlo vhi hl' (stop _ _ _ hhx)),Goes.same sat fr ?_ h⟩
   obtain ⟨k1,k2⟩:=cut_rows (sz:=te.size) l.toNat hh.toNat hr hf
   rw [rep]
   have hlen:((es.take hh.toNat).drop l.toNat).length = hh.toNat - l.toNat:=by simp; omega
   refine ⟨_,c - l.toNat,_,by rw [hlen],by rw [hlen]; omega,by omega,?_,k1,k2,?_⟩
   ·intro hfull
    simp only [Bool.and_eq_true,decide_eq_true_eq] at hfull
    rw [hlen,h2 hfull.1]; omega
   ·rcases hA with rfl | ⟨b,o,arr,t',fz,rfl,hI,hfl⟩
    ·left; simp
    ·by_cases hemp:(es.take hh.toNat).drop l.toNat = []
     ·exact .inl hemp
     ·right
      have hlt:l.toNat < hh.toNat:=by
       rcases Nat.lt_or_ge l.toNat hh.toNat with h' | h'
       ·exact h'
       ·exact absurd (List.eq_nil_of_length_eq_zero (by rw [hlen]; omega)) hemp
      rw [if_neg (by omega)]
      refine ⟨b,o+l.toNat * te.size,arr,t',fz,by simp [Addr.add_mid],hI,?_⟩
      exact cut_flat l.toNat hh.toNat hf (by rw [List.length_take]; omega) hfl
  ·rename_i kh hh km m hhx
   split at h
   case isFalse=>exact h.elim
   rename_i hsz; obtain ⟨hsz,hhs⟩:=hsz; subst hsz
   obtain ⟨⟨g0,g1⟩,⟨rfl,g2⟩,h⟩:=h
   rcases hmx with ⟨e',_⟩ | ⟨d,u,e',rfl,hd⟩
   ·simp at e'
   simp at e'; subst e'
   rw [rep_int hd] at hrun ⊢
   have hst:vhi = some (.int kh hh):=by
    rcases hhi with ⟨rfl,_⟩ | ⟨d',u',rfl,rfl,hd'⟩
    ·simp at hhs
    ·simp at hhx; subst hhx; rw [rep_int hd']
   subst hst
   refine ⟨_,hrun A _ c _ _ _ (run_bounds3 true es.length c kl kh km l hh hh g0 g1 (Int.le_refl _) (by omega) vlo hl'),Goes.same sat fr ?_ h⟩
   obtain ⟨k1,k2⟩:=cut_rows (sz:=te.size) l.toNat hh.toNat hr hf
   rw [rep]
   have hlen:((es.take hh.toNat).drop l.toNat).length = hh.toNat - l.toNat:=by simp; omega
   refine ⟨_,hh.toNat - l.toNat,_,by rw [hlen],by rw [hlen]; omega,by omega,fun _=>hlen.symm,k1,k2,?_⟩
   rcases hA with rfl | ⟨b,o,arr,t',fz,rfl,hI,hfl⟩
   ·left; simp
   ·by_cases hemp:(es.take hh.toNat).drop l.toNat = []
    ·exact .inl hemp
    ·right
     have hlt:l.toNat < hh.toNat:=by
      rcases Nat.lt_or_ge l.toNat hh.toNat with h' | h'
      ·exact h'
      ·exact absurd (List.eq_nil_of_length_eq_zero (by rw [hlen]; omega)) hemp
     rw [if_neg (by omega)]
     refine ⟨b,o+l.toNat * te.size,arr,t',fz,by simp [Addr.add_mid],hI,?_⟩
     exact cut_flat l.toNat hh.toNat hf (by rw [List.length_take]; omega) hfl
  ·exact h.elim
 ·
  rename_i i j sz lo0 len kl l hlx
  have hl':=start kl l hlx
  rw [rep] at hv
  obtain ⟨p,A,c,hp,rfl,h2,h3,h4,h5,hA⟩:=hv
  split at h
  ·rename_i kh hh hhx
   split at h
   case isFalse=>exact h.elim
   rename_i hsz; subst hsz
   obtain ⟨⟨g0,g1⟩,g2,h⟩:=h
   rcases hmx with ⟨_,rfl⟩ | ⟨d,u,e',_,_⟩
   case inr=>simp at e'
   refine ⟨_,hrun A _ c _ _ _ (run_bounds true len c kl kh l hh g0 g1 (by omega) vlo vhi hl' (stop _ _ _ hhx)),Goes.same sat fr ?_ h⟩
   rw [rep]
   refine ⟨p,_,c - l.toNat,hp,rfl,by omega,by omega,by omega,?_,?_⟩
   ·dsimp only at h5 ⊢; omega
   ·intro hpos
    rw [hA (by omega),if_neg (by omega)]; simp [Addr.add_mid,Nat.add_mul]
  ·rename_i kh hh km m hhx
   split at h
   case isFalse=>exact h.elim
   rename_i hsz; obtain ⟨hsz,hhs⟩:=hsz; subst hsz
   obtain ⟨⟨g0,g1⟩,hcap⟩:=h
   rcases hcap with ⟨⟨rfl,g2⟩,he,h⟩ | ⟨⟨g2,g3⟩,h⟩
   ·rcases hmx with ⟨e',_⟩ | ⟨d,u,e',rfl,hd⟩
    ·simp at e'
    simp at e'; subst e'
    rw [rep_int hd] at hrun ⊢
    have hst:vhi = some (.int kh hh):=by
     rcases hhi with ⟨rfl,_⟩ | ⟨d',u',rfl,rfl,hd'⟩
     ·simp at hhs
     ·simp at hhx; subst hhx; rw [rep_int hd']
    subst hst
    have hrun':=hrun A _ c _ _ _ (run_bounds3 true len c kl kh km l hh hh g0 g1 (Int.le_refl _) (by omega) vlo hl')
    by_cases hlh:l = hh
    ·subst hlh
     refine ⟨_,hrun',Goes.same sat fr ?_ (he rfl)⟩
     rw [rep]
     exact ⟨A,0,[],by simp,Nat.le_refl _,by simp,fun _=>rfl,repL_nil.2 rfl,(fun u hu=>by cases hu),.inl rfl⟩
    ·refine ⟨_,hrun',Goes.same sat fr ?_ (h (by omega))⟩
     rw [rep]
     refine ⟨p,_,hh.toNat - l.toNat,hp,rfl,Nat.le_refl _,by omega,by omega,rfl,?_⟩
     intro hpos
     rw [hA (by omega),if_neg (by omega)]; simp [Addr.add_mid,Nat.add_mul]
   ·rcases hmx with ⟨e',_⟩ | ⟨d,u,e',rfl,hd⟩
    ·simp at e'
    simp at e'; subst e'
    rw [rep_int hd] at hrun ⊢
    have hst:vhi = some (.int kh hh):=by
     rcases hhi with ⟨rfl,_⟩ | ⟨d',u',rfl,rfl,hd'⟩
     ·simp at hhs
     ·simp at hhx; subst hhx; rw [rep_int hd']
    subst hst
    exact ⟨_,hrun A _ c _ _ _ (run_bounds3 true len c kl kh km l hh m g0 g1 g2 (by omega) vlo hl'),Goes.same sat fr (by rw [rep]; trivial) h⟩
  ·exact h.elim
 ·
  rename_i i j sz lo0 len c' kl l hlx
  have hl':=start kl l hlx
  rw [rep] at hv
  obtain ⟨p,A,c,hp,rfl,h2,h3,h4,h5,hA⟩:=hv
  split at h
  ·rename_i kh hh hhx
   split at h
   case isFalse=>exact h.elim
   rename_i hsz; subst hsz
   obtain ⟨⟨g0,g1⟩,⟨g2,g3⟩,h⟩:=h
   rcases hmx with ⟨_,rfl⟩ | ⟨d,u,e',_,_⟩
   case inr=>simp at e'
   refine ⟨_,hrun A _ c _ _ _ (run_bounds true len c kl kh l hh g0 g1 (by omega) vlo vhi hl' (stop _ _ _ hhx)),Goes.same sat fr ?_ h⟩
   rw [rep]
   refine ⟨p,_,c - l.toNat,hp,rfl,by omega,by omega,by omega,?_,?_⟩
   ·dsimp only at h5 ⊢; omega
   ·intro hpos
    rcases g3 with rfl | hlt
    ·rw [hA (by simpa using hpos)]; simp [Addr.add]
    ·rw [hA (by omega),if_neg (by omega)]; simp [Addr.add_mid,Nat.add_mul]
  ·rename_i kh hh km m hhx
   split at h
   case isFalse=>exact h.elim
   rename_i hsz; obtain ⟨hsz,hhs⟩:=hsz; subst hsz
   obtain ⟨⟨g0,g1⟩,⟨rfl,g2⟩,he,h⟩:=h
   rcases hmx with ⟨e',_⟩ | ⟨d,u,e',rfl,hd⟩
   ·simp at e'
   simp at e'; subst e'
   rw [rep_int hd] at hrun ⊢
   have hst:vhi = some (.int kh hh):=by
    rcases hhi with ⟨rfl,_⟩ | ⟨d',u',rfl,rfl,hd'⟩
    ·simp at hhs
    ·simp at hhx; subst hhx; rw [rep_int hd']
   subst hst
   have hrun':=hrun A _ c _ _ _ (run_bounds3 true len c kl kh km l hh hh g0 g1 (Int.le_refl _) (by omega) vlo hl')
   by_cases hlh:l = hh
   ·subst hlh
    refine ⟨_,hrun',Goes.same sat fr ?_ (he rfl)⟩
    rw [rep]
    exact ⟨A,0,[],by simp,Nat.le_refl _,by simp,fun _=>rfl,repL_nil.2 rfl,(fun u hu=>by cases hu),.inl rfl⟩
   ·refine ⟨_,hrun',Goes.same sat fr ?_ (h (by omega))⟩
    rw [rep]
    refine ⟨p,_,hh.toNat - l.toNat,hp,rfl,Nat.le_refl _,by omega,by omega,rfl,?_⟩
    intro hpos
    rw [hA (by omega),if_neg (by omega)]; simp [Addr.add_mid,Nat.add_mul]
  ·exact h.elim
 ·rename_i kl l hlx
  have hl':=start kl l hlx
  rw [rep] at hv
  subst hv
  split at h
  ·rename_i kh hh hhx
   obtain ⟨⟨rfl,rfl⟩,h⟩:=h
   rcases hmx with ⟨_,rfl⟩ | ⟨d,u,e',_,_⟩
   case inr=>simp at e'
   have:=hrun none 0 0 _ _ _ (run_bounds true 0 0 kl kh 0 0 (by omega) (by omega) (by omega) vlo vhi hl' (stop 0 _ _ hhx))
   exact ⟨_,this,Goes.same sat fr (by rw [rep]; simp) h⟩
  ·rename_i kh hh km m hhx
   split at h
   case isFalse=>exact h.elim
   rename_i hhs
   obtain ⟨⟨rfl,rfl,rfl⟩,h⟩:=h
   rcases hmx with ⟨e',_⟩ | ⟨d,u,e',rfl,hd⟩
   ·simp at e'
   simp at e'; subst e'
   rw [rep_int hd] at hrun ⊢
   have hst:vhi = some (.int kh 0):=by
    rcases hhi with ⟨rfl,_⟩ | ⟨d',u',rfl,rfl,hd'⟩
    ·simp at hhs
    ·simp at hhx; subst hhx; rw [rep_int hd']
   subst hst
   have:=hrun none 0 0 _ _ _ (run_bounds3 true 0 0 kl kh km 0 0 0 (by omega) (by omega) (by omega) (by omega) vlo hl')
   exact ⟨_,this,Goes.same sat fr (by rw [rep]; simp) h⟩
  ·exact h.elim
 ·exact h.elim
end ops
end Go.Proofs.YtkceciebmkklpaaGreat.V
end
section
namespace Go.Proofs.YtkceciebmkklpaaGreat.V
open Go Go.RowKit
section ops
variable {P:Program} {τ:Tau} {Γ:Ctx} {ρ:Pl} {I:Im} {os:Objs} {w:World} {get:Nat→D} {a:Act} {K:D→Objs→Prop}
theorem src_ok (sat:Sat ρ I os w) {sz:Nat} {x:D} {v:Value} (hv:rep ρ I x v) {Q:List D→Prop} (h:srcD os sz x Q) {tx e':TypeId} (hk:P.underlying tx = some (.slice e')) :
  ∃ news us,Q news∧repL ρ I news us∧(∀ u ∈ us,Value.fine u sz)∧us.length = news.length∧Src P sz tx v news.length (flat us) w∧∀ m,m≤news.length→(Builtin.firstCells sz m v).run P w = .ok (flat (us.take m)).toArray w:=by
 have some':∀ (b o n c:Nat) (us:List Value),(∀ u ∈ us,Value.fine u sz)→us.length = n→Lies w b o (flat us)→Src P sz tx (.slice (some ⟨b,o,none⟩) n c) n (flat us) w∧∀ m,m≤n→(Builtin.firstCells sz m (.slice (some ⟨b,o,none⟩) n c)).run P w = .ok (flat (us.take m)).toArray w:=by
  intro b o n c us hf hn hl
  refine ⟨Src.ofSlice w hk _ n c _ (by rw [flat_length (fun u hu=>(hf u hu).1),hn]) (fun j u hu=>by rw [Addr.add_mid]; exact hl j u hu) ?_,fun m hm=>?_⟩
  ·intro u hu
   simp only [flat,List.mem_flatMap] at hu
   obtain ⟨y,hy,hu⟩:=hu
   exact (hf y hy).2 u hu
  ·refine run_firstCells_some w sz m ⟨b,o,none⟩ n c _ (by rw [flat_length (fun u hu=>(hf u (List.mem_of_mem_take hu)).1),List.length_take]; congr 1; omega) (fun j u hu=>by rw [Addr.add_mid]; exact hl j u (prefix_get (flat_take_prefix m us) hu))
 have zero':∀ (A:Option Addr) (n c m:Nat),m≤0→(Builtin.firstCells sz m (.slice A n c)).run P w = .ok (flat (([]:List Value).take m)).toArray w:=by
  intro A n c m hm
  have:m = 0:=by omega
  subst this
  cases A with
  | none=>exact run_firstCells_none w sz 0 n c
  | some ad=>exact run_firstCells_some w sz 0 ad n c [] (by simp) (fun j u hu=>by simp at hu)
 cases x <;> try exact h.elim
 case nils =>
  rw [rep] at hv; subst hv
  exact ⟨[],[],h,repL_nil.2 rfl,(fun u hu=>by cases hu),rfl,Src.ofNil w hk 0,fun m hm=>zero' _ _ _ m hm⟩
 case lst sz' full es =>
  simp only [srcD] at h
  split at h
  case isFalse=>exact h.elim
  rename_i hsz; subst hsz
  rw [rep] at hv
  obtain ⟨A,c,us,rfl,h1,hm,h2,hr,hf,hA⟩:=hv
  have hul:us.length = es.length:=repL_length hr
  refine ⟨es,us,h,repL_bot hr,hf,hul,?_⟩
  rcases hA with rfl | ⟨b,o,arr,t',fz,rfl,hI,hfl⟩
  ·have hu0:us = []:=List.eq_nil_of_length_eq_zero (by simpa using hul)
   subst hu0
   refine ⟨?_,fun m hm=>zero' _ _ _ m hm⟩
   cases A with
   | none=>exact Src.ofNil w hk c
   | some ad=>exact Src.ofSlice w hk ad 0 c [] (by simp) (fun j u hu=>by simp at hu) (fun u hu=>by cases hu)
  ·exact some' b o _ c us hf hul (Lies.of_block (sat.im _ _ hI) hfl)
 case sl i j sz' lo len cap =>
  simp only [srcD] at h
  split at h
  case isFalse=>exact h.elim
  rename_i hsz; subst hsz
  cases hat:os.at i j with
  | gone=>rw [hat] at h; exact h.elim
  | map _=>rw [hat] at h; exact h.elim
  | loop _ _ _ _=>rw [hat] at h; exact h.elim
  | row t' sz'' p es =>
  rw [hat] at h
  dsimp only at h
  split at h
  case isFalse=>exact h.elim
  rename_i hsz; subst hsz
  obtain ⟨hle,h⟩:=h
  rw [rep] at hv
  obtain ⟨q,A,c,hq,rfl,h2,h3,h4,h5,hA⟩:=hv
  obtain ⟨q',hq',hok⟩:=sat.ok i j (by rw [hat]; simp)
  rw [hq] at hq'; cases hq'
  rw [hat] at hok
  obtain ⟨k1,k2,k3⟩:=hok
  have hlen:((es.drop lo).take len).length = len:=by simp; omega
  by_cases hpos:lo < q.2
  ·obtain ⟨arr,us,ha,hs,hr,hf,hfl⟩:=k3 (by omega)
   have hul:us.length = es.length:=repL_length hr
   rw [hA hpos]
   have hf':∀ u ∈ (us.drop lo).take len,Value.fine u sz'':=fun u hu=>hf u (List.mem_of_mem_drop (List.mem_of_mem_take hu))
   refine ⟨_,(us.drop lo).take len,h,repL_take len (repL_drop lo (repL_if hr)),hf',by rw [hlen]; simp; omega,?_⟩
   rw [hlen]
   refine some' q.1 (lo * sz'') len c _ hf' (by simp; omega) (Lies.of_block ha ?_)
   have:=cut_flat (sz:=sz'') (cs:=arr.toList) (o:=0) lo (lo+len) hf (by rw [List.length_take]; omega) (by simpa using hfl)
   rw [List.drop_take,show lo+len - lo = len by omega,Nat.zero_add] at this
   exact this
  ·have h0:len = 0:=by omega
   subst h0
   refine ⟨_,[],h,by simp [repL_nil],(fun u hu=>by cases hu),by simp,?_,fun m hm=>zero' _ _ _ m (by simpa using hm)⟩
   cases A with
   | none=>simpa [flat_nil] using Src.ofNil w hk c
   | some ad=>simpa [flat_nil] using Src.ofSlice w hk ad 0 c [] (by simp) (fun j u hu=>by simp at hu) (fun u hu=>by cases hu)
theorem flat_splice {sz:Nat} {us vals:List Value} {cs:List Value} {lo:Nat} (hf:∀ u ∈ us,Value.fine u sz) (hv:∀ u ∈ vals,Value.fine u sz) (hle:lo+vals.length≤us.length) (hfl:flat us <+: cs) :
  flat (us.take lo ++ (vals ++ us.drop (lo+vals.length))) <+: cs.take (lo * sz) ++ flat vals ++ cs.drop (lo * sz+(flat vals).length):=by
 obtain ⟨rest,hrest⟩:=hfl
 have h1:(flat (us.take lo)).length = lo * sz:=by rw [flat_length (sz:=sz) (fun u hu=>(hf u (List.mem_of_mem_take hu)).1),List.length_take]; congr 1; omega
 have h2:(flat vals).length = vals.length * sz:=flat_length (fun u hu=>(hv u hu).1)
 have e1:cs.take (lo * sz) = flat (us.take lo):=by
  have:flat us = flat (us.take lo) ++ flat (us.drop lo):=by rw [← flat_append,List.take_append_drop]
  rw [← hrest,this,List.append_assoc,← h1]; exact List.take_left
 have e2:cs.drop (lo * sz+(flat vals).length) = flat (us.drop (lo+vals.length)) ++ rest:=by
  have h3:flat us = flat (us.take (lo+vals.length)) ++ flat (us.drop (lo+vals.length)):=by rw [← flat_append,List.take_append_drop]
  have h4:(flat (us.take (lo+vals.length))).length = lo * sz+(flat vals).length:=by
   rw [flat_length (sz:=sz) (fun u hu=>(hf u (List.mem_of_mem_take hu)).1),List.length_take,h2,← Nat.add_mul]; congr 1; omega
  rw [← hrest,h3,List.append_assoc,← h4]; exact List.drop_left
 rw [e1,e2,flat_append,flat_append]
 exact ⟨rest,by simp [List.append_assoc]⟩
theorem splice_ok (sat:Sat ρ I os w) (fr:Γ.Fr ρ I os w) {i j:Nat} {t:TypeId} {sz:Nat} {p:Bool} {es:List D} (hat:os.at i j = .row t sz p es) {q:Nat × Nat} (hq:ρ i j = some q) (hpos:0 < q.2) {lo:Nat} {news:List D} {vals:List Value}
  (hle:lo+news.length≤es.length) (hr:repL ρ I news vals) (hp:D.isPureP p news) (hf:∀ u ∈ vals,Value.fine u sz) :
  ∃ w',(storeCells ⟨q.1,lo * sz,none⟩ (flat vals)).run P w = .ok () w'∧Sat ρ I (os.put i j (.row t sz p (splice es lo news))) w'∧Γ.Fr ρ I (os.put i j (.row t sz p (splice es lo news))) w':=by
 have hne:os.at i j ≠ .gone:=by rw [hat]; simp
 obtain ⟨q',hq',hok⟩:=sat.ok i j hne
 rw [hq] at hq'; cases hq'
 rw [hat] at hok
 obtain ⟨k1,k2,k3⟩:=hok
 obtain ⟨arr,us,ha,hsa,ho,hof,hfl⟩:=k3 hpos
 have hul:us.length = es.length:=repL_length ho
 have hvl:vals.length = news.length:=repL_length hr
 have h2:(flat vals).length = vals.length * sz:=flat_length (fun u hu=>(hf u hu).1)
 have hfit:lo * sz+(flat vals).length≤arr.size:=by rw [h2,hsa,← Nat.add_mul]; exact Nat.mul_le_mul_right _ (by omega)
 have hone:∀ v ∈ flat vals,v.oneCell' = true:=by
  intro u hu
  simp only [flat,List.mem_flatMap] at hu
  obtain ⟨y,hy,hu⟩:=hu
  exact (hf y hy).2 u hu
 have hst:=run_storeCells_at P q.1 (lo * sz) t (flat vals) 0 arr w ha (by simpa using hfit) hone
 simp only [Nat.add_zero] at hst
 have hoth:∀ b,b ≠ q.1→(w.setRow q.1 (arr.toList.take (lo * sz) ++ flat vals ++ arr.toList.drop (lo * sz+(flat vals).length)).toArray).heap[b]? = w.heap[b]?:=fun b hb=>setRow_other w q.1 b _ hb
 refine ⟨_,hst,sat.write hne hq hpos hoth _ (fun _=>⟨?_,k2,fun _=>⟨_,us.take lo ++ (vals ++ us.drop (lo+vals.length)),setRow_heap w q.1 arr _ t _ ha,?_,?_,?_,?_⟩⟩),fr.write (turn_setRow _ _ _) hne hq hpos hoth _⟩
 ·simp only [splice,List.length_append,List.length_take,List.length_drop]; omega
 ·simp only [List.size_toArray,List.length_append,List.length_take,List.length_drop,Array.length_toList]
  omega
 ·have hr':repL (if p then bot else ρ) I news vals:=by
   cases hpp:p
   ·exact hr
   ·exact repL_pure _ _ (hp hpp) hr
  unfold splice
  rw [← hvl]
  exact repL_append (repL_take lo ho) (repL_append hr' (repL_drop _ ho))
 ·intro u hu
  rcases List.mem_append.1 hu with hu | hu
  ·exact hof u (List.mem_of_mem_take hu)
  ·rcases List.mem_append.1 hu with hu | hu
   ·exact hf u hu
   ·exact hof u (List.mem_of_mem_drop hu)
 ·simpa using flat_splice hof hf (by omega) hfl
theorem flat_splice2 {sz:Nat} {us vals:List Value} {cs:List Value} {lo:Nat} (hf:∀ u ∈ us,Value.fine u sz) (hv:∀ u ∈ vals,Value.fine u sz) (hle:lo≤us.length) (hfl:flat us <+: cs) :
  flat (us.take lo ++ (vals ++ us.drop (lo+vals.length))) <+: cs.take (lo * sz) ++ flat vals ++ cs.drop (lo * sz+(flat vals).length):=by
 by_cases h:lo+vals.length≤us.length
 ·exact flat_splice hf hv h hfl
 ·obtain ⟨rest,hrest⟩:=hfl
  have h1:(flat (us.take lo)).length = lo * sz:=by rw [flat_length (sz:=sz) (fun u hu=>(hf u (List.mem_of_mem_take hu)).1),List.length_take]; congr 1; omega
  have e1:cs.take (lo * sz) = flat (us.take lo):=by
   have:flat us = flat (us.take lo) ++ flat (us.drop lo):=by rw [← flat_append,List.take_append_drop]
   rw [← hrest,this,List.append_assoc,← h1]; exact List.take_left
  have e2:us.drop (lo+vals.length) = []:=List.drop_eq_nil_of_le (by omega)
  rw [e1,e2,List.append_nil,flat_append]
  exact ⟨_,rfl⟩
theorem splice_ok2 (sat:Sat ρ I os w) (fr:Γ.Fr ρ I os w) {i j:Nat} {t:TypeId} {sz:Nat} {p:Bool} {es:List D} (hat:os.at i j = .row t sz p es) {q:Nat × Nat} (hq:ρ i j = some q) (hpos:0 < q.2) {lo:Nat} {news:List D} {vals:List Value}
  (hlo:lo≤es.length) (hle:lo+news.length≤q.2) (hr:repL ρ I news vals) (hp:D.isPureP p news) (hf:∀ u ∈ vals,Value.fine u sz) :
  ∃ w',(storeCells ⟨q.1,lo * sz,none⟩ (flat vals)).run P w = .ok () w'∧Sat ρ I (os.put i j (.row t sz p (splice es lo news))) w'∧Γ.Fr ρ I (os.put i j (.row t sz p (splice es lo news))) w':=by
 have hne:os.at i j ≠ .gone:=by rw [hat]; simp
 obtain ⟨q',hq',hok⟩:=sat.ok i j hne
 rw [hq] at hq'; cases hq'
 rw [hat] at hok
 obtain ⟨k1,k2,k3⟩:=hok
 obtain ⟨arr,us,ha,hsa,ho,hof,hfl⟩:=k3 hpos
 have hul:us.length = es.length:=repL_length ho
 have hvl:vals.length = news.length:=repL_length hr
 have h2:(flat vals).length = vals.length * sz:=flat_length (fun u hu=>(hf u hu).1)
 have hfit:lo * sz+(flat vals).length≤arr.size:=by rw [h2,hsa,← Nat.add_mul]; exact Nat.mul_le_mul_right _ (by omega)
 have hone:∀ v ∈ flat vals,v.oneCell' = true:=by
  intro u hu
  simp only [flat,List.mem_flatMap] at hu
  obtain ⟨y,hy,hu⟩:=hu
  exact (hf y hy).2 u hu
 have hst:=run_storeCells_at P q.1 (lo * sz) t (flat vals) 0 arr w ha (by simpa using hfit) hone
 simp only [Nat.add_zero] at hst
 have hoth:∀ b,b ≠ q.1→(w.setRow q.1 (arr.toList.take (lo * sz) ++ flat vals ++ arr.toList.drop (lo * sz+(flat vals).length)).toArray).heap[b]? = w.heap[b]?:=fun b hb=>setRow_other w q.1 b _ hb
 refine ⟨_,hst,sat.write hne hq hpos hoth _ (fun _=>⟨?_,k2,fun _=>⟨_,us.take lo ++ (vals ++ us.drop (lo+vals.length)),setRow_heap w q.1 arr _ t _ ha,?_,?_,?_,?_⟩⟩),fr.write (turn_setRow _ _ _) hne hq hpos hoth _⟩
 ·simp only [splice,List.length_append,List.length_take,List.length_drop]; omega
 ·simp only [List.size_toArray,List.length_append,List.length_take,List.length_drop,Array.length_toList]
  omega
 ·have hr':repL (if p then bot else ρ) I news vals:=by
   cases hpp:p
   ·exact hr
   ·exact repL_pure _ _ (hp hpp) hr
  unfold splice
  rw [← hvl]
  exact repL_append (repL_take lo ho) (repL_append hr' (repL_drop _ ho))
 ·intro u hu
  rcases List.mem_append.1 hu with hu | hu
  ·exact hof u (List.mem_of_mem_take hu)
  ·rcases List.mem_append.1 hu with hu | hu
   ·exact hf u hu
   ·exact hof u (List.mem_of_mem_drop hu)
 ·simpa using flat_splice2 hof hf (by omega) hfl
theorem append_grow (hτ:TauOk P τ) (sat:Sat ρ I os w) (fr:Γ.Fr ρ I os w) {t tx e:TypeId} {te:TI} (hte:τ e = some te) (ht:P.underlying t = some (.slice e)) (hz:te.zero.isJunk = false) (hsz:0 < te.size)
  {A:Option Addr} {len cap:Nat} {olds:List Value} {us:List Value} {x:Value} {ty:TypeId} (holds:∀ w',w'.heap = w.heap→(Builtin.firstCells te.size len (.slice A len cap)).run P w' = .ok (flat olds).toArray w')
  (hol:olds.length = len) (hof:∀ u ∈ olds,Value.fine u te.size) (huf:∀ u ∈ us,Value.fine u te.size) (hs:Src P te.size tx x us.length (flat us) w)
  (hg:cap < len+us.length) (hb:(len+us.length) * te.bytes≤140737488355328) (hn:len+us.length≤140737488355328)
  {pr:Bool} {es:List D} (hr:repL (if pr then bot else ρ) I es (olds ++ us)) (hK:App K os e te.size (len+us.length) pr es) :
  ∃ v' w',(Builtin.append_ #[t,tx] ty #[.slice A len cap,x]).run P w = .ok v' w'∧Goes Γ ρ I K v' w':=by
 obtain ⟨i,d,hty⟩:=hτ e te hte
 rcases hty.zero with e' | ⟨z,hz1,hz2,hz3⟩
 ·rw [e'] at hz; simp [D.isJunk] at hz
 have hs':Src P i.size tx x us.length (flat us) w:=by rw [hty.size]; exact hs
 have hfit:Builtin.nextslicecap (len+us.length) cap * i.bytes≤281474976710656:=growslice_fits hg (by rw [hty.bytes]; omega)
 have hrun:=run_append_grow_src (P:=P) w t tx ty e i z ht hty.info hz1 A len cap (flat olds) (by rw [hty.size]; exact holds w.drew rfl) x us.length (flat us) hs' hg (by omega) hfit
 have hge:=grownCap_ge w (len+us.length) cap e
 have hml:grownCap w (len+us.length) cap e≤maxLen:=grownCap_le_maxLen w (len+us.length) cap e (by simp only [maxLen]; omega)
 have hrl:(olds ++ us).length = es.length:=repL_length hr
 have hes:es.length = len+us.length:=by rw [← hrl,List.length_append,hol]
 have hfa:∀ u ∈ olds ++ us,Value.fine u te.size:=fun u hu=>(List.mem_append.1 hu).elim (hof u) (huf u)
 refine ⟨_,_,hrun,app_goes (pr:=pr) (w':=w.drew.alloc (.cells ((flat olds ++ flat us).toArray ++ Builtin.zeroCells z.cells (grownCap w (len+us.length) cap e - (len+us.length))) e)) sat fr
  (arr:=(flat olds ++ flat us).toArray ++ Builtin.zeroCells z.cells (grownCap w (len+us.length) cap e - (len+us.length))) (t:=e) rfl rfl rfl rfl (sz:=te.size) (C:=grownCap w (len+us.length) cap e)
  (es:=es) (us:=olds ++ us) hes hge hml (by
   rw [← flat_append]
   simp only [Array.size_append,List.size_toArray,size_zeroCells,hz3.1]
   rw [flat_length (sz:=te.size) (fun u hu=>(hfa u hu).1),List.length_append,hol,← Nat.add_mul]
   congr 1; omega) hr hfa (by rw [← flat_append]; simp) hK⟩
theorem firstCells_lies {sz len cap:Nat} {b o:Nat} {olds:List Value} (hof:∀ u ∈ olds,Value.fine u sz) (hol:olds.length = len) {w':World} (hl:Lies w' b o (flat olds)) :
  (Builtin.firstCells sz len (.slice (some ⟨b,o,none⟩) len cap)).run P w' = .ok (flat olds).toArray w' :=
 run_firstCells_some w' sz len ⟨b,o,none⟩ len cap (flat olds) (by rw [flat_length (sz:=sz) (fun u hu=>(hof u hu).1),hol]) (fun j u hu=>by rw [Addr.add_mid]; exact hl j u hu)
theorem firstCells_zero {sz cap:Nat} {A:Option Addr} {w':World}:(Builtin.firstCells sz 0 (.slice A 0 cap)).run P w' = .ok (flat []).toArray w':=by
 cases A with
 | none=>exact run_firstCells_none w' sz 0 0 cap
 | some ad=>exact run_firstCells_some w' sz 0 ad 0 cap [] (by simp) (fun j u hu=>by simp at hu)
theorem append_none {t tx e:TypeId} {te:TI} (hτ:TauOk P τ) (hte:τ e = some te) (ht:P.underlying t = some (.slice e)) {A:Option Addr} {len cap:Nat} (hlc:len≤cap) {x:Value} {ty:TypeId} (hs:Src P te.size tx x 0 [] w) :
  (Builtin.append_ #[t,tx] ty #[.slice A len cap,x]).run P w = .ok (.slice A len cap) w:=by
 obtain ⟨i,d,hty⟩:=hτ e te hte
 have hs':Src P i.size tx x 0 [] w:=by rw [hty.size]; exact hs
 exact run_append_nothing w t tx ty e i ht hty.info A len cap hlc x hs'
theorem snd_append (hτ:TauOk P τ) (sat:Sat ρ I os w) (fr:Γ.Fr ρ I os w) {t tx e:TypeId} {te:TI} (hte:τ e = some te) (ht:P.underlying t = some (.slice e)) (hz:te.zero.isJunk = false) (hsz:0 < te.size)
  {s:D} {vs:Value} (hv:rep ρ I s vs) {news:List D} {us:List Value} {x:Value} {ty:TypeId} (hr:repL ρ I news us) (hf:∀ u ∈ us,Value.fine u te.size) (hul:us.length = news.length)
  (hs:Src P te.size tx x news.length (flat us) w) (h:vcAppend te e s news os K) :
  ∃ v' w',(Builtin.append_ #[t,tx] ty #[vs,x]).run P w = .ok v' w'∧Goes Γ ρ I K v' w':=by
 have nil_of:news = []→us = []:=fun e=>List.eq_nil_of_length_eq_zero (by rw [hul,e]; rfl)
 cases s <;> try exact h.elim
 case nils =>
  rw [rep] at hv; subst hv
  obtain ⟨h1,h2⟩:=h
  by_cases hn:news = []
  ·have hu:=nil_of hn
   subst hn; subst hu
   exact ⟨_,w,append_none hτ hte ht (Nat.le_refl _) hs,Goes.same sat fr (by rw [rep]) (h1 rfl)⟩
  ·obtain ⟨g1,g2,h⟩:=h2 hn
   have hpos:0 < news.length:=List.length_pos_iff.2 hn
   rw [← hul] at hs
   refine append_grow hτ sat fr hte ht hz hsz (A:=none) (len:=0) (cap:=0) (olds:=[]) (us:=us) (pr:=D.pureL news) (es:=news) (fun w' _=>firstCells_zero) rfl (fun u hu=>by cases hu) hf hs (by omega) (by rw [Nat.zero_add,hul]; exact g1) (by omega) ?_ (by simpa [hul] using h)
   cases hp:D.pureL news
   ·exact hr
   ·exact repL_pure _ _ hp hr
 case lst sz full es =>
  simp only [vcAppend] at h
  split at h
  case isFalse=>exact h.elim
  rename_i hc; obtain ⟨hsz',hfull⟩:=hc; subst hsz'
  obtain ⟨h1,h2⟩:=h
  have hv':=hv
  rw [rep] at hv
  obtain ⟨A,c,os',rfl,g1,gm,g2,gr,gf,gA⟩:=hv
  have hol:os'.length = es.length:=repL_length gr
  by_cases hn:news = []
  ·have hu:=nil_of hn
   subst hn; subst hu
   exact ⟨_,w,append_none hτ hte ht g1 hs,Goes.same sat fr hv' (h1 rfl)⟩
  ·obtain ⟨k1,k2,h⟩:=h2 hn
   have hpos:0 < news.length:=List.length_pos_iff.2 hn
   rw [← hul] at hs
   have hcl:=g2 hfull
   refine append_grow hτ sat fr hte ht hz hsz (A:=A) (len:=es.length) (cap:=c) (olds:=os') (us:=us) (pr:=D.pureL news) (es:=es ++ news) ?_ hol gf hf hs (by omega) (by rw [hul]; omega) (by omega) ?_ (by simpa [hul] using h)
   ·intro w' hw'
    rcases gA with rfl | ⟨b,o,arr,t',fz,rfl,hI,hfl⟩
    ·have:os' = []:=List.eq_nil_of_length_eq_zero (by simpa using hol)
     subst this
     exact firstCells_zero
    ·exact firstCells_lies gf hol (Lies.of_block (by rw [hw']; exact sat.im _ _ hI) hfl)
   ·cases hp:D.pureL news
    ·exact repL_append (repL_bot gr) hr
    ·exact repL_append gr (repL_pure _ _ hp hr)
 case sl i j sz lo len cap =>
  simp only [vcAppend] at h
  split at h
  case isFalse=>exact h.elim
  rename_i hsz'; subst hsz'
  cases hat:os.at i j with
  | gone=>rw [hat] at h; exact h.elim
  | map _=>rw [hat] at h; exact h.elim
  | loop _ _ _ _=>rw [hat] at h; exact h.elim
  | row t' sz' p es =>
  rw [hat] at h
  dsimp only at h
  split at h
  case isFalse=>exact h.elim
  rename_i hc; obtain ⟨rfl,rfl⟩:=hc
  have hv':=hv
  rw [rep] at hv
  obtain ⟨q,A,c,hq,rfl,g1,g2,g3,g4,gA⟩:=hv
  have hne:os.at i j ≠ .gone:=by rw [hat]; simp
  obtain ⟨q',hq',hok⟩:=sat.ok i j hne
  rw [hq] at hq'; cases hq'
  rw [hat] at hok
  obtain ⟨k1,k2,k3⟩:=hok
  cases cap with
  | none =>
   dsimp only at h g4
   split at h
   case isFalse =>
    obtain ⟨⟨hle,hpu⟩,h1,h2⟩:=h
    by_cases hnn:news = []
    ·have hu:=nil_of hnn
     subst hnn; subst hu
     exact ⟨_,w,append_none hτ hte ht g1 hs,Goes.same sat fr hv' (h1 rfl)⟩
    ·obtain ⟨b1,b2,hin,hout⟩:=h2 hnn
     have hposn:0 < news.length:=List.length_pos_iff.2 hnn
     by_cases hroom:len+news.length≤c
     ·have hpos:0 < q.2:=by omega
      have hAe:=gA (by omega)
      obtain ⟨i0,d0,hty⟩:=hτ t' te hte
      obtain ⟨w',hst,hsat',hfr'⟩:=splice_ok2 (P:=P) sat fr hat hq hpos (lo:=lo+len) hle (by omega) hr hpu hf
      have hrun:(Builtin.append_ #[t,tx] ty #[.slice A len c,x]).run P w = .ok (.slice (some ⟨q.1,lo * te.size,none⟩) (len+news.length) c) w':=by
       rw [hAe]
       rw [Nat.add_mul] at hst
       rcases hs.kind with ⟨e',hk⟩ | hk <;> simp [Builtin.append_,run_underlying ht,run_underlying hk,sizeOf,typeInfo,hty.info,hty.size,hs.len,hroom,hs.cells,Addr.add_mid,hst]
      refine ⟨_,w',hrun,_,_,ρ,I,hsat',hfr',Pl.le_refl _,Im.le_refl _,?_,hin⟩
      rw [rep]
      exact ⟨_,_,_,hq,rfl,hroom,g2,g3,g4,fun _=>rfl⟩
     ·by_cases hpos:lo < q.2
      ·obtain ⟨arr,olds,ha,hsa,ho,hof,hfl⟩:=k3 (by omega)
       have hol:olds.length = es.length:=repL_length ho
       have hof':∀ u ∈ (olds.drop lo).take len,Value.fine u te.size:=fun u hu=>hof u (List.mem_of_mem_drop (List.mem_of_mem_take hu))
       have hol':((olds.drop lo).take len).length = len:=by simp; omega
       rw [← hul] at hs
       refine append_grow hτ sat fr hte ht hz hsz (A:=A) (len:=len) (cap:=c) (olds:=(olds.drop lo).take len) (us:=us) (pr:=p && D.pureL news) (es:=(es.drop lo).take len ++ news) ?_ hol' hof' hf hs (by omega) (by rw [hul]; omega) (by omega) ?_ (by simpa [hul] using hout)
       ·intro w' hw'
        rw [gA hpos]
        refine firstCells_lies hof' hol' (Lies.of_block (arr:=arr) (t:=t') (fz:=(0,0)) (by rw [hw']; exact ha) ?_)
        have:=cut_flat (sz:=te.size) (cs:=arr.toList) (o:=0) lo (lo+len) hof (by rw [List.length_take]; omega) (by simpa using hfl)
        rw [List.drop_take,show lo+len - lo = len by omega,Nat.zero_add] at this
        exact this
       ·have hr1:=repL_take len (repL_drop lo ho)
        cases hp:p
        ·rw [hp] at hr1; exact repL_append hr1 hr
        ·rw [hp] at hr1
         cases hp2:D.pureL news
         ·exact repL_append (repL_bot hr1) hr
         ·exact repL_append hr1 (repL_pure _ _ hp2 hr)
      ·have h0:len = 0:=by omega
       have hc0:c = 0:=by omega
       subst h0
       subst hc0
       rw [← hul] at hs
       refine append_grow hτ sat fr hte ht hz hsz (A:=A) (len:=0) (cap:=0) (olds:=[]) (us:=us) (pr:=p && D.pureL news) (es:=(es.drop lo).take 0 ++ news) (fun w' _=>firstCells_zero) rfl (fun u hu=>by cases hu) hf hs (by omega) (by rw [hul]; omega) (by omega) ?_ (by simpa [hul] using hout)
       simp only [List.take_zero,List.nil_append]
       cases hp:p
       ·exact hr
       ·cases hp2:D.pureL news
        ·exact hr
        ·exact repL_pure _ _ hp2 hr
   rename_i hlo; subst hlo
   have hcq:c = q.2:=by omega
   subst hcq
   rcases h with ⟨hel,hpu,hb,hn,h⟩ | ⟨hin,hpu,h1,h2⟩
   rotate_left
   ·by_cases hnn:news = []
    ·have hu:=nil_of hnn
     subst hnn; subst hu
     exact ⟨_,w,append_none hτ hte ht g1 hs,Goes.same sat fr hv' (h1 rfl)⟩
    ·have hposn:0 < news.length:=List.length_pos_iff.2 hnn
     have hpos:0 < q.2:=by omega
     have hAe:=gA (by omega)
     simp only [Nat.zero_mul] at hAe
     have hroom:len+news.length≤q.2:=by omega
     obtain ⟨i0,d0,hty⟩:=hτ t' te hte
     obtain ⟨w',hst,hsat',hfr'⟩:=splice_ok (P:=P) sat fr hat hq hpos hin hr hpu hf
     have hrun:(Builtin.append_ #[t,tx] ty #[.slice A len q.2,x]).run P w = .ok (.slice (some ⟨q.1,0,none⟩) (len+news.length) q.2) w':=by
      rw [hAe]
      rcases hs.kind with ⟨e',hk⟩ | hk <;> simp [Builtin.append_,run_underlying ht,run_underlying hk,sizeOf,typeInfo,hty.info,hty.size,hs.len,hroom,hs.cells,Addr.add_mid,hst]
     refine ⟨_,w',hrun,_,_,ρ,I,hsat',hfr',Pl.le_refl _,Im.le_refl _,?_,h2 hnn⟩
     rw [rep]
     exact ⟨_,_,_,hq,rfl,hroom,k2,by simp,by simp,fun _=>by simp⟩
   have hrr:∀ olds:List Value,repL (if p then bot else ρ) I es olds→repL (if p then bot else ρ) I (es ++ news) (olds ++ us):=by
    intro olds ho
    refine repL_append ho ?_
    cases hp:p
    ·exact hr
    ·exact repL_pure _ _ (hpu hp) hr
   have grow:∀ olds:List Value,repL (if p then bot else ρ) I es olds→(∀ u ∈ olds,Value.fine u te.size)→(∀ w',w'.heap = w.heap→(Builtin.firstCells te.size len (.slice A len q.2)).run P w' = .ok (flat olds).toArray w')→q.2 < len+news.length →
     ∃ v' w',(Builtin.append_ #[t,tx] ty #[.slice A len q.2,x]).run P w = .ok v' w'∧Goes Γ ρ I K v' w':=by
    intro olds ho hof hfc hgr
    have hol:olds.length = len:=by rw [repL_length ho,hel]
    rw [← hul] at hs
    refine append_grow hτ (sat.drop i j) ⟨fr.wos,fr.tape,fr.output,fr.size,fr.kept,by rw [length_put]; exact fr.len,fr.same,fr.imle,fr.imnew,?_⟩ hte ht hz hsz (A:=A) (len:=len) (cap:=q.2) (olds:=olds) (us:=us) (pr:=p) (es:=es ++ news) hfc hol hof hf hs (by omega) (by rw [hul]; omega) (by omega) (hrr olds ho) (.own ?_)
    ·rintro b ⟨a,c',q',hn',hq',hqp,rfl⟩
     refine fr.obnew _ ⟨a,c',q',?_,hq',hqp,rfl⟩
     by_cases hc:a = i∧c' = j
     ·obtain ⟨rfl,rfl⟩:=hc; exact hne
     ·rwa [at_put_ne _ _ _ _ hc] at hn'
    ·simpa [hul,length_put] using h
   by_cases hpos:0 < q.2
   ·obtain ⟨arr,olds,ha,hsa,ho,hof,hfl⟩:=k3 hpos
    have hol:olds.length = len:=by rw [repL_length ho,hel]
    have hAe:=gA (by omega)
    simp only [Nat.zero_mul] at hAe
    by_cases hroom:len+news.length≤q.2
    ·
     obtain ⟨i0,d0,hty⟩:=hτ t' te hte
     have hfl1:(flat olds).length = len * te.size:=by rw [flat_length (sz:=te.size) (fun u hu=>(hof u hu).1),hol]
     have hfl2:(flat us).length = news.length * te.size:=by rw [flat_length (sz:=te.size) (fun u hu=>(hf u hu).1),hul]
     have hfit:len * te.size+(flat us).length≤arr.size:=by rw [hfl2,hsa,← Nat.add_mul]; exact Nat.mul_le_mul_right _ hroom
     have hst:=run_storeCells_at P q.1 (len * te.size) t' (flat us) 0 arr w ha (by simpa using hfit) hs.one
     simp only [Nat.add_zero] at hst
     have hrun:(Builtin.append_ #[t,tx] ty #[.slice A len q.2,x]).run P w = .ok (.slice (some ⟨q.1,0,none⟩) (len+news.length) q.2) (w.setRow q.1 (arr.toList.take (len * te.size) ++ flat us ++ arr.toList.drop (len * te.size+(flat us).length)).toArray):=by
      rw [hAe]
      rcases hs.kind with ⟨e',hk⟩ | hk <;> simp [Builtin.append_,run_underlying ht,run_underlying hk,sizeOf,typeInfo,hty.info,hty.size,hs.len,hroom,hs.cells,Addr.add_mid,hst]
     have hoth:∀ b,b ≠ q.1→(w.setRow q.1 (arr.toList.take (len * te.size) ++ flat us ++ arr.toList.drop (len * te.size+(flat us).length)).toArray).heap[b]? = w.heap[b]?:=fun b hb=>setRow_other w q.1 b _ hb
     have htake:arr.toList.take (len * te.size) = flat olds:=by
      obtain ⟨rest,hrest⟩:=hfl
      rw [← hrest,← hfl1]; exact List.take_left
     have hle:ρ.le (ρ.new os.length q):=Pl.le_new (fun j=>sat.dom _ _ (Nat.le_refl _))
     refine ⟨_,_,hrun,_,_,ρ.new os.length q,I,sat.pass hne hq hpos hoth (.row t' te.size p (es ++ news)) ⟨by simp; omega,k2,fun _=>⟨_,olds ++ us,setRow_heap w q.1 arr _ t' _ ha,?_,?_,?_,?_⟩⟩,
      fr.pass (turn_setRow _ _ _) hne hq hpos hoth _,hle,Im.le_refl _,?_,h⟩
     ·simp only [List.size_toArray,List.length_append,List.length_take,List.length_drop,Array.length_toList]
      omega
     ·have:=hrr olds ho
      cases hp:p
      ·rw [hp] at this; exact repL_mono hle (Im.le_refl _) _ _ this
      ·rw [hp] at this; exact this
     ·intro u hu; exact (List.mem_append.1 hu).elim (hof u) (hf u)
     ·rw [htake,flat_append]; simp
     ·rw [rep]
      exact ⟨_,_,_,Pl.new_self _ _ _,rfl,hroom,k2,by simp,by simp,fun _=>by simp⟩
    ·refine grow olds ho hof ?_ (by omega)
     intro w' hw'
     rw [hAe]
     refine firstCells_lies hof hol (Lies.of_block (arr:=arr) (t:=t') (fz:=(0,0)) (by rw [hw']; exact ha) ?_)
     simpa using hfl
   ·have h0:q.2 = 0:=by omega
    have hl0:len = 0:=by omega
    have he0:es = []:=List.eq_nil_of_length_eq_zero (by omega)
    subst hl0
    subst he0
    by_cases hnn:news = []
    ·have hu:=nil_of hnn
     subst hnn; subst hu
     have hrun:=append_none (A:=A) (x:=x) (ty:=ty) hτ hte ht g1 hs
     have hsd:=sat.drop i j
     have hfd:Γ.Fr ρ I (os.put i j .gone) w:=⟨fr.wos,fr.tape,fr.output,fr.size,fr.kept,by rw [length_put]; exact fr.len,fr.same,fr.imle,fr.imnew,by
      rintro b ⟨a,c',q',hn',hq',hqp,rfl⟩
      refine fr.obnew _ ⟨a,c',q',?_,hq',hqp,rfl⟩
      by_cases hc:a = i∧c' = j
      ·obtain ⟨rfl,rfl⟩:=hc; exact hne
      ·rwa [at_put_ne _ _ _ _ hc] at hn'⟩
     refine ⟨_,w,hrun,_,_,_,I,hsd.new (fun b _=>rfl) 0 (.row t' te.size p []) ⟨Nat.le_refl _,by simp,fun h=>by omega⟩,hfd.new ⟨rfl,rfl,rfl,Nat.le_refl _⟩ (fun b _=>rfl) 0 _,Pl.le_new (fun j=>sat.dom _ _ (by rw [length_put]; exact Nat.le_refl _)),Im.le_refl _,?_,by simpa using h⟩
     rw [rep]
     refine ⟨(w.heap.size,0),A,q.2,by have:=Pl.new_self ρ (os.put i j .gone).length (w.heap.size,0); rwa [length_put] at this ⊢,rfl,by omega,g2,by simp; omega,by simp; omega,fun h=>by simp at h⟩
    ·have hpos':0 < news.length:=List.length_pos_iff.2 hnn
     exact grow [] (repL_nil.2 rfl) (fun u hu=>by cases hu) (fun w' _=>firstCells_zero) (by omega)
  | some c' =>
   dsimp only at h g4
   subst g4
   obtain ⟨hcl,h1,h2⟩:=h
   subst hcl
   by_cases hn:news = []
   ·have hu:=nil_of hn
    subst hn; subst hu
    exact ⟨_,w,append_none hτ hte ht g1 hs,Goes.same sat fr hv' (h1 rfl)⟩
   ·obtain ⟨b1,b2,b3,h⟩:=h2 hn
    have hpos':0 < news.length:=List.length_pos_iff.2 hn
    by_cases hpos:lo < q.2
    ·obtain ⟨arr,olds,ha,hsa,ho,hof,hfl⟩:=k3 (by omega)
     have hol:olds.length = es.length:=repL_length ho
     have hof':∀ u ∈ (olds.drop lo).take c,Value.fine u te.size:=fun u hu=>hof u (List.mem_of_mem_drop (List.mem_of_mem_take hu))
     have hol':((olds.drop lo).take c).length = c:=by simp; omega
     rw [← hul] at hs
     refine append_grow hτ sat fr hte ht hz hsz (A:=A) (len:=c) (cap:=c) (olds:=(olds.drop lo).take c) (us:=us) (pr:=p && D.pureL news) (es:=(es.drop lo).take c ++ news) ?_ hol' hof' hf hs (by omega) (by rw [hul]; omega) (by omega) ?_ (by simpa [hul] using h)
     ·intro w' hw'
      rw [gA hpos]
      refine firstCells_lies hof' hol' (Lies.of_block (arr:=arr) (t:=t') (fz:=(0,0)) (by rw [hw']; exact ha) ?_)
      have:=cut_flat (sz:=te.size) (cs:=arr.toList) (o:=0) lo (lo+c) hof (by rw [List.length_take]; omega) (by simpa using hfl)
      rw [List.drop_take,show lo+c - lo = c by omega,Nat.zero_add] at this
      exact this
     ·have hr1:=repL_take c (repL_drop lo ho)
      cases hp:p
      ·rw [hp] at hr1; exact repL_append hr1 hr
      ·rw [hp] at hr1
       cases hp2:D.pureL news
       ·exact repL_append (repL_bot hr1) hr
       ·exact repL_append hr1 (repL_pure _ _ hp2 hr)
    ·have h0:c = 0:=by omega
     subst h0
     rw [← hul] at hs
     refine append_grow hτ sat fr hte ht hz hsz (A:=A) (len:=0) (cap:=0) (olds:=[]) (us:=us) (pr:=p && D.pureL news) (es:=(es.drop lo).take 0 ++ news) (fun w' _=>firstCells_zero) rfl (fun u hu=>by cases hu) hf hs (by omega) (by rw [hul]; omega) (by omega) ?_ (by simpa [hul] using h)
     simp only [List.take_zero,List.nil_append]
     cases hp:p
     ·exact hr
     ·cases hp2:D.pureL news
      ·exact hr
      ·exact repL_pure _ _ hp2 hr
theorem zeroCells_flat {z:Value} {sz n:Nat} (hz:z.cells.size = sz) (h0:0 < sz):(Builtin.zeroCells z.cells n).toList = flat (List.replicate n z):=by
 have:Builtin.zeroCells z.cells n = madeCells z.cells (n * sz):=by rw [← hz]; rfl
 rw [this,madeCells_flat hz h0]
theorem snd_zeros (hτ:TauOk P τ) (sat:Sat ρ I os w) (fr:Γ.Fr ρ I os w) {t tx e:TypeId} {te:TI} (hte:τ e = some te) (ht:P.underlying t = some (.slice e)) (htx:P.underlying tx = some (.int .i64)) (hz:te.zero.isJunk = false) (hsz:0 < te.size)
  {s x:D} {vs vx:Value} (hv:rep ρ I s vs) (hx:rep ρ I x vx) {ty:TypeId} (h:vcZeros te e s x os K) :
  ∃ v' w',(Builtin.append_ #[t,tx] ty #[vs,vx]).run P w = .ok v' w'∧Goes Γ ρ I K v' w':=by
 unfold vcZeros at h
 split at h
 case h_2=>exact h.elim
 rename_i n
 obtain ⟨⟨h0,hb,hn⟩,h1,h2⟩:=h
 rw [rep] at hv; subst hv
 rw [rep_int hx]
 obtain ⟨i,d,hty⟩:=hτ e te hte
 rcases hty.zero with e' | ⟨z,hz1,hz2,hz3⟩
 ·rw [e'] at hz; simp [D.isJunk] at hz
 obtain ⟨m,rfl⟩:=Int.eq_ofNat_of_zero_le h0
 have hbm:m * te.bytes≤140737488355328:=by
  have:((m * te.bytes:Nat):Int)≤140737488355328:=by rw [Int.natCast_mul]; exact hb
  omega
 by_cases hm:m = 0
 ·subst hm
  refine ⟨.slice none 0 0,w,?_,Goes.same sat fr (by rw [rep]) (h1 rfl)⟩
  have hw:IntKind.i64.wrap 0 = 0:=by decide
  simp [Builtin.append_,run_underlying ht,run_underlying htx,sizeOf,typeInfo,hty.info,asInt,asIntOf,hw]
 ·have hpos:0 < m:=Nat.pos_of_ne_zero hm
  have hrun:=Go.Lib.run_append_nil_zeros (P:=P) w t tx ty e i z .i64 .i64 ht htx hty.info hz1 m hpos (by rw [hty.size]; exact hsz) (by omega) (by rw [hty.bytes]; omega)
  have hge:=grownCap_ge w m 0 e
  have hml:grownCap w m 0 e≤maxLen:=grownCap_le_maxLen w m 0 e (by simp only [maxLen]; omega)
  refine ⟨_,_,hrun,app_goes (pr:=te.zero.pure) (w':=w.drew.alloc (.cells (Builtin.zeroCells z.cells m ++ Builtin.zeroCells z.cells (grownCap w m 0 e - m)) e)) sat fr
   (arr:=Builtin.zeroCells z.cells m ++ Builtin.zeroCells z.cells (grownCap w m 0 e - m)) (t:=e) rfl rfl rfl rfl (sz:=te.size) (C:=grownCap w m 0 e)
   (es:=List.replicate m te.zero) (us:=List.replicate m z) (by simp) hge hml ?_ ?_ ?_ ?_ (by simpa using h2 (by omega))⟩
  ·simp only [Array.size_append,size_zeroCells,hz3.1]
   rw [← Nat.add_mul]; congr 1; omega
  ·cases te.zero.pure
   ·exact repL_replicate (hz2 _ _) _
   ·exact repL_replicate (hz2 _ _) _
  ·intro u hu
   rw [List.eq_of_mem_replicate hu]; exact hz3
  ·rw [Array.toList_append,zeroCells_flat hz3.1 hsz]
   exact ⟨_,rfl⟩
end ops
end Go.Proofs.YtkceciebmkklpaaGreat.V
end
section
namespace Go.Proofs.YtkceciebmkklpaaGreat.V
open Go Go.RowKit
theorem foldl_cells (vs:List Value):∀ (k:Nat) (cells:Array Value) (off:Nat),off+k+vs.length≤cells.size →
  ((vs.zipIdx k).foldl (fun cs (x:Value × Nat)=>cs.setIfInBounds (off+x.2) x.1) cells).toList = cells.toList.take (off+k) ++ (vs ++ cells.toList.drop (off+k+vs.length)):=by
 induction vs with
 | nil=>intro k cells off h; simp
 | cons v vs ih =>
  intro k cells off h
  simp only [List.length_cons] at h
  rw [List.zipIdx_cons,List.foldl_cons,ih (k+1) _ off (by simp; omega)]
  have:=list_seg_step cells.toList (off+k) v vs (by simp; omega)
  simp only [Array.toList_setIfInBounds]
  have e:off+(k+1) = off+k+1:=by omega
  rw [e]
  rw [List.append_assoc] at this
  rw [show off+k+(v :: vs).length = off+k+(vs.length+1) by simp]
  rw [this]
  simp
theorem fill_step (place:Nat→Option (Nat × Nat)) (cells:Array Value) (i off size:Nat) (v:Value) (rest:List (Nat × Value)) (hp:place i = some (off,size)) (hs:v.cells.size = size) (hf:off+size≤cells.size) :
  Instr.fill place cells ((i,v) :: rest) = Instr.fill place (cells.toList.take off ++ (v.cells.toList ++ cells.toList.drop (off+size))).toArray rest:=by
 have hc:¬ (v.cells.size ≠ size∨off+v.cells.size > cells.size):=by omega
 have hfold:=foldl_cells v.cells.toList 0 cells off (by simp; omega)
 simp only [Nat.add_zero,Array.length_toList,hs] at hfold
 have hc':(decide (v.cells.size ≠ size) || decide (off+v.cells.size > cells.size)) = false:=by
  rw [Bool.or_eq_false_iff]; exact ⟨decide_eq_false (by omega),decide_eq_false (by omega)⟩
 have harr:(v.cells.zipIdx.foldl (fun cs (x:Value × Nat)=>cs.setIfInBounds (off+x.2) x.1) cells) = (cells.toList.take off ++ (v.cells.toList ++ cells.toList.drop (off+size))).toArray:=by
  apply Array.ext'
  rw [List.toList_toArray,← hfold]
  congr 1
  rw [← Array.foldl_toList]
  simp
 simp only [Instr.fill,hp,hc',harr,Bool.false_eq_true,if_false]
section ops
variable {P:Program} {τ:Tau} {Γ:Ctx} {ρ:Pl} {I:Im} {os:Objs} {w:World} {get:Nat→D} {a:Act} {K:D→Objs→Prop}
theorem fill_rep {place:Nat→Option (Nat × Nat)}:∀ (is:List Nat) (ds:List D) (vs:List Value) (zs cs:List D) (cells:Array Value),repL ρ I ds vs→repL ρ I zs cells.toList →
  fillD place zs (is.zip ds) = some cs→(∀ d ∈ ds,d ≠ .junk)→∃ cells',Instr.fill place cells (is.zip vs) = some cells'∧repL ρ I cs cells'.toList
 | [],ds,vs,zs,cs,cells,_,hz,h,_=>by
  simp only [List.zip_nil_left,fillD,Option.some.injEq] at h
  subst h
  exact ⟨cells,by simp [Instr.fill],hz⟩
 | i :: is,[],vs,zs,cs,cells,hd,hz,h,_=>by
  rw [repL_nil] at hd; subst hd
  simp only [List.zip_nil_right,fillD,Option.some.injEq] at h
  subst h
  exact ⟨cells,by simp [Instr.fill],hz⟩
 | i :: is,d :: ds,_,zs,cs,cells,hd,hz,h,hj=>by
  obtain ⟨u,us,rfl,hu,hd⟩:=repL_cons.1 hd
  simp only [List.zip_cons_cons,fillD] at h ⊢
  cases hp:place i with
  | none=>rw [hp] at h; simp at h
  | some p =>
   obtain ⟨off,size⟩:=p
   rw [hp] at h
   dsimp only at h
   split at h
   case isFalse=>simp at h
   rename_i hc
   obtain ⟨h1,h2⟩:=hc
   have hcu:=rep_cells (hj d (by simp)) hu
   have hul:u.cells.toList.length = d.cells.length:=repL_length hcu
   have hzl:cells.toList.length = zs.length:=repL_length hz
   rw [fill_step place cells i off size u (is.zip us) hp (by simp at hul; omega) (by simp at hzl; omega)]
   exact fill_rep is ds us _ cs _ hd (by
    rw [List.toList_toArray]
    exact repL_append (repL_take off hz) (repL_append hcu (repL_drop (off+size) hz))) h (fun d hd=>hj d (by simp [hd]))
theorem mapM_ok {α β:Type} {f:α→Sem β} {g:α→β} (w:World):∀ (l:List α),(∀ x ∈ l,(f x).run P w = .ok (g x) w)→(l.mapM f).run P w = .ok (l.map g) w
 | [],_=>by simp
 | x :: l,h=>by
  rw [List.mapM_cons]
  simp [h x (by simp),mapM_ok w l (fun y hy=>h y (by simp [hy]))]
theorem map_opt {α β:Type} {f:α→Option β}:∀ {l:List α} {r:List β},l.mapM f = some r→∀ {i:Nat} {x:α},l[i]? = some x→∃ y,f x = some y∧r[i]? = some y
 | [],r,h,i,x,hx=>by simp at hx
 | a :: l,r,h,i,x,hx=>by
  rw [List.mapM_cons] at h
  cases ha:f a with
  | none=>rw [ha] at h; simp at h
  | some b =>
   rw [ha] at h
   cases hl:l.mapM f with
   | none=>rw [hl] at h; simp at h
   | some bs =>
    rw [hl] at h
    simp at h
    subst h
    cases i with
    | zero=>simp at hx; subst hx; exact ⟨b,ha,rfl⟩
    | succ i=>obtain ⟨y,h1,h2⟩:=map_opt hl (i:=i) (x:=x) (by simpa using hx); exact ⟨y,h1,by simpa using h2⟩
theorem map_opt_len {α β:Type} {f:α→Option β}:∀ {l:List α} {r:List β},l.mapM f = some r→r.length = l.length
 | [],r,h=>by simp at h; simp [← h]
 | a :: l,r,h=>by
  rw [List.mapM_cons] at h
  cases ha:f a with
  | none=>rw [ha] at h; simp at h
  | some b =>
   rw [ha] at h
   cases hl:l.mapM f with
   | none=>rw [hl] at h; simp at h
   | some bs =>
    rw [hl] at h
    simp at h
    subst h
    simp [map_opt_len hl]
def D.noJunk (ds:List D):Bool:=ds.all fun d=>!d.isJunk
theorem noJunk_spec {ds:List D} (h:D.noJunk ds = true):∀ d ∈ ds,d ≠ .junk:=by
 intro d hd e
 subst e
 have:=List.all_eq_true.1 h _ hd
 simp [D.isJunk] at this
theorem snd_build (hτ:TauOk P τ) (sat:Sat ρ I os w) (fr:Γ.Fr ρ I os w) {t:TypeId} {is:List Nat} {ds:List D} {vs:List Value} (hv:repL ρ I ds vs)
  (h:vcBuild τ t is ds (fun d=>K d os)):∃ v',(Instr.build t (is.zip vs).toArray).run P w = .ok v' w∧Goes Γ ρ I K v' w:=by
 unfold vcBuild at h
 split at h
 case h_2=>exact h.elim
 rename_i fs s1 s2 zc s3 ht
 obtain ⟨i0,d0,hty⟩:=hτ t _ ht
 split at h
 case h_2=>exact h.elim
 rename_i places hpl
 rw [forceL_eq] at h
 cases hnj:ds.all (fun d=>!d.isJunk) with
 | false=>rw [hnj] at h; exact h.elim
 | true =>
 have hj:=noJunk_spec (ds:=ds) hnj
 rw [hnj] at h
 simp only [Bool.not_true,cond_false] at h
 split at h
 case h_2=>exact h.elim
 rename_i cs hcs
 rw [forceL_eq] at h
 have hk:=hty.kind
 simp only [kindOk] at hk
 obtain ⟨F,rfl,hF⟩:=hk
 rcases hty.zero with e | ⟨z,hz1,hz2,hz3⟩
 ·simp at e
 have hz:=hz2 ρ I
 rw [rep] at hz
 obtain ⟨zarr,rfl,hz⟩:=hz
 obtain ⟨cells',hfill,hrep⟩:=fill_rep is ds vs zc cs zarr hv hz hcs hj
 have hmap:(F.mapM fun (f:Field)=>do pure (f.offset,← sizeOf f.type)).run P w = .ok (places.toArray) w:=by
  have h1:∀ f ∈ F.toList,(do pure (f.offset,← sizeOf f.type):Sem (Nat × Nat)).run P w = .ok (f.offset,((τ f.type).map (·.size)).getD 0) w:=by
   intro f hf
   obtain ⟨n,hn⟩:=List.mem_iff_getElem?.1 hf
   have hn':fs[n]? = some (f.offset,f.type):=by rw [hF,List.getElem?_map,hn]; rfl
   obtain ⟨y,hy,_⟩:=map_opt hpl hn'
   cases htf:τ f.type with
   | none=>rw [htf] at hy; simp at hy
   | some tf =>
    obtain ⟨i1,d1,htyf⟩:=hτ _ _ htf
    simp [sizeOf,typeInfo,htyf.info,htyf.size]
  have h2:=mapM_ok (P:=P) w F.toList h1
  have h3:F.toList.map (fun f=>(f.offset,((τ f.type).map (·.size)).getD 0)) = places:=by
   apply List.ext_getElem?
   intro n
   rw [List.getElem?_map]
   cases hn:F.toList[n]? with
   | none =>
    have:fs[n]? = none:=by rw [hF,List.getElem?_map,hn]; rfl
    rw [List.getElem?_eq_none (by rw [map_opt_len hpl]; exact List.getElem?_eq_none_iff.1 this)]; rfl
   | some f =>
    have hn':fs[n]? = some (f.offset,f.type):=by rw [hF,List.getElem?_map,hn]; rfl
    obtain ⟨y,hy,hy2⟩:=map_opt hpl hn'
    rw [hy2]
    cases htf:τ f.type with
    | none=>rw [htf] at hy; simp at hy
    | some tf=>rw [htf] at hy; simp at hy; simp [htf,← hy]
  rw [h3] at h2
  rw [← Array.toArray_toList (xs:=F),List.mapM_toArray,Sem.run_map,h2]
  rfl
 refine ⟨.agg cells',?_,Goes.same sat fr (by rw [rep]; exact ⟨_,rfl,hrep⟩) h⟩
 have hpe:(fun (i:Nat)=>places.toArray[i]?) = (fun (i:Nat)=>places[i]?):=by funext i; simp
 simp only [Instr.build,zeroValue,typeInfo,hty.info,hz1,Sem.run_bind,run_program,Result.andThen_ok,Sem.run_pure,run_underlying hty.und,hmap,hpe,hfill,Value.cells,List.toList_toArray]
theorem fill_row {sz:Nat} {z:Value}:∀ (is:List Nat) (vs:List Value) (us:List Value),(∀ u ∈ us,u.cells.size = sz)→(∀ v ∈ vs,v.cells.size = sz)→(∀ i ∈ is,i < us.length) →
  Instr.fill (fun i=>some (i * sz,sz)) (flat us).toArray (is.zip vs) = some (flat ((is.zip vs).foldl (fun us p=>us.set p.1 p.2) us)).toArray
 | [],vs,us,_,_,_=>by simp [Instr.fill]
 | i :: is,[],us,_,_,_=>by simp [Instr.fill]
 | i :: is,v :: vs,us,hu,hv,hi=>by
  have hlt:i < us.length:=hi i (by simp)
  have hvs:=hv v (by simp)
  simp only [List.zip_cons_cons,List.foldl_cons]
  rw [fill_step _ _ i (i * sz) sz v _ rfl hvs (by
   simp only [List.size_toArray]
   rw [flat_length hu]
   exact mul_add_le hlt (Nat.le_refl _))]
  rw [List.toList_toArray,← flat_set (v:=v) hu (List.getElem?_eq_getElem hlt) hvs]
  exact fill_row (z:=z) is vs (us.set i v) (fun u hu'=>by
   rcases List.mem_or_eq_of_mem_set hu' with h | rfl
   ·exact hu u h
   ·exact hvs) (fun v hv'=>hv v (by simp [hv'])) (fun j hj=>by simpa using hi j (by simp [hj]))
theorem setAll_rep:∀ (is:List Nat) (ds:List D) (vs:List Value) (es:List D) (us:List Value),repL ρ I ds vs→repL ρ I es us→repL ρ I (setAll es (is.zip ds)) ((is.zip vs).foldl (fun us p=>us.set p.1 p.2) us)
 | [],_,_,es,us,_,h=>by simpa [setAll] using h
 | i :: is,[],_,es,us,hd,h=>by rw [repL_nil] at hd; subst hd; simpa [setAll] using h
 | i :: is,d :: ds,_,es,us,hd,h=>by
  obtain ⟨v,vs,rfl,hv,hd⟩:=repL_cons.1 hd
  simp only [List.zip_cons_cons,setAll,List.foldl_cons]
  exact setAll_rep is ds vs _ _ hd (repL_set i h hv)
theorem foldl_set_mem:∀ (ps:List (Nat × Value)) (us:List Value) (u:Value),u ∈ ps.foldl (fun us p=>us.set p.1 p.2) us→u ∈ us∨∃ p ∈ ps,p.2 = u
 | [],us,u,h=>.inl h
 | p :: ps,us,u,h=>by
  rw [List.foldl_cons] at h
  rcases foldl_set_mem ps _ u h with h | ⟨q,hq,e⟩
  ·rcases List.mem_or_eq_of_mem_set h with h | rfl
   ·exact .inl h
   ·exact .inr ⟨p,by simp,rfl⟩
  ·exact .inr ⟨q,by simp [hq],e⟩
theorem setAll_length:∀ (ps:List (Nat × D)) (es:List D),(setAll es ps).length = es.length
 | [],es=>rfl
 | p :: ps,es=>by obtain ⟨i,d⟩:=p; simp [setAll,setAll_length ps]
theorem snd_buildSlice (hτ:TauOk P τ) (sat:Sat ρ I os w) (fr:Γ.Fr ρ I os w) {t:TypeId} {len:Nat} {is:List Nat} {ds:List D} {vs:List Value} (hv:repL ρ I ds vs) (hlen:is.length = ds.length)
  (h:vcBuildSlice τ t len is ds os K):∃ v' w',(Instr.buildSlice t len (is.zip vs).toArray).run P w = .ok v' w'∧Goes Γ ρ I K v' w':=by
 unfold vcBuildSlice at h
 split at h
 case h_2=>exact h.elim
 rename_i e s1 s2 s3 s4 ht
 obtain ⟨i0,d0,hty⟩:=hτ t _ ht
 have hund:P.underlying t = some (.slice e):=by have:=hty.und; have hk:=hty.kind; simp only [kindOk] at hk; rw [hk] at this; exact this
 split at h
 case h_2=>exact h.elim
 rename_i te hte
 obtain ⟨i1,d1,htye⟩:=hτ e te hte
 cases hb:((te.zero.isJunk || !(Nat.ble (len * te.size) 65536)) || Nat.beq te.size 0) with
 | true=>rw [hb] at h; exact h.elim
 | false =>
 rw [hb] at h
 simp only [cond_false] at h
 rw [forceL_eq] at h
 simp only [Bool.or_eq_false_iff,Bool.not_eq_false'] at hb
 obtain ⟨⟨hjz,hble⟩,hsz0⟩:=hb
 have hble:=Nat.le_of_ble_eq_true hble
 have hsz:0 < te.size:=Nat.pos_of_ne_zero (fun e=>by rw [e] at hsz0; simp at hsz0)
 rcases htye.zero with e' | ⟨z,hz1,hz2,hz3⟩
 ·rw [e'] at hjz; simp [D.isJunk] at hjz
 cases hall:(is.zip ds).all (fun p=>Nat.blt p.1 len && (Nat.beq p.2.cells.length te.size && p.2.cells.all D.one)) with
 | false=>rw [hall] at h; exact h.elim
 | true =>
 rw [hall] at h
 simp only [cond_true] at h
 have hall:=List.all_eq_true.1 hall
 have hvl:vs.length = ds.length:=repL_length hv
 have hparts:∀ (n i:Nat) (v:Value),is[n]? = some i→vs[n]? = some v→i < len∧Value.fine v te.size:=by
  intro n i v hi hvn
  have hn:n < ds.length:=by rw [← hvl]; exact (List.getElem?_eq_some_iff.1 hvn).1
  have hm:(i,ds[n]) ∈ is.zip ds:=List.mem_iff_getElem?.2 ⟨n,by simp [List.getElem?_zip_eq_some,hi,hn]⟩
  have:=hall _ hm
  simp only [Bool.and_eq_true] at this
  obtain ⟨g1,g2,g3⟩:=this
  obtain ⟨v',hv',hr⟩:=repL_get hv (List.getElem?_eq_getElem hn)
  rw [hvn] at hv'; cases hv'
  have hc:=rep_cells (not_junk_of_cells (c:=[]) g3) hr
  refine ⟨Nat.le_of_ble_eq_true g1,?_,repL_one g3 hc⟩
  have:=repL_length hc
  have g2:=Nat.eq_of_beq_eq_true g2
  simp at this; omega
 have hzl:∀ u ∈ List.replicate len z,u.cells.size = te.size:=fun u hu=>by rw [List.eq_of_mem_replicate hu]; exact hz3.1
 have hvf:∀ v ∈ vs,Value.fine v te.size:=by
  intro v hv'
  obtain ⟨n,hn⟩:=List.mem_iff_getElem?.1 hv'
  have:n < is.length:=by rw [hlen,← hvl]; exact (List.getElem?_eq_some_iff.1 hn).1
  exact (hparts n _ v (List.getElem?_eq_getElem this) hn).2
 have hil:∀ i ∈ is,i < (List.replicate len z).length:=by
  intro i hi
  obtain ⟨n,hn⟩:=List.mem_iff_getElem?.1 hi
  have:n < vs.length:=by rw [hvl,← hlen]; exact (List.getElem?_eq_some_iff.1 hn).1
  simpa using (hparts n i _ hn (List.getElem?_eq_getElem this)).1
 have hfill:=fill_row (sz:=te.size) (z:=z) is vs (List.replicate len z) hzl (fun v hv'=>(hvf v hv').1) hil
 have hmade:=madeCells_flat (n:=len) hz3.1 hsz
 have hrun:(Instr.buildSlice t len (is.zip vs).toArray).run P w = .ok (.slice (some ⟨w.heap.size,0,none⟩) len len) (w.alloc (.cells (flat ((is.zip vs).foldl (fun us p=>us.set p.1 p.2) (List.replicate len z))).toArray e)):=by
  have hn:¬ (len * te.size > 2 ^ 24):=by omega
  have hm2:madeCells z.cells (len * te.size) = (flat (List.replicate len z)).toArray:=Array.ext' (by rw [hmade])
  unfold madeCells at hm2
  by_cases h0:len * te.size = 0
  ·have hl0:len = 0:=by rcases Nat.mul_eq_zero.1 h0 with h | h <;> omega
   subst hl0
   simp only [Nat.zero_mul] at hn hm2
   simp only [List.replicate_zero,flat_nil] at hfill hm2
   simp [Instr.buildSlice,run_underlying hund,sizeOf,typeInfo,htye.info,htye.size,newRow]
   have e0:Array.map (fun (x:Nat)=>(default:Value)) (Array.range 0) = ([]:List Value).toArray:=by simp [Array.range_zero']
   rw [e0,hfill]
   simp
  ·simp [Instr.buildSlice,run_underlying hund,sizeOf,typeInfo,htye.info,htye.size,hn,h0,zeroValue,hz1,hm2,hfill,newRow]
 refine ⟨_,_,hrun,app_goes (pr:=te.zero.pure && D.pureL ds) (w':=w.alloc (.cells (flat ((is.zip vs).foldl (fun us p=>us.set p.1 p.2) (List.replicate len z))).toArray e)) sat fr
  (arr:=(flat ((is.zip vs).foldl (fun us p=>us.set p.1 p.2) (List.replicate len z))).toArray) (t:=e) rfl rfl rfl rfl (sz:=te.size) (C:=len)
  (es:=setAll (List.replicate len te.zero) (is.zip ds)) (us:=(is.zip vs).foldl (fun us p=>us.set p.1 p.2) (List.replicate len z)) (by rw [setAll_length]; simp) (Nat.le_refl _) (by
   have:len≤len * te.size:=Nat.le_mul_of_pos_right _ hsz
   simp only [maxLen]; omega)
  (by
   have hf:∀ u ∈ (is.zip vs).foldl (fun us p=>us.set p.1 p.2) (List.replicate len z),u.cells.size = te.size:=by
    intro u hu
    rcases foldl_set_mem _ _ _ hu with h | ⟨p,hp,rfl⟩
    ·exact hzl u h
    ·exact (hvf _ (List.of_mem_zip hp).2).1
   rw [List.size_toArray,flat_length hf]
   congr 1
   have:∀ (ps:List (Nat × Value)) (us:List Value),(ps.foldl (fun us p=>us.set p.1 p.2) us).length = us.length:=by
    intro ps
    induction ps with
    | nil=>intro us; rfl
    | cons p ps ih=>intro us; rw [List.foldl_cons,ih]; simp
   rw [this]; simp)
  (by
   cases hp:te.zero.pure && D.pureL ds
   ·exact setAll_rep is ds vs _ _ hv (repL_replicate (hz2 _ _) _)
   ·simp only [Bool.and_eq_true] at hp
    exact setAll_rep is ds vs _ _ (repL_pure _ _ hp.2 hv) (repL_replicate (hz2 _ _) _))
  (by
   intro u hu
   rcases foldl_set_mem _ _ _ hu with h | ⟨p,hp,rfl⟩
   ·rw [List.eq_of_mem_replicate h]; exact hz3
   ·exact hvf _ (List.of_mem_zip hp).2)
  (by simp) h⟩
end ops
end Go.Proofs.YtkceciebmkklpaaGreat.V
end
section
namespace Go.Proofs.YtkceciebmkklpaaGreat.V
open Go Go.RowKit
section ops
variable {P:Program} {τ:Tau} {Γ:Ctx} {ρ:Pl} {I:Im} {os:Objs} {w:World} {get:Nat→D} {a:Act} {K:D→Objs→Prop}
theorem run_part_int {t:TypeId} {k:IntKind} (h:P.underlying t = some (.int k)) (cs:Array Value) (off:Nat) (v:Value) (hv:cs[off]? = some v):(part t cs off).run P w = .ok v w:=by
 simp [part,isAgg,run_underlying h,hv]
theorem eqs_run {F:List Field} {ax ay:Array Value} {n:Nat}:∀ (fs:List Field) (ks:List IntKind) (cs ds:List D) (vs us:List Value) (o:Nat) (Q:Bool→Prop),
  fs.length = ks.length→(∀ (i:Nat) (f:Field),fs[i]? = some f→f.name ≠ "_" ∧ f.offset = o+i∧∃ k,ks[i]? = some k∧P.underlying f.type = some (.int k)) →
  (∀ j,ax[o+j]? = vs[j]?)→(∀ j,ay[o+j]? = us[j]?)→repL ρ I cs vs→repL ρ I ds us→eqInts ks cs ds Q →
  ∃ r,Q r∧(∃ s,(forIn fs (none,()) (fun f (x:Option Bool × Unit)=>(do
   if f.name ≠ "_" then
    if !(← Op.equalIn (n+1) f.type (← part f.type ax f.offset) (← part f.type ay f.offset)) then return .done (some false,())
    else return .yield (none,())
   else return .yield (none,()):Sem (ForInStep (Option Bool × Unit))))).run P w = .ok s w∧s.1 = if r then none else some false):=by
 intro fs
 induction fs with
 | nil =>
  intro ks cs ds vs us o Q hl _ _ _ hx hy h
  cases ks with
  | cons k ks=>simp at hl
  | nil =>
   cases cs <;> cases ds <;> first | exact h.elim | skip
   exact ⟨true,h,_,by simp; rfl,by simp⟩
 | cons f fs ih =>
  intro ks cs ds vs us o Q hl hf hax hay hx hy h
  cases ks with
  | nil=>simp at hl
  | cons k ks =>
  obtain ⟨h1,h2,k',h3,h4⟩:=hf 0 f rfl
  simp at h3; subst h3
  cases cs with
  | nil=>exact h.elim
  | cons c cs =>
  cases c <;> try exact h.elim
  rename_i k1 a
  cases ds with
  | nil=>exact h.elim
  | cons d ds =>
  cases d <;> try exact h.elim
  rename_i k2 b
  simp only [eqInts] at h
  split at h
  case isFalse=>exact h.elim
  rename_i hk; obtain ⟨rfl,rfl⟩:=hk
  obtain ⟨u,us',rfl,hu,hx'⟩:=repL_cons.1 hx
  obtain ⟨v,vs',rfl,hv,hy'⟩:=repL_cons.1 hy
  have eu:=rep_int hu
  have ev:=rep_int hv
  subst eu ev
  simp only [Nat.add_zero] at h2
  have p1:(part f.type ax f.offset).run P w = .ok (.int k2 a) w:=run_part_int h4 _ _ _ (by rw [h2]; have:=hax 0; simpa using this)
  have p2:(part f.type ay f.offset).run P w = .ok (.int k2 b) w:=run_part_int h4 _ _ _ (by rw [h2]; have:=hay 0; simpa using this)
  have pe:(Op.equalIn (n+1) f.type (.int k2 a) (.int k2 b)).run P w = .ok (a == b) w:=by simp [Op.equalIn,run_underlying h4]
  obtain ⟨r,hr,s,hs,hsr⟩:=ih ks cs ds us' vs' (o+1) _ (by simpa using hl) (fun i g hg=>by
   obtain ⟨g1,g2,g3⟩:=hf (i+1) g (by simpa using hg)
   exact ⟨g1,by omega,g3⟩) (fun j=>by have:=hax (j+1); rw [show o+1+j = o+(j+1) by omega]; simpa using this) (fun j=>by have:=hay (j+1); rw [show o+1+j = o+(j+1) by omega]; simpa using this) hx' hy' h
  refine ⟨_,hr,?_⟩
  by_cases hab:a = b
  ·subst hab
   refine ⟨s,?_,by simpa using hsr⟩
   simp only [List.forIn_cons,Sem.run_bind,h1,if_true,ne_eq,not_false_eq_true,p1,p2,pe,Result.andThen_ok,beq_self_eq_true,Bool.not_true,Bool.false_eq_true,if_false,Sem.run_pure]
   exact hs
  ·refine ⟨(some false,()),?_,by simp [hab]⟩
   have:(a == b) = false:=by simp [hab]
   simp only [List.forIn_cons,Sem.run_bind,h1,if_true,ne_eq,not_false_eq_true,p1,p2,pe,this,Result.andThen_ok,Bool.not_false,Sem.run_pure]
theorem cmp_run {t:TypeId} {ks:List IntKind} (hc:CmpOk P t ks) {cs ds:List D} {ax ay:Array Value} (hx:repL ρ I cs ax.toList) (hy:repL ρ I ds ay.toList) {Q:Bool→Prop} (h:eqInts ks cs ds Q) :
  ∃ r,Q r∧(Op.equal t (.agg ax) (.agg ay)).run P w = .ok r w:=by
 obtain ⟨F,hF,hst,hl,hf⟩:=hc
 obtain ⟨r,hr,s,hs,hsr⟩:=eqs_run (P:=P) (w:=w) (F:=F.toList) (ax:=ax) (ay:=ay) (n:=9998) F.toList ks cs ds ax.toList ay.toList 0 Q hl (fun i f hi=>by
  obtain ⟨h1,h2,h3⟩:=hf i f hi
  exact ⟨h1,by omega,h3⟩) (fun j=>by simp) (fun j=>by simp) hx hy h
 refine ⟨r,hr,?_⟩
 show (Op.equalIn (9999+1) t (.agg ax) (.agg ay)).run P w = _
 unfold Op.equalIn
 simp only [Sem.run_bind,run_underlying hF,Result.andThen_ok,run_program,hst,Bool.false_eq_true,if_false]
 rw [← Array.forIn_toList]
 refine (congrArg (fun x=>Result.andThen x _) hs).trans ?_
 obtain ⟨s1,s2⟩:=s
 dsimp only at hsr
 subst hsr
 cases r <;> simp
theorem cmp_guard {t:TypeId} {ks:List IntKind} (hc:CmpOk P t ks):P.eqGuardType P.depth t = false:=by
 obtain ⟨F,hF,hst,hl,hf⟩:=hc
 unfold Program.depth
 rw [show 2 * (P.types.size+Made.depth)+2 = (2 * (P.types.size+Made.depth)+1)+1 by omega]
 unfold Program.eqGuardType
 rw [hF]
 dsimp only
 rw [Array.any_eq_false]
 intro i hi
 obtain ⟨_,_,k,_,hk⟩:=hf i F[i] (by simp [hi])
 simp [Program.eqGuardType,hk]
theorem snd_copy (sat:Sat ρ I os w) (fr:Γ.Fr ρ I os w) {t tx e:TypeId} {te:TI} {ie:TypeInfo} {ty:TypeId} (ht:P.underlying t = some (.slice e)) (hie:P.info? e = some ie) (hsz:ie.size = te.size) {d:D} {v x:Value} (hv:rep ρ I d v) {news:List D} {us:List Value}
  (hr:repL ρ I news us) (hf:∀ u ∈ us,Value.fine u te.size) (hul:us.length = news.length) (hs:Src P te.size tx x news.length (flat us) w) (hfc:∀ m,m≤news.length→(Builtin.firstCells te.size m x).run P w = .ok (flat (us.take m)).toArray w) (h:vcCopy te d news os K) :
  ∃ v' w',(Builtin.copy_ #[t,tx] ty #[v,x]).run P w = .ok v' w'∧Goes Γ ρ I K v' w':=by
 have fint:∀ (n:Int),K (.int .i64 n) os→Goes Γ ρ I K (.int .i64 n) w:=fun n h=>Goes.same sat fr (by rw [rep]) h
 cases d <;> try exact h.elim
 case nils =>
  rw [rep] at hv; subst hv
  have hmin:Nat.min news.length 0 = 0:=Nat.min_zero _
  refine ⟨_,w,?_,fint 0 h⟩
  simp [Builtin.copy_,run_underlying ht,hs.len,hmin,sizeOf,typeInfo,hie,hsz,hfc 0 (Nat.zero_le _),goInt]
 case sl i j sz lo len cap =>
  simp only [vcCopy] at h
  split at h
  case isFalse=>exact h.elim
  rename_i hsz'; subst hsz'
  cases hat:os.at i j with
  | gone=>rw [hat] at h; exact h.elim
  | map _=>rw [hat] at h; exact h.elim
  | loop _ _ _ _=>rw [hat] at h; exact h.elim
  | row t' sz' p es =>
  rw [hat] at h
  dsimp only at h
  split at h
  case isFalse=>exact h.elim
  rename_i hc; subst hc
  obtain ⟨hle,h⟩:=h
  rw [Nm.iff] at h
  rw [rep] at hv
  obtain ⟨q,A,c,hq,rfl,g1,g2,g3,g4,gA⟩:=hv
  have hml:Nat.min news.length len≤news.length:=Nat.min_le_left _ _
  have hmr:Nat.min news.length len≤len:=Nat.min_le_right _ _
  have hmm:min news.length len = Nat.min news.length len:=rfl
  rw [hmm] at h
  generalize Nat.min news.length len = n at h hml hmr hmm
  obtain ⟨h0,h1⟩:=h
  have hfn:=hfc n hml
  by_cases hn:n = 0
  ·subst hn
   refine ⟨_,w,?_,fint 0 (h0 rfl)⟩
   have e0:Nat.min news.length len = 0:=hmm
   cases A with
   | none=>simp [Builtin.copy_,run_underlying ht,hs.len,e0,sizeOf,typeInfo,hie,hsz,hfn,goInt]
   | some ad=>simp [Builtin.copy_,run_underlying ht,hs.len,e0,sizeOf,typeInfo,hie,hsz,hfn,goInt,flat_nil,storeCells]
  ·have hpos:0 < q.2:=by omega
   obtain ⟨k1,k2⟩:=h1 (by omega)
   have hlen:(news.take n).length = n:=by rw [List.length_take]; omega
   obtain ⟨w',hst,hsat',hfr'⟩:=splice_ok (P:=P) sat fr hat hq hpos (lo:=lo) (news:=news.take n) (vals:=us.take n) (by omega) (repL_take n hr) k1 (fun u hu=>hf u (List.mem_of_mem_take hu))
   refine ⟨.int .i64 (n:Int),w',?_,_,_,ρ,I,hsat',hfr',Pl.le_refl _,Im.le_refl _,?_,k2⟩
   ·have e0:Nat.min news.length len = n:=hmm
    rw [gA (by omega)]
    simp [Builtin.copy_,run_underlying ht,hs.len,e0,sizeOf,typeInfo,hie,hsz,hfn,goInt,hst]
   ·rw [rep]
theorem snd_clear (hτ:TauOk P τ) (sat:Sat ρ I os w) (fr:Γ.Fr ρ I os w) {t e:TypeId} {te:TI} {ty:TypeId} (ht:P.underlying t = some (.slice e)) (hte:τ e = some te) (hz:te.zero.isJunk = false) (hp:te.zero.pure = true) {x:D} {v:Value} (hv:rep ρ I x v) (h:vcClear te x os K) :
  ∃ v' w',(Builtin.clear_ #[t] ty #[v]).run P w = .ok v' w'∧Goes Γ ρ I K v' w':=by
 obtain ⟨i0,d0,hty⟩:=hτ e te hte
 rcases hty.zero with e' | ⟨z,hz1,hz2,hz3⟩
 ·rw [e'] at hz; simp [D.isJunk] at hz
 have fin:K (.tup []) os→Goes Γ ρ I K (.tuple #[]) w:=fun h=>Goes.same sat fr rep_undef h
 cases x <;> try exact h.elim
 case nils =>
  rw [rep] at hv; subst hv
  exact ⟨_,w,by simp [Builtin.clear_,run_underlying ht],fin h⟩
 case sl i j sz lo len cap =>
  simp only [vcClear] at h
  split at h
  case isFalse=>exact h.elim
  rename_i hsz'; subst hsz'
  cases hat:os.at i j with
  | gone=>rw [hat] at h; exact h.elim
  | map _=>rw [hat] at h; exact h.elim
  | loop _ _ _ _=>rw [hat] at h; exact h.elim
  | row t' sz' p es =>
  rw [hat] at h
  dsimp only at h
  split at h
  case isFalse=>exact h.elim
  rename_i hc; subst hc
  obtain ⟨hle,h0,h1⟩:=h
  rw [rep] at hv
  obtain ⟨q,A,c,hq,rfl,g1,g2,g3,g4,gA⟩:=hv
  by_cases hn:len = 0
  ·subst hn
   refine ⟨_,w,?_,fin (h0 rfl)⟩
   cases A with
   | none=>simp [Builtin.clear_,run_underlying ht]
   | some ad=>simp [Builtin.clear_,run_underlying ht]
  ·have hpos:0 < q.2:=by omega
   have hpl:∀ n,D.pureL (List.replicate n te.zero) = true:=by
    intro n
    induction n with
    | zero=>rfl
    | succ n ih=>rw [List.replicate_succ]; simp [D.pureL,hp,ih]
   obtain ⟨w',hst,hsat',hfr'⟩:=splice_ok (P:=P) sat fr hat hq hpos (lo:=lo) (news:=List.replicate len te.zero) (vals:=List.replicate len z) (by simpa using hle) (repL_replicate (hz2 ρ I) len) (fun _=>hpl len) (fun u hu=>by rw [List.eq_of_mem_replicate hu]; exact hz3)
   refine ⟨_,w',?_,_,_,ρ,I,hsat',hfr',Pl.le_refl _,Im.le_refl _,rep_undef,h1 (by omega)⟩
   have hzc:(Builtin.zeroCells z.cells len).toList = flat (List.replicate len z):=by
    by_cases h0:te.size = 0
    ·have hz0:z.cells.size = 0:=by rw [hz3.1,h0]
     apply List.ext_getElem?
     intro k
     have a1:(flat (List.replicate len z)).length = 0:=by rw [flat_length (sz:=0) (fun u hu=>by rw [List.eq_of_mem_replicate hu]; exact hz0)]; simp
     rw [List.getElem?_eq_none (by simp [Builtin.zeroCells,hz0]),List.getElem?_eq_none (by omega)]
    ·have:=madeCells_flat (z:=z) (sz:=te.size) (n:=len) hz3.1 (by omega)
     rw [← this]
     unfold madeCells Builtin.zeroCells
     rw [hz3.1]
   cases len with
   | zero=>exact absurd rfl hn
   | succ k =>
    rw [gA (by omega)]
    simp [Builtin.clear_,run_underlying ht,zeroValue,typeInfo,hty.info,hz1,hzc,hst]
    rfl
abbrev kvs (es:List (Int × D)) (us:List Value):List (Value × Value):=(es.zip us).map (fun x=>(.int .i64 x.1.1,x.2))
theorem find_map (n:Int):∀ (es:List (Int × D)) (us:List Value) (ents:List MapEntry) (i0:Nat),ents.map (fun e=>(e.key,e.val)) = kvs es us→repL ρ I (es.map (·.2)) us →
  (lookM es n = none∧Instr.findNow (.int .i64) (.int .i64 n) ents i0 = some none∧∀ d,putM es n d = es ++ [(n,d)]) ∨
  (∃ k v d0,lookM es n = some d0∧Instr.findNow (.int .i64) (.int .i64 n) ents i0 = some (some (i0+k,v))∧rep ρ I d0 v∧k < es.length∧es[k]?.map (·.1) = some n∧(ents[k]?).map (·.key) = some (.int .i64 n)∧∀ d,putM es n d = es.set k (n,d))
 | [],us,ents,i0,he,hr=>by
  have:ents = []:=by simpa [kvs] using he
  subst this
  exact .inl ⟨rfl,rfl,fun d=>rfl⟩
 | (k0,d0) :: es,us,ents,i0,he,hr=>by
  simp only [List.map_cons] at hr
  obtain ⟨u,us',rfl,hu,hr⟩:=repL_cons.1 hr
  cases ents with
  | nil=>simp [kvs] at he
  | cons e ents =>
   simp only [kvs,List.map_cons,List.zip_cons_cons,List.cons.injEq,Prod.mk.injEq] at he
   obtain ⟨⟨h1,h2⟩,h3⟩:=he
   cases hb:intBeq k0 n with
   | true =>
    have:=(intBeq_iff _ _).1 hb
    subst this
    refine .inr ⟨0,u,d0,by simp [lookM,hb],?_,hu,by simp,by simp,by simp [h1],fun d=>by simp [putM,hb]⟩
    simp [Instr.findNow,Instr.sameNow,h1,h2]
   | false =>
    have hne:¬ k0 = n:=fun e=>by rw [(intBeq_iff _ _).2 e] at hb; simp at hb
    rcases find_map n es us' ents (i0+1) h3 hr with ⟨g1,g2,g3⟩ | ⟨k,v,d,g1,g2,g3,g4,g5,g6,g7⟩
    ·refine .inl ⟨by simp [lookM,hb,g1],?_,fun d=>by simp [putM,hb,g3]⟩
     have hne':(n == k0) = false:=by simp; exact fun e=>hne e.symm
     simp only [Instr.findNow,Instr.sameNow,h1,if_true,hne']
     exact g2
    ·refine .inr ⟨k+1,v,d,by simp [lookM,hb,g1],?_,g3,by simp; omega,by simpa using g5,by simpa using g6,fun d=>by simp [putM,hb,g7]⟩
     have hne':(n == k0) = false:=by simp; exact fun e=>hne e.symm
     simp only [Instr.findNow,Instr.sameNow,h1,if_true,hne']
     rw [g2]; congr 3; omega
theorem run_setObj_at {l:Nat} {e0:Array MapEntry} {c0:Nat} {o':Obj} (h:w.heap[l]? = some (.map e0 c0)):(setObj l o').run P w = .ok () (w.putObj l o'):=by simp [setObj,Sem.run,h,World.putObj]
theorem run_getObj_at {l:Nat} {e0:Array MapEntry} {c0:Nat} (h:w.heap[l]? = some (.map e0 c0)):(getObj l).run P w = .ok (.map e0 c0) w:=by simp [getObj,Sem.run,h]
theorem run_checkKey_int {t:TypeId} {k:IntKind} (h:P.underlying t = some (.int k)) (b:Bool) (n:Int):(Instr.checkKey b 10000 t (.int .i64 n)).run P w = .ok () w:=by
 show (Instr.checkKey b (9999+1) t (.int .i64 n)).run P w = _
 unfold Instr.checkKey
 simp [run_underlying h]
theorem kvs_length {es:List (Int × D)} {us:List Value} (h:repL ρ I (es.map (·.2)) us):us.length = es.length:=by have:=repL_length h; simpa using this
theorem kvs_set:∀ (es:List (Int × D)) (us:List Value) (k:Nat) (n:Int) (d:D) (v:Value),us.length = es.length→kvs (es.set k (n,d)) (us.set k v) = (kvs es us).set k (.int .i64 n,v)
 | [],us,k,n,d,v,h=>by simp [kvs]
 | e :: es,[],k,n,d,v,h=>by simp at h
 | e :: es,u :: us,0,n,d,v,h=>by simp [kvs]
 | e :: es,u :: us,k+1,n,d,v,h=>by
  have:=kvs_set es us k n d v (by simpa using h)
  simp only [kvs,List.set_cons_succ,List.zip_cons_cons,List.map_cons] at this ⊢
  rw [this]
theorem kvs_push (es:List (Int × D)) (us:List Value) (n:Int) (d:D) (v:Value) (h:us.length = es.length):kvs (es ++ [(n,d)]) (us ++ [v]) = kvs es us ++ [(.int .i64 n,v)]:=by
 unfold kvs
 rw [List.zip_append h.symm]
 simp
theorem snd_mapPut (hτ:TauOk P τ) (sat:Sat ρ I os w) (fr:Γ.Fr ρ I os w) {t:TypeId} {m k x:D} {vm vk vx:Value} (hm:rep ρ I m vm) (hk:rep ρ I k vk) (hx:rep ρ I x vx) (h:vcMapPut τ t m k x os K) :
  ∃ w',(Instr.mapUpdate t vm vk vx).run P w = .ok () w'∧Goes Γ ρ I K undef w':=by
 unfold vcMapPut at h
 split at h
 case h_2=>exact h.elim
 rename_i kt et q0 q1 q2 q3 i j n ht
 split at h
 case h_2=>exact h.elim
 rename_i q0' q1' q2' q3' es hkt hat
 rw [D.force_eq] at h
 obtain ⟨it,dt,hty⟩:=hτ t _ ht
 obtain ⟨ik,dk,htyk⟩:=hτ kt _ hkt
 have hund:P.underlying t = some (.map kt et):=by have:=hty.und; have hk:=hty.kind; simp only [kindOk] at hk; rw [hk] at this; exact this
 have hundk:P.underlying kt = some (.int .i64):=by have:=htyk.und; have hk:=htyk.kind; simp only [kindOk] at hk; rw [hk] at this; exact this
 rw [rep] at hm
 rw [rep] at hk
 obtain ⟨p,hp,hpos,rfl⟩:=hm
 subst hk
 have hne:os.at i j ≠ .gone:=by rw [hat]; simp
 obtain ⟨p',hp',hok⟩:=sat.ok i j hne
 rw [hp] at hp'; cases hp'
 rw [hat] at hok
 obtain ⟨_,ents,clk,hheap,us,hr,he⟩:=hok
 have hlt:p.1 < w.heap.size:=(Array.getElem?_eq_some_iff.1 hheap).1
 have hul:=kvs_length hr
 have fin:∀ (ents':Array MapEntry) (clk':Nat) (es':List (Int × D)) (us':List Value),putM es n x = es'→repL ρ I (es'.map (·.2)) us'→ents'.toList.map (fun e=>(e.key,e.val)) = kvs es' us' →
   Goes Γ ρ I K undef (w.putObj p.1 (.map ents' clk')):=by
  intro ents' clk' es' us' hes hr' he'
  subst hes
  exact ⟨_,_,ρ,I,sat.write hne hp hpos (fun b hb=>World.putObj_heap_other hb) (.map (putM es n x)) (fun _=>⟨hpos,ents',clk',World.putObj_heap_same hlt,us',hr',he'⟩),fr.write (w':=w.putObj p.1 (.map ents' clk')) ⟨rfl,rfl,rfl,by rw [World.putObj_size]; exact Nat.le_refl _⟩ hne hp hpos (fun b hb=>World.putObj_heap_other hb) _,Pl.le_refl _,Im.le_refl _,rep_undef,h⟩
 rcases find_map n es us ents.toList 0 he hr with ⟨g1,g2,g3⟩ | ⟨k,v,d0,g1,g2,g3,g4,g5,g6,g7⟩
 ·refine ⟨w.putObj p.1 (.map (ents.push { key:=.int .i64 n,val:=vx,born:=clk }) (clk+1)),?_,fin _ _ (es ++ [(n,x)]) (us ++ [vx]) (g3 x) ?_ ?_⟩
  ·unfold Instr.mapUpdate Instr.findKey
   simp only [Sem.run_bind,run_underlying hund,Result.andThen_ok,run_getObj_at hheap,run_checkKey_int hundk,run_underlying hundk,g2,Sem.run_pure,run_setObj_at hheap]
  ·rw [List.map_append]; exact repL_append hr (repL_cons.2 ⟨vx,[],rfl,hx,repL_nil.2 rfl⟩)
  ·rw [kvs_push _ _ _ _ _ hul]; unfold kvs; rw [← he]; simp
 ·rw [Nat.zero_add] at g2
  have hkl:k < ents.size:=by
   have:ents.toList.length = (kvs es us).length:=by unfold kvs; rw [← he]; simp
   simp [kvs] at this; omega
  obtain ⟨old,hold,hkey⟩:∃ e,ents[k]? = some e∧e.key = .int .i64 n:=by
   have h6:(ents.toList[k]?).map (·.key) = some (.int .i64 n):=g6
   have:ents.toList[k]? = some ents[k]:=by simp [hkl]
   rw [this] at h6
   exact ⟨ents[k],by simp [hkl],by simpa using h6⟩
  refine ⟨w.putObj p.1 (.map (ents.modify k fun e=>{ e with key:=.int .i64 n,val:=vx }) clk),?_,fin _ _ (es.set k (n,x)) (us.set k vx) (g7 x) ?_ ?_⟩
  ·unfold Instr.mapUpdate Instr.findKey
   have hs:Instr.sameBits 10000 (.int .i64 n) (.int .i64 n) = true:=by simp [Instr.sameBits]
   simp only [Sem.run_bind,run_underlying hund,Result.andThen_ok,run_getObj_at hheap,run_checkKey_int hundk,run_underlying hundk,g2,Sem.run_pure,hold,Option.map_some,Option.getD_some,hkey,Instr.keyThatStays,hs,if_true,run_setObj_at hheap]
  ·rw [List.map_set]; exact repL_set k hr hx
  ·rw [kvs_set _ _ _ _ _ _ hul]
   unfold kvs
   rw [← he]
   apply List.ext_getElem?
   intro q
   rw [List.getElem?_set,Array.toList_modify]
   simp only [List.getElem?_map,List.getElem?_modify,List.length_map,Array.length_toList]
   by_cases hq:k = q
   ·subst hq; simp [hkl]
   ·simp [hq]
theorem snd_lookup (hτ:TauOk P τ) (sat:Sat ρ I os w) (fr:Γ.Fr ρ I os w) {t:TypeId} {x i:D} {vx vi:Value} {ok:Bool} (hx:rep ρ I x vx) (hi:rep ρ I i vi) (h:vcLookup τ t x i ok os K) :
  ∃ v,(Instr.lookup t vx vi ok).run P w = .ok v w∧Goes Γ ρ I K v w:=by
 unfold vcLookup at h
 split at h
 case h_2=>exact h.elim
 rename_i kt et q0 q1 q2 q3 a b n ht
 split at h
 case h_2=>exact h.elim
 rename_i q0' q1' q2' q3' te es hkt het hat
 obtain ⟨it,dt,hty⟩:=hτ t _ ht
 obtain ⟨ik,dk,htyk⟩:=hτ kt _ hkt
 obtain ⟨ie,de,htye⟩:=hτ et _ het
 have hund:P.underlying t = some (.map kt et):=by have:=hty.und; have hk:=hty.kind; simp only [kindOk] at hk; rw [hk] at this; exact this
 have hundk:P.underlying kt = some (.int .i64):=by have:=htyk.und; have hk:=htyk.kind; simp only [kindOk] at hk; rw [hk] at this; exact this
 cases hz:te.zero.isJunk with
 | true=>rw [hz] at h; exact h.elim
 | false =>
 rw [hz] at h
 simp only [cond_false] at h
 rcases htye.zero with e' | ⟨z,hz1,hz2,hz3⟩
 ·rw [e'] at hz; simp [D.isJunk] at hz
 rw [rep] at hx
 rw [rep] at hi
 obtain ⟨p,hp,hpos,rfl⟩:=hx
 subst hi
 have hne:os.at a b ≠ .gone:=by rw [hat]; simp
 obtain ⟨p',hp',hok⟩:=sat.ok a b hne
 rw [hp] at hp'; cases hp'
 rw [hat] at hok
 obtain ⟨_,ents,clk,hheap,us,hr,he⟩:=hok
 have tup:∀ (d:D) (v:Value) (b:Bool),rep ρ I d v→rep ρ I (.tup [d,.bool b]) (.tuple #[v,.bool b]):=by
  intro d v b hd
  rw [rep]
  exact ⟨_,rfl,repL_cons.2 ⟨_,_,rfl,hd,repL_cons.2 ⟨_,_,rfl,by rw [rep],repL_nil.2 rfl⟩⟩⟩
 rcases find_map n es us ents.toList 0 he hr with ⟨g1,g2,g3⟩ | ⟨k,v,d0,g1,g2,g3,g4,g5,g6,g7⟩
 ·cases h with
  | got h0 hk=>rw [g1] at h0; cases h0
  | not h0 hk =>
   refine ⟨if ok then .tuple #[z,.bool false] else z,?_,?_⟩
   ·unfold Instr.lookup Instr.findKey
    simp only [Sem.run_bind,run_underlying hund,Result.andThen_ok,run_getObj_at hheap,run_checkKey_int hundk,run_underlying hundk,g2,Sem.run_pure,zeroValue,typeInfo,run_program,htye.info,hz1]
   ·cases ok
    ·exact Goes.same sat fr (hz2 ρ I) hk
    ·exact Goes.same sat fr (tup _ _ _ (hz2 ρ I)) hk
 ·cases h with
  | not h0 hk=>rw [g1] at h0; cases h0
  | got h0 hk =>
   rw [g1] at h0; cases h0
   rw [D.force_eq] at hk
   refine ⟨if ok then .tuple #[v,.bool true] else v,?_,?_⟩
   ·unfold Instr.lookup Instr.findKey
    simp only [Sem.run_bind,run_underlying hund,Result.andThen_ok,run_getObj_at hheap,run_checkKey_int hundk,run_underlying hundk,g2,Sem.run_pure]
   ·cases ok
    ·exact Goes.same sat fr g3 hk
    ·exact Goes.same sat fr (tup _ _ _ g3) hk
theorem snd_makeMap (sat:Sat ρ I os w) (fr:Γ.Fr ρ I os w) {t:TypeId} (h:K (.mp os.length 0) (os ++ [one (.map [])])):∃ v w',(Instr.makeMap t none).run P w = .ok v w'∧Goes Γ ρ I K v w':=by
 have hold:∀ b,b < w.heap.size→(w.alloc (.map #[] 0)).heap[b]? = w.heap[b]?:=fun b hb=>Below.heap_alloc _ _ _ (by omega)
 refine ⟨.map (some w.heap.size),w.alloc (.map #[] 0),by simp [Instr.makeMap,Sem.run_bind,run_newObj_alloc],_,_,ρ.new os.length (w.heap.size,1),I,sat.new hold 1 (.map []) ⟨Nat.one_pos,#[],0,World.alloc_heap_new w _,[],repL_nil.2 rfl,rfl⟩,fr.new (w':=w.alloc (.map #[] 0)) ⟨rfl,rfl,rfl,by simp⟩ hold 1 _,Pl.le_new (fun j=>sat.dom _ _ (Nat.le_refl _)),Im.le_refl _,?_,h⟩
 rw [rep]
 exact ⟨_,Pl.new_self _ _ _,Nat.one_pos,rfl⟩
end ops
end Go.Proofs.YtkceciebmkklpaaGreat.V
end
section
namespace Go.Proofs.YtkceciebmkklpaaGreat.V
open Go Go.RowKit
def CallOk (P:Program) (Γ:Ctx) (C:CallW):Prop:=∀ n args os K,C n args os K→∀ ρ I w vs,Sat ρ I os w→Γ.Fr ρ I os w→repL ρ I args vs →
 (∀ w',(callFunc n vs.toArray).run P w' = .ok (.enter n vs.toArray) w')∧Calls P n vs.toArray w (fun e w'=>∃ v,e = .returned v∧Goes Γ ρ I K v w')
section ops
variable {P:Program} {τ:Tau} {Γ:Ctx} {ρ:Pl} {I:Im} {os:Objs} {w:World} {get:Nat→D} {a:Act} {K:D→Objs→Prop} {C:CallW}
theorem Out.val {v:Value} {w':World} {r:Result Next} (hr:r = .ok (.value v) w') (h:Goes Γ ρ I K v w'):Out P Γ ρ I r w K:=.inl ⟨v,w',.inl hr,h⟩
theorem Out.skip {w':World} {r:Result Next} (hr:r = .ok .skip w') (h:Goes Γ ρ I K undef w'):Out P Γ ρ I r w K:=.inl ⟨undef,w',.inr ⟨hr,rfl⟩,h⟩
theorem rep_bool {b:Bool} {v:Value} (h:rep ρ I (.bool b) v):v = .bool b:=by rw [rep] at h; exact h
theorem str_eq (a b:ByteArray):(a.toList == b.toList) = decide (a = b):=by
 rw [ByteArray.toList_eq,ByteArray.toList_eq]
 cases a with | mk x=>cases b with | mk y =>
 by_cases h:x = y
 ·subst h; simp
 ·simp [h]
theorem run_bin_int {op:BinOp} {t:TypeId} {k:IntKind} {x y:Int}:(binOp op t (.int k x) (.int k y)).run P w = match op with
  | .shl | .shr=>(Op.shift op k x k y).run P w
  | .add | .sub | .mul=>(Op.intArith op k x y).run P w
  | .quo | .rem=>(Op.intDiv op k x y).run P w
  | .and | .or | .xor | .andNot=>(Op.intBits op k x y).run P w
  | _=>(Op.intCmp op x y).run P w:=by
 cases op <;> simp [binOp]
theorem snd_bin (sat:Sat ρ I os w) (fr:Γ.Fr ρ I os w) {op:BinOp} {t:TypeId} {x y:D} {vx vy:Value} (hx:rep ρ I x vx) (hy:rep ρ I y vy) (h:vcBin op x y (fun d=>K d os)) :
  ∃ v,(binOp op t vx vy).run P w = .ok v w∧Goes Γ ρ I K v w:=by
 have key:∀ (k:IntKind) (z:Int),K (.int k z) os→Goes Γ ρ I K (.int k z) w:=fun k z h=>Goes.same sat fr (by rw [rep]) h
 have keyb:∀ (b:Bool),K (.bool b) os→Goes Γ ρ I K (.bool b) w:=fun b h=>Goes.same sat fr (by rw [rep]) h
 unfold vcBin at h
 split at h
 case h_15=>exact h.elim
 case h_14 =>
  rename_i x y
  obtain ⟨hb,h⟩:=h
  rw [rep] at hx hy
  subst hx hy
  refine ⟨.string (x ++ y),?_,Goes.same sat fr (by rw [rep]) h⟩
  show (Op.stringOp .add x y).run P w = _
  unfold Op.stringOp
  have hb':¬ (IntKind.i64.max < ((x.size+y.size:Nat):Int)):=by
   have:IntKind.i64.max = 9223372036854775807:=by decide
   omega
  simp only [gt_iff_lt,if_neg hb']
  rfl
 all_goals
  rename_i k x k' y
  split at h
  case isFalse=>exact h.elim
  rename_i hk; subst hk
  rw [rep_int hx,rep_int hy]
  rw [run_bin_int]
 case h_1 | h_2 | h_3 =>
  obtain ⟨z,hz,h⟩:=h
  subst hz
  exact ⟨_,rfl,key k _ h⟩
 case h_4 =>
  obtain ⟨h0,z,hz,h⟩:=h
  subst hz
  exact ⟨_,by simp [Op.intDiv,h0],key k _ h⟩
 case h_5 =>
  obtain ⟨h0,h⟩:=h
  exact ⟨_,by simp [Op.intDiv,h0],key k _ h⟩
 case h_6 =>
  obtain ⟨z,hz,h⟩:=h
  subst hz
  exact ⟨_,by simp [Op.intBits],key k _ h⟩
 case h_7 =>
  obtain ⟨h0,z,hz,h⟩:=h
  subst hz
  refine ⟨_,?_,key k _ h⟩
  show (Op.shift .shr k x k y).run P w = _
  rw [shift_shr_any k k x y h0]
  rfl
 case h_8=>exact ⟨_,by simp [Op.intCmp]; rfl,keyb _ h⟩
 case h_9=>exact ⟨.bool (decide (x ≠ y)),by simp [Op.intCmp,bne]; rfl,keyb _ h⟩
 all_goals exact ⟨_,by simp [Op.intCmp],keyb _ h⟩
theorem snd_eql (hτ:TauOk P τ) {t:TypeId} {x y:D} {vx vy:Value} {Q:Bool→Prop} (hx:rep ρ I x vx) (hy:rep ρ I y vy) (h:vcEql τ t x y Q) :
  ∃ b,Q b∧(binOp .eql t vx vy).run P w = .ok (.bool b) w∧(binOp .neq t vx vy).run P w = .ok (.bool (!b)) w:=by
 unfold vcEql at h
 split at h
 ·rename_i k x k' y
  split at h
  case isFalse=>exact h.elim
  rename_i hk; subst hk
  rw [rep_int hx,rep_int hy,run_bin_int,run_bin_int]
  refine ⟨_,h,by simp [Op.intCmp]; rfl,by simp [Op.intCmp,bne]; rfl⟩
 ·rename_i cs ds
  split at h
  case h_2=>exact h.elim
  rename_i q0 q1 q2 q3 ks ht
  obtain ⟨i,d,hty⟩:=hτ t _ ht
  rw [rep] at hx
  rw [rep] at hy
  obtain ⟨ax,rfl,hx⟩:=hx
  obtain ⟨ay,rfl,hy⟩:=hy
  obtain ⟨r,hr,he⟩:=cmp_run (P:=P) (w:=w) (hty.cmp ks rfl) hx hy h
  exact ⟨r,hr,by show Sem.run P (do pure (Value.bool (← Op.equal t (.agg ax) (.agg ay))):Sem Value) w = _; simp only [Sem.run_bind,he,Result.andThen_ok,Sem.run_pure],by show Sem.run P (do pure (Value.bool (!(← Op.equal t (.agg ax) (.agg ay)))):Sem Value) w = _; simp only [Sem.run_bind,he,Result.andThen_ok,Sem.run_pure]⟩
 ·split at h
  case h_2=>exact h.elim
  rename_i ti ht
  obtain ⟨i,d,hty⟩:=hτ t ti ht
  have hk:=hty.kind
  have hu:=hty.und
  generalize hkk:ti.k = kk at h
  unfold vcEq at h
  have fin:∀ b:Bool,Q b→(∀ n,(Op.equalIn (n+1) t vx vy).run P w = .ok b w)→binOp .eql t vx vy = (do pure (Value.bool (← Op.equal t vx vy)):Sem Value)→binOp .neq t vx vy = (do pure (Value.bool (!(← Op.equal t vx vy))):Sem Value) →
    ∃ b,Q b∧(binOp .eql t vx vy).run P w = .ok (.bool b) w∧(binOp .neq t vx vy).run P w = .ok (.bool (!b)) w:=by
   intro b hb he h1 h2
   have he':(Op.equal t vx vy).run P w = .ok b w:=he 9999
   refine ⟨b,hb,?_,?_⟩
   ·rw [h1]; simp only [Sem.run_bind,he',Result.andThen_ok,Sem.run_pure]
   ·rw [h2]; simp only [Sem.run_bind,he',Result.andThen_ok,Sem.run_pure]
  split at h
  all_goals first | exact h.elim | skip
  all_goals rw [hkk] at hk
  all_goals simp only [kindOk] at hk
  case h_1 p q =>
   subst hk
   have e1:=rep_bool hx
   have e2:=rep_bool hy
   subst e1 e2
   exact fin _ h (fun n=>by simp [Op.equalIn,run_underlying hu]) rfl rfl
  case h_2 p q =>
   rw [rep] at hx
   rw [rep] at hy
   subst hx hy
   refine ⟨_,h,?_,?_⟩
   ·rw [binOp_string_eql,← str_eq]; rfl
   ·rw [binOp_string_neq,← str_eq]; rfl
  case h_3 =>
   obtain ⟨e,rfl⟩:=hk
   rw [rep] at hx
   rw [rep] at hy
   subst hx hy
   exact fin _ h (fun n=>by simp [Op.equalIn,run_underlying hu]) rfl rfl
  case h_4 =>
   obtain ⟨e,rfl⟩:=hk
   rw [rep] at hx
   rw [rep] at hy
   obtain ⟨p,_,_,rfl⟩:=hy
   subst hx
   exact fin _ h (fun n=>by simp [Op.equalIn,run_underlying hu]) rfl rfl
  case h_5 =>
   obtain ⟨e,rfl⟩:=hk
   rw [rep] at hx
   rw [rep] at hy
   obtain ⟨p,_,_,rfl⟩:=hx
   subst hy
   exact fin _ h (fun n=>by simp [Op.equalIn,run_underlying hu]) rfl rfl
  case h_6 =>
   obtain ⟨a',b',c',rfl⟩:=hk
   rw [rep] at hx
   rw [rep] at hy
   subst hx hy
   exact fin _ h (fun n=>by simp [Op.equalIn,run_underlying hu]) rfl rfl
  case h_7 =>
   obtain ⟨a',b',c',rfl⟩:=hk
   rw [rep] at hx
   rw [rep] at hy
   obtain ⟨x',y',rfl,_⟩:=hy
   subst hx
   exact fin _ h (fun n=>by simp [Op.equalIn,run_underlying hu]) rfl rfl
  case h_8 =>
   obtain ⟨a',b',c',rfl⟩:=hk
   rw [rep] at hx
   rw [rep] at hy
   obtain ⟨x',y',rfl,_⟩:=hx
   subst hy
   exact fin _ h (fun n=>by simp [Op.equalIn,run_underlying hu]) rfl rfl
theorem snd_nil (hτ:TauOk P τ) {t:TypeId} {x:D} {vx:Value} {Q:Bool→Prop} (hx:rep ρ I x vx) (sat:Sat ρ I os w) (h:vcNil τ t x Q) :
  (∃ b,Q b∧(binOp .eql t vx (.slice none 0 0)).run P w = .ok (.bool b) w∧(binOp .neq t vx (.slice none 0 0)).run P w = .ok (.bool (!b)) w)∧∃ A n c,vx = .slice A n c:=by
 unfold vcNil at h
 split at h
 case h_2=>exact h.elim
 rename_i e s1 s2 s3 s4 ht
 obtain ⟨i,d,hty⟩:=hτ t _ ht
 have hk:=hty.kind
 simp only [kindOk] at hk
 have hu:=hty.und
 rw [hk] at hu
 have fin:∀ (A:Option Addr) (n c:Nat),vx = .slice A n c→Q A.isNone→(∃ b,Q b∧(binOp .eql t vx (.slice none 0 0)).run P w = .ok (.bool b) w∧(binOp .neq t vx (.slice none 0 0)).run P w = .ok (.bool (!b)) w)∧∃ A n c,vx = .slice A n c:=by
  rintro A n c rfl hq
  have he0:∀ m,(Op.equalIn (m+1) t (.slice A n c) (.slice none 0 0)).run P w = .ok A.isNone w:=by
   intro m
   cases A <;> simp [Op.equalIn,run_underlying hu]
  have he:(Op.equal t (.slice A n c) (.slice none 0 0)).run P w = .ok A.isNone w:=he0 9999
  have h1:binOp .eql t (.slice A n c) (.slice none 0 0) = (do pure (Value.bool (← Op.equal t (.slice A n c) (.slice none 0 0))):Sem Value):=rfl
  have h2:binOp .neq t (.slice A n c) (.slice none 0 0) = (do pure (Value.bool (!(← Op.equal t (.slice A n c) (.slice none 0 0)))):Sem Value):=rfl
  refine ⟨⟨_,hq,?_,?_⟩,_,_,_,rfl⟩
  ·rw [h1]; simp only [Sem.run_bind,he,Result.andThen_ok,Sem.run_pure]
  ·rw [h2]; simp only [Sem.run_bind,he,Result.andThen_ok,Sem.run_pure]
 split at h
 case h_4=>exact h.elim
 case h_1 =>
  rw [rep] at hx
  exact fin _ _ _ hx h
 case h_2 sz fl es =>
  rw [rep] at hx
  obtain ⟨A,c,us,e1,_,_,_,_,_,h6⟩:=hx
  refine fin A _ c e1 ?_
  by_cases he:es = []
  ·cases A with
   | none=>exact (h.2 he).1
   | some a=>exact (h.2 he).2
  ·rcases h6 with h6 | ⟨b,o,_,_,_,h6,_⟩
   ·exact absurd h6 he
   ·subst h6; exact h.1 he
 case h_3 i j sz lo len cap =>
  rw [rep] at hx
  obtain ⟨p,A,c,_,e1,h2,h3,h4,h5,h6⟩:=hx
  refine fin A _ c e1 ?_
  by_cases he:len = 0
  ·cases A with
   | none=>exact (h.2 he).1
   | some a=>exact (h.2 he).2
  ·have:=h6 (by omega)
   subst this; exact h.1 (by omega)
theorem eqGuard_ok {op:BinOp} {t:TypeId} {x y:Operand} {vx vy:Value} (h1:∀ c,vx ≠ .agg c) (h2:vx ≠ .nilIface):(eqGuard op t x y vx vy).run P w = .ok () w:=by
 cases vx <;> first | exact absurd rfl (h1 _) | exact absurd rfl h2 | (cases op <;> rfl)
theorem bin_notagg {op:BinOp} {x y:D} {vx:Value} {Q:D→Prop} (hx:rep ρ I x vx) (h:vcBin op x y Q):(∀ c,vx ≠ .agg c)∧vx ≠ .nilIface:=by
 unfold vcBin at h
 split at h
 case h_15=>exact h.elim
 case h_14=>rw [rep] at hx; subst hx; exact ⟨fun c=>by simp,by simp⟩
 all_goals
  rw [rep_int hx]; exact ⟨fun c=>by simp,by simp⟩
theorem eql_guard (hτ:TauOk P τ) {op:BinOp} {ox oy:Operand} {t:TypeId} {x y:D} {vx vy:Value} {Q:Bool→Prop} (hx:rep ρ I x vx) (hy:rep ρ I y vy) (h:vcEql τ t x y Q):(eqGuard op t ox oy vx vy).run P w = .ok () w:=by
 unfold vcEql at h
 split at h
 ·rw [rep_int hx]; exact eqGuard_ok (fun c=>by simp) (by simp)
 ·rename_i cs ds
  split at h
  case h_2=>exact h.elim
  rename_i q0 q1 q2 q3 ks ht
  obtain ⟨i,d,hty⟩:=hτ t _ ht
  rw [rep] at hx
  rw [rep] at hy
  obtain ⟨ax,rfl,hx⟩:=hx
  obtain ⟨ay,rfl,hy⟩:=hy
  have hg:=cmp_guard (hty.cmp ks rfl)
  unfold eqGuard
  cases op <;> simp [hg]
 ·split at h
  case h_2=>exact h.elim
  unfold vcEq at h
  split at h
  all_goals first | exact h.elim | skip
  all_goals rw [rep] at hx
  case h_1=>subst hx; exact eqGuard_ok (fun c=>by simp) (by simp)
  case h_2=>subst hx; exact eqGuard_ok (fun c=>by simp) (by simp)
  case h_3=>subst hx; exact eqGuard_ok (fun c=>by simp) (by simp)
  case h_4=>subst hx; exact eqGuard_ok (fun c=>by simp) (by simp)
  case h_5=>obtain ⟨p,_,_,rfl⟩:=hx; exact eqGuard_ok (fun c=>by simp) (by simp)
  case h_6=>subst hx; exact eqGuard_ok (fun c=>by simp) (by simp)
  case h_7=>subst hx; exact eqGuard_ok (fun c=>by simp) (by simp)
  case h_8=>obtain ⟨x',y',rfl,_⟩:=hx; exact eqGuard_ok (fun c=>by simp) (by simp)
theorem minL_run:∀ (ds:List D) (vs:List Value) (k:IntKind) (x z:Int),repL ρ I ds vs→minL x ds = some z→(vs.foldlM Builtin.min2 (.int k x)).run P w = .ok (.int k z) w
 | [],_,k,x,z,h,e=>by rw [repL_nil] at h; subst h; simp [minL] at e; subst e; rfl
 | d :: ds,_,k,x,z,h,e=>by
  obtain ⟨u,us,rfl,hu,h'⟩:=repL_cons.1 h
  cases d <;> simp only [minL] at e <;> try (simp at e; done)
  rename_i k' y
  rw [rep_int hu]
  have:=minL_run ds us k _ z h' e
  simpa [Builtin.min2] using this
theorem maxL_run:∀ (ds:List D) (vs:List Value) (k:IntKind) (x z:Int),repL ρ I ds vs→maxL x ds = some z→(vs.foldlM Builtin.max2 (.int k x)).run P w = .ok (.int k z) w
 | [],_,k,x,z,h,e=>by rw [repL_nil] at h; subst h; simp [maxL] at e; subst e; rfl
 | d :: ds,_,k,x,z,h,e=>by
  obtain ⟨u,us,rfl,hu,h'⟩:=repL_cons.1 h
  cases d <;> simp only [maxL] at e <;> try (simp at e; done)
  rename_i k' y
  rw [rep_int hu]
  have:=maxL_run ds us k _ z h' e
  simpa [Builtin.max2] using this
theorem snd_builtin (hτ:TauOk P τ) (sat:Sat ρ I os w) (fr:Γ.Fr ρ I os w) {b:Builtin} {ds:List D} {vs:List Value} {ats:Array TypeId} {ty:TypeId} {cs:Array Bool} (hv:repL ρ I ds vs) (h:vcBuiltin τ b ds ats.toList os K) :
  ∃ v w',(builtin b ats ty cs vs.toArray).run P w = .ok (.value v) w'∧Goes Γ ρ I K v w':=by
 unfold vcBuiltin at h
 have fint:∀ (k:IntKind) (n:Int),K (.int k n) os→Goes Γ ρ I K (.int k n) w:=fun k n h=>Goes.same sat fr (by rw [rep]) h
 split at h
 case h_8=>exact h.elim
 ·rename_i x t hats
  obtain ⟨v,us,rfl,hx,hn⟩:=repL_cons.1 hv
  rw [repL_nil] at hn; subst hn
  have hats':ats = #[t]:=Array.ext' (by simpa using hats)
  subst hats'
  split at h
  case h_2=>exact h.elim
  rename_i ti ht
  obtain ⟨i,d,hty⟩:=hτ t ti ht
  have hk:=hty.kind
  have hu:=hty.und
  generalize hkk:ti.k = kk at h hk
  split at h
  all_goals first | exact h.elim | skip
  all_goals simp only [kindOk] at hk
  all_goals subst hk
  all_goals rw [rep] at hx
  case h_1=>subst hx; exact ⟨_,w,by simp [builtin,Builtin.len_,run_underlying hu,goInt],fint _ _ h⟩
  case h_2=>obtain ⟨A,c,us,rfl,_⟩:=hx; exact ⟨_,w,by simp [builtin,Builtin.len_,run_underlying hu,goInt],fint _ _ h⟩
  case h_3=>obtain ⟨p,A,c,_,rfl,_⟩:=hx; exact ⟨_,w,by simp [builtin,Builtin.len_,run_underlying hu,goInt],fint _ _ h⟩
  case h_4=>subst hx; exact ⟨_,w,by simp [builtin,Builtin.len_,run_underlying hu,goInt],fint _ _ h⟩
 ·rename_i k x r ts
  obtain ⟨v,us,rfl,hx,hr⟩:=repL_cons.1 hv
  rw [rep_int hx]
  split at h
  case h_2=>exact h.elim
  rename_i z hz
  have:=minL_run (P:=P) (w:=w) _ us x _ z hr hz
  exact ⟨_,w,by simp [builtin,Builtin.min_,this],fint _ _ h⟩
 ·rename_i k x r ts
  obtain ⟨v,us,rfl,hx,hr⟩:=repL_cons.1 hv
  rw [rep_int hx]
  split at h
  case h_2=>exact h.elim
  rename_i z hz
  have:=maxL_run (P:=P) (w:=w) _ us x _ z hr hz
  exact ⟨_,w,by simp [builtin,Builtin.max_,this],fint _ _ h⟩
 ·rename_i s x t tx hats
  obtain ⟨v,us,rfl,hs,hr⟩:=repL_cons.1 hv
  obtain ⟨u,us2,rfl,hx,hn⟩:=repL_cons.1 hr
  rw [repL_nil] at hn; subst hn
  have hats':ats = #[t,tx]:=Array.ext' (by simpa using hats)
  subst hats'
  split at h
  case h_3=>exact h.elim
  case h_2 =>
   rename_i e s1 s2 s3 s4 s1' s2' s3' s4' ht htx
   split at h
   case h_2=>exact h.elim
   rename_i te hte
   obtain ⟨i0,d0,hty⟩:=hτ t _ ht
   obtain ⟨i1,d1,htyx⟩:=hτ tx _ htx
   have hund:P.underlying t = some (.slice e):=by have:=hty.und; have hk:=hty.kind; simp only [kindOk] at hk; rw [hk] at this; exact this
   have hundx:P.underlying tx = some (.int .i64):=by have:=htyx.und; have hk:=htyx.kind; simp only [kindOk] at hk; rw [hk] at this; exact this
   cases hb:(Nat.beq te.size 0 || te.zero.isJunk) with
   | true=>rw [hb] at h; exact h.elim
   | false =>
   rw [hb] at h
   simp only [cond_false] at h
   simp only [Bool.or_eq_false_iff] at hb
   have hsz:0 < te.size:=Nat.pos_of_ne_zero (fun e=>by rw [e] at hb; simp at hb)
   obtain ⟨v',w',hrun,hg⟩:=snd_zeros (P:=P) (ty:=ty) hτ sat fr hte hund hundx hb.2 hsz hs hx h
   exact ⟨v',w',by simp [builtin,hrun],hg⟩
  rename_i e s1 s2 s3 s4 e' s1' s2' s3' s4' ht htx
  split at h
  case h_2=>exact h.elim
  rename_i te hte
  obtain ⟨i0,d0,hty⟩:=hτ t _ ht
  obtain ⟨i1,d1,htyx⟩:=hτ tx _ htx
  have hund:P.underlying t = some (.slice e):=by have:=hty.und; have hk:=hty.kind; simp only [kindOk] at hk; rw [hk] at this; exact this
  have hundx:P.underlying tx = some (.slice e'):=by have:=htyx.und; have hk:=htyx.kind; simp only [kindOk] at hk; rw [hk] at this; exact this
  cases hb:(Nat.beq te.size 0 || te.zero.isJunk) with
  | true=>rw [hb] at h; exact h.elim
  | false =>
  rw [hb] at h
  simp only [cond_false] at h
  simp only [Bool.or_eq_false_iff] at hb
  have hsz:0 < te.size:=Nat.pos_of_ne_zero (fun e=>by rw [e] at hb; simp at hb)
  obtain ⟨news,vals,hK,h1,h2,h3,h4,_⟩:=src_ok (w:=w) sat hx h hundx
  obtain ⟨v',w',hrun,hg⟩:=snd_append (ty:=ty) hτ sat fr hte hund hb.2 hsz hs h1 h2 h3 h4 hK
  exact ⟨v',w',by simp [builtin,hrun],hg⟩
 ·rename_i x t hats
  obtain ⟨v,us,rfl,hx,hn⟩:=repL_cons.1 hv
  rw [repL_nil] at hn; subst hn
  have hats':ats = #[t]:=Array.ext' (by simpa using hats)
  subst hats'
  split at h
  case h_2=>exact h.elim
  rename_i e s1 s2 s3 s4 ht
  obtain ⟨i,d,hty⟩:=hτ t _ ht
  have hund:P.underlying t = some (.slice e):=by have:=hty.und; have hk:=hty.kind; simp only [kindOk] at hk; rw [hk] at this; exact this
  split at h
  case h_4=>exact h.elim
  all_goals rw [rep] at hx
  ·subst hx; exact ⟨_,w,by simp [builtin,Builtin.cap_,run_underlying hund,goInt],fint _ _ h⟩
  ·obtain ⟨A,c,us,rfl,_,_,hc,_⟩:=hx
   have:=hc rfl
   subst this
   exact ⟨_,w,by simp [builtin,Builtin.cap_,run_underlying hund,goInt],fint _ _ h⟩
  ·obtain ⟨p,A,c,_,rfl,_,_,_,hc,_⟩:=hx
   dsimp only at hc
   subst hc
   exact ⟨_,w,by simp [builtin,Builtin.cap_,run_underlying hund,goInt],fint _ _ h⟩
 ·rename_i d x t tx hats
  obtain ⟨v,us,rfl,hd,hr⟩:=repL_cons.1 hv
  obtain ⟨u,us2,rfl,hx,hn⟩:=repL_cons.1 hr
  rw [repL_nil] at hn; subst hn
  have hats':ats = #[t,tx]:=Array.ext' (by simpa using hats)
  subst hats'
  split at h
  case h_2=>exact h.elim
  rename_i e s1 s2 s3 s4 e' s1' s2' s3' s4' ht htx
  split at h
  case h_2=>exact h.elim
  rename_i te hte
  obtain ⟨i0,d0,hty⟩:=hτ t _ ht
  obtain ⟨i1,d1,htyx⟩:=hτ tx _ htx
  obtain ⟨i2,d2,htye⟩:=hτ e _ hte
  have hund:P.underlying t = some (.slice e):=by have:=hty.und; have hk:=hty.kind; simp only [kindOk] at hk; rw [hk] at this; exact this
  have hundx:P.underlying tx = some (.slice e'):=by have:=htyx.und; have hk:=htyx.kind; simp only [kindOk] at hk; rw [hk] at this; exact this
  obtain ⟨news,vals,hK,h1,h2,h3,h4,h5⟩:=src_ok (w:=w) sat hx h hundx
  obtain ⟨v',w',hrun,hg⟩:=snd_copy (P:=P) (ty:=ty) (tx:=tx) sat fr hund htye.info htye.size hd h1 h2 h3 h4 h5 hK
  exact ⟨v',w',by simp [builtin,hrun],hg⟩
 ·rename_i x t hats
  obtain ⟨v,us,rfl,hx,hn⟩:=repL_cons.1 hv
  rw [repL_nil] at hn; subst hn
  have hats':ats = #[t]:=Array.ext' (by simpa using hats)
  subst hats'
  split at h
  case h_2=>exact h.elim
  rename_i e s1 s2 s3 s4 ht
  split at h
  case h_2=>exact h.elim
  rename_i te hte
  obtain ⟨i0,d0,hty⟩:=hτ t _ ht
  have hund:P.underlying t = some (.slice e):=by have:=hty.und; have hk:=hty.kind; simp only [kindOk] at hk; rw [hk] at this; exact this
  cases hb:(te.zero.isJunk || !te.zero.pure) with
  | true=>rw [hb] at h; exact h.elim
  | false =>
  rw [hb] at h
  simp only [Bool.or_eq_false_iff,Bool.not_eq_false'] at hb
  obtain ⟨v',w',hrun,hg⟩:=snd_clear (P:=P) (ty:=ty) hτ sat fr hund hte hb.1 hb.2 hx h
  exact ⟨v',w',by simp [builtin,hrun],hg⟩
end ops
end Go.Proofs.YtkceciebmkklpaaGreat.V
end
section
namespace Go.Proofs.YtkceciebmkklpaaGreat.V
open Go Go.RowKit
section ops
variable {P:Program} {τ:Tau} {Γ:Ctx} {ρ:Pl} {I:Im} {os:Objs} {w:World} {get:Nat→D} {a:Act} {K:D→Objs→Prop} {C:CallW}
theorem zip_list (f:Operand→Value):∀ (l:List (Nat × Operand)),(l.map fun (i,x)=>(i,f x)) = (l.map (·.1)).zip (l.map fun p=>f p.2)
 | []=>rfl
 | p :: l=>by simp only [List.map_cons,List.zip_cons_cons,zip_list f l]
theorem zip_parts (parts:Array (Nat × Operand)) (f:Operand→Value):(parts.map fun (i,x)=>(i,f x)) = ((parts.toList.map (·.1)).zip (parts.toList.map fun p=>f p.2)).toArray:=by
 apply Array.ext'
 simp only [Array.toList_map]
 exact zip_list f parts.toList
theorem opt_ops (tm:∀ i,rep ρ I (get i) (a.tmps.getD i undef)) (o:Option Operand):(o.map (evalO get) = none∧o.map a.eval = none)∨∃ d u,o.map (evalO get) = some d∧o.map a.eval = some u∧rep ρ I d u:=by
 cases o with
 | none=>exact .inl ⟨rfl,rfl⟩
 | some x=>exact .inr ⟨_,_,rfl,rfl,rep_evalO tm x⟩
theorem bytes_of {ρ:Pl} {I:Im}:∀ {es:List D} {us:List Value} {ns:List Int},repL ρ I es us→bytesL es = some ns→us = ns.map (Value.int .u8)
 | [],us,ns,h,e=>by rw [repL_nil] at h; subst h; simp [bytesL] at e; subst e; rfl
 | d :: es,us,ns,h,e=>by
  obtain ⟨u,us,rfl,hu,htl⟩:=repL_cons.1 h
  unfold bytesL at e
  split at e
  case h_1 h'=>cases h'
  case h_3=>cases e
  rename_i n r he
  cases he
  cases hb:bytesL es with
  | none=>rw [hb] at e; cases e
  | some l =>
   rw [hb] at e
   cases e
   rw [rep_int hu,bytes_of htl hb]; rfl
theorem bytes_run (sat:Sat ρ I os w) {f:Bool} {es:List D} {v:Value} {s:ByteArray} (hv:rep ρ I (.lst 1 f es) v) (hs:bytesD es = some s):(Conv.bytesToString v).run P w = .ok (.string s) w:=by
 unfold bytesD at hs
 split at hs
 case h_2=>cases hs
 rename_i ns hns
 cases hs
 rw [rep] at hv
 obtain ⟨A,c,us,rfl,h1,hm,h2,hr,hf,hA⟩:=hv
 have hul:=repL_length hr
 have hus:=bytes_of hr hns
 have hfl:flat us = us:=by
  rw [hus]
  clear hul hus hr hf hA hns h2 hm h1
  induction ns with
  | nil=>rfl
  | cons n ns ih=>show (Value.int IntKind.u8 n).cells.toList ++ flat (ns.map (Value.int .u8)) = _; rw [ih]; rfl
 cases A with
 | none =>
  rcases hA with rfl | ⟨b,o,arr,t,fz,e,_⟩
  ·have:ns = []:=by simp [bytesL] at hns; exact hns
   subst this
   simp [Conv.bytesToString]
  ·cases e
 | some ad =>
  refine run_bytesToString w ad es.length c ns ?_
  rcases hA with rfl | ⟨b,o,arr,t,fz,e,hI,hpre⟩
  ·have:ns = []:=by simp [bytesL] at hns; exact hns
   subst this
   have:=run_firstCells_some (P:=P) w 1 0 ad 0 c [] (by simp) (fun j u hu=>by simp at hu)
   simpa [Builtin.firstCells] using this
  ·cases e
   have hl:=Lies.of_block (sat.im _ _ hI) hpre
   have:=run_firstCells_some (P:=P) w 1 es.length ⟨b,o,none⟩ es.length c (flat us) (by rw [hfl,hul,Nat.mul_one]) (fun j u hu=>by rw [Addr.add_mid]; exact hl j u hu)
   rw [hfl,hus] at this
   simpa [Builtin.firstCells] using this
theorem snd_index (hτ:TauOk P τ) (sat:Sat ρ I os w) (fr:Γ.Fr ρ I os w) {t:TypeId} {x i:D} {vx vi:Value} (hx:rep ρ I x vx) (hi:rep ρ I i vi) (h:vcIndex τ t x i (fun d=>K d os)) :
  ∃ v',(Instr.index t vx vi).run P w = .ok v' w∧Goes Γ ρ I K v' w:=by
 unfold vcIndex at h
 split at h
 case h_2=>exact h.elim
 rename_i n e s1 s2 s3 s4 ht
 obtain ⟨i0,d0,hty⟩:=hτ t _ ht
 split at h
 case h_2=>exact h.elim
 rename_i te cs k m hte
 obtain ⟨i1,d1,htye⟩:=hτ e _ hte
 obtain ⟨⟨h0,h1⟩,h⟩:=h
 have hk:=hty.kind
 simp only [kindOk] at hk
 have hu:=hty.und
 rw [hk] at hu
 rw [rep] at hx
 obtain ⟨arr,rfl,hr⟩:=hx
 rw [rep_int hi]
 obtain ⟨d,v,hK,hrep,hrun⟩:=part_run (P:=P) (w:=w) hτ h hr
 refine ⟨v,?_,Goes.same sat fr hrep hK⟩
 simp [Instr.index,asIntOf,run_underlying hu,h0,h1,sizeOf,typeInfo,htye.info,htye.size,hrun]
theorem vcOp_run (hτ:TauOk P τ) (hC:CallOk P Γ C) (sat:Sat ρ I os w) (fr:Γ.Fr ρ I os w) (tm:∀ i,rep ρ I (get i) (a.tmps.getD i undef)) (o:Oper) (h:vcOp τ C get os o.op K) :
  Out P Γ ρ I ((execOp a.eval o).run P w) w K:=by
 have ev:=fun x=>rep_evalO tm x
 obtain ⟨dst,op,type,pos,after,guard⟩:=o
 dsimp only at h
 cases op with
 | move x=>simp only [vcOp,D.force_eq] at h; exact .val rfl (.same sat fr (ev x) h)
 | assign x=>simp only [vcOp,D.force_eq] at h; exact .val rfl (.same sat fr (ev x) h)
 | pick c x y =>
  simp only [vcOp] at h
  split at h
  case h_2=>exact h.elim
  rename_i t ht
  have hc:=ev c
  rw [ht] at hc
  have hcb:=rep_bool hc
  rw [Br.iff] at h
  refine .val (v:=if t then a.eval x else a.eval y) (w':=w) ?_ ?_
  ·simp [execOp,hcb,asBool]
  ·cases t
   ·simp only [Bool.false_eq_true,if_false,D.force_eq] at h ⊢; exact .same sat fr (ev y) h
   ·simp only [if_true,D.force_eq] at h ⊢; exact .same sat fr (ev x) h
 | alloc t =>
  simp only [vcOp] at h
  split at h
  case h_2=>exact h.elim
  rename_i ti ht
  cases hz:ti.zero.isJunk with
  | true=>rw [hz] at h; exact h.elim
  | false =>
   rw [hz] at h
   obtain ⟨v,w',hr,hg⟩:=snd_alloc (K:=K) hτ sat fr ht hz h
   exact .val (by simp [execOp,hr]) hg
 | box t x =>
  simp only [vcOp,D.force_eq] at h
  cases hz:(evalO get x).cells.all D.one with
  | false=>rw [hz] at h; exact h.elim
  | true =>
   rw [hz] at h
   obtain ⟨v,w',hr,hg⟩:=snd_box (P:=P) (K:=K) sat fr t (ev x) hz h
   exact .val (by simp [execOp,hr]) hg
 | buildSlice t len parts =>
  simp only [vcOp] at h
  have hp:repL ρ I (parts.toList.map fun p=>evalO get p.2) (parts.toList.map fun p=>a.eval p.2):=by
   have:=repL_evalO tm (parts.toList.map (·.2))
   rw [List.map_map,List.map_map] at this; exact this
  obtain ⟨v,w',hr,hg⟩:=snd_buildSlice hτ sat fr hp (by simp) h
  exact .val (by simp only [execOp]; rw [zip_parts]; simp [hr]) hg
 | build t parts =>
  simp only [vcOp] at h
  have hp:repL ρ I (parts.toList.map fun p=>evalO get p.2) (parts.toList.map fun p=>a.eval p.2):=by
   have:=repL_evalO tm (parts.toList.map (·.2))
   rw [List.map_map,List.map_map] at this; exact this
  obtain ⟨v,hr,hg⟩:=snd_build hτ sat fr hp h
  exact .val (by simp only [execOp]; rw [zip_parts]; simp [hr]) hg
 | load t x =>
  simp only [vcOp] at h
  obtain ⟨v,w',hr,hg⟩:=snd_load hτ sat fr (ev x) h
  exact .val (by simp [execOp,hr]) hg
 | store t x y =>
  simp only [vcOp] at h
  obtain ⟨w',hr,hg⟩:=snd_store hτ sat fr (ev x) (ev y) h
  exact .skip (by simp [execOp,hr]) hg
 | nilCheck x =>
  simp only [vcOp] at h
  have hx:=ev x
  split at h
  case h_4=>exact h.elim
  all_goals rename_i hd; rw [hd] at hx; have hx':=hx; rw [rep] at hx
  ·obtain ⟨p,_,_,e⟩:=hx
   exact .val (v:=a.eval x) (w':=w) (by simp [execOp,e]) (.same sat fr hx' h)
  ·obtain ⟨b,o,arr,t,fz,u,e,_⟩:=hx
   exact .val (v:=a.eval x) (w':=w) (by simp [execOp,e]) (.same sat fr hx' h)
  ·obtain ⟨y,z,e,_⟩:=hx
   exact .val (v:=a.eval x) (w':=w) (by simp [execOp,e]) (.same sat fr hx' h)
 | binOp op t x y yt =>
  simp only [vcOp] at h
  cases hn:isNilS y with
  | true =>
   rw [hn] at h
   simp only [cond_true] at h
   have hy:y = .const (.slice none 0 0):=by
    unfold isNilS at hn
    split at hn
    ·rfl
    ·simp at hn
   subst hy
   unfold vcNilOp at h
   split at h
   case h_3=>exact h.elim
   ·obtain ⟨⟨b,hb,h1,h2⟩,A,n,c,e⟩:=snd_nil (P:=P) hτ (ev x) sat h
    refine .val (v:=.bool b) (w':=w) ?_ (.same sat fr (by rw [rep]) hb)
    have g:=eqGuard_ok (P:=P) (w:=w) (op:=.eql) (t:=t) (x:=x) (y:=.const (.slice none 0 0)) (vx:=a.eval x) (vy:=.slice none 0 0) (fun c=>by rw [e]; simp) (by rw [e]; simp)
    have e2:a.eval (.const (.slice none 0 0)) = .slice none 0 0:=rfl
    simp [execOp,e2,g,h1]
   ·obtain ⟨⟨b,hb,h1,h2⟩,A,n,c,e⟩:=snd_nil (P:=P) hτ (ev x) sat h
    refine .val (v:=.bool (!b)) (w':=w) ?_ (.same sat fr (by rw [rep]) hb)
    have g:=eqGuard_ok (P:=P) (w:=w) (op:=.neq) (t:=t) (x:=x) (y:=.const (.slice none 0 0)) (vx:=a.eval x) (vy:=.slice none 0 0) (fun c=>by rw [e]; simp) (by rw [e]; simp)
    have e2:a.eval (.const (.slice none 0 0)) = .slice none 0 0:=rfl
    simp [execOp,e2,g,h2]
  | false =>
  rw [hn] at h
  simp only [cond_false] at h
  unfold vcCmp at h
  split at h
  ·obtain ⟨b,hb,h1,h2⟩:=snd_eql (P:=P) (w:=w) hτ (ev x) (ev y) h
   have hg:=eql_guard (P:=P) (w:=w) (op:=.eql) (ox:=x) (oy:=y) hτ (ev x) (ev y) h
   refine .val (v:=.bool b) (w':=w) ?_ (.same sat fr (by rw [rep]) hb)
   simp [execOp,hg,h1]
  ·obtain ⟨b,hb,h1,h2⟩:=snd_eql (P:=P) (w:=w) hτ (ev x) (ev y) h
   have hg:=eql_guard (P:=P) (w:=w) (op:=.neq) (ox:=x) (oy:=y) hτ (ev x) (ev y) h
   refine .val (v:=.bool (!b)) (w':=w) ?_ (.same sat fr (by rw [rep]) hb)
   simp [execOp,hg,h2]
  ·obtain ⟨v,hr,hg⟩:=snd_bin (P:=P) (t:=t) sat fr (ev x) (ev y) h
   obtain ⟨n1,n2⟩:=bin_notagg (ev x) h
   exact .val (by simp [execOp,eqGuard_ok n1 n2,hr]) hg
 | unOp op t x =>
  simp only [vcOp] at h
  have hx:=ev x
  split at h
  case h_3=>exact h.elim
  ·rename_i b hd
   rw [hd] at hx
   have e:=rep_bool hx
   exact .val (v:=.bool (!b)) (w':=w) (by simp [execOp,e,Op.unary]) (.same sat fr (by rw [rep]) h)
  ·rename_i k n hd
   rw [hd] at hx
   have e:=rep_int hx
   obtain ⟨z,hz,h⟩:=h
   subst hz
   exact .val (v:=.int k (k.wrap (0 - n))) (w':=w) (by simp [execOp,e,Op.unary,Op.intArith]) (.same sat fr (by rw [rep]) h)
 | convert src dst' x =>
  simp only [vcOp] at h
  have hx:=ev x
  split at h
  case h_4=>exact h.elim
  case h_3 =>
   rename_i e q1 q2 q3 q4 r1 r2 r3 r4 sz fl es hs hd he
   split at h
   case h_2=>exact h.elim
   rename_i e1 e2 e3 e4 hte
   split at h
   case isFalse=>exact h.elim
   rename_i hsz; subst hsz
   obtain ⟨s,hes,h⟩:=Opt.iff.1 h
   rw [he] at hx
   obtain ⟨i1,d1,t1⟩:=hτ _ _ hs
   obtain ⟨i2,d2,t2⟩:=hτ _ _ hd
   obtain ⟨i3,d3,t3⟩:=hτ _ _ hte
   have k1:=t1.kind
   have k2:=t2.kind
   have k3:=t3.kind
   simp only [kindOk] at k1 k2 k3
   subst k1 k2 k3
   refine .val (v:=.string s) (w':=w) ?_ (.same sat fr (by rw [rep]) h)
   have hconv:=bytes_run (P:=P) sat hx hes
   rw [rep] at hx
   obtain ⟨A,c,us,hxv,_⟩:=hx
   rw [hxv] at hconv
   simp [execOp,hxv,convert,run_underlying t1.und,run_underlying t2.und,run_underlying t3.und,hconv]
  ·rename_i ks q1 q2 q3 q4 kd r1 r2 r3 r4 k n hs hd he
   rw [he] at hx
   have e:=rep_int hx
   obtain ⟨z,hz,h⟩:=h
   subst hz
   obtain ⟨i1,d1,t1⟩:=hτ _ _ hs
   obtain ⟨i2,d2,t2⟩:=hτ _ _ hd
   have k1:=t1.kind
   have k2:=t2.kind
   simp only [kindOk] at k1 k2
   subst k1 k2
   exact .val (v:=.int kd (kd.wrap n)) (w':=w) (by simp [execOp,e,convert,run_underlying t1.und,run_underlying t2.und,Conv.intToInt]) (.same sat fr (by rw [rep]) h)
  ·rename_i q1 q2 q3 q4 r1 r2 r3 r4 s hs hd he
   rw [he] at hx
   have hx':=hx
   rw [rep] at hx
   obtain ⟨i1,d1,t1⟩:=hτ _ _ hs
   obtain ⟨i2,d2,t2⟩:=hτ _ _ hd
   have k1:=t1.kind
   have k2:=t2.kind
   simp only [kindOk] at k1 k2
   subst k1 k2
   exact .val (v:=a.eval x) (w':=w) (by simp [execOp,hx,convert,run_underlying t1.und,run_underlying t2.und]) (.same sat fr hx' h)
 | makeFunc fn x y =>
  simp only [vcOp,forceL_eq] at h
  refine .val (v:=.func fn (x.map a.eval) (y.map a.eval)) (w':=w) rfl (.same sat fr ?_ h)
  rw [rep]
  exact ⟨_,_,rfl,by simpa using repL_evalO tm x.toList,by simpa using repL_evalO tm y.toList⟩
 | makeSlice t l c =>
  simp only [vcOp] at h
  obtain ⟨v,w',hr,hg⟩:=snd_makeSlice hτ sat fr (ev l) (ev c) h
  exact .val (by simp [execOp,hr]) hg
 | fieldAddr t x f =>
  simp only [vcOp] at h
  obtain ⟨v,hr,hg⟩:=snd_fieldAddr hτ sat fr (ev x) h
  exact .val (by simp [execOp,hr]) hg
 | field t x f =>
  simp only [vcOp] at h
  obtain ⟨v,hr,hg⟩:=snd_field hτ sat fr (ev x) h
  exact .val (by simp [execOp,hr]) hg
 | indexAddr t x i =>
  simp only [vcOp] at h
  obtain ⟨v,hr,hg⟩:=snd_indexAddr hτ sat fr (ev x) (ev i) h
  exact .val (by simp [execOp,hr]) hg
 | slice t x lo hi mx =>
  simp only [vcOp] at h
  obtain ⟨v,hr,hg⟩:=snd_slice hτ sat fr (ev x) (opt_ops tm lo) (opt_ops tm hi) (opt_ops tm mx) h
  exact .val (by simp [execOp,hr]) hg
 | makeMap t r =>
  cases r with
  | some r=>exact h.elim
  | none =>
   simp only [vcOp] at h
   obtain ⟨v,w',hr,hg⟩:=snd_makeMap (P:=P) (t:=t) sat fr h
   exact .val (by simp [execOp,hr]) hg
 | insert t m k x =>
  simp only [vcOp] at h
  obtain ⟨w',hr,hg⟩:=snd_mapPut hτ sat fr (ev m) (ev k) (ev x) h
  exact .skip (by simp [execOp,hr]) hg
 | mapUpdate t m k x =>
  simp only [vcOp] at h
  obtain ⟨w',hr,hg⟩:=snd_mapPut hτ sat fr (ev m) (ev k) (ev x) h
  exact .skip (by simp [execOp,hr]) hg
 | lookup t x i ok =>
  simp only [vcOp] at h
  obtain ⟨v,hr,hg⟩:=snd_lookup hτ sat fr (ev x) (ev i) h
  exact .val (by simp [execOp,hr]) hg
 | index t x i =>
  simp only [vcOp] at h
  obtain ⟨v,hr,hg⟩:=snd_index hτ sat fr (ev x) (ev i) h
  exact .val (by simp [execOp,hr]) hg
 | extract x i =>
  simp only [vcOp] at h
  have hx:=ev x
  split at h
  case h_2=>exact h.elim
  rename_i vs hd
  split at h
  case h_2=>exact h.elim
  rename_i d hi
  rw [D.force_eq] at h
  rw [hd,rep] at hx
  obtain ⟨arr,e,hr⟩:=hx
  obtain ⟨v,hv,hrv⟩:=repL_get hr hi
  have hv':arr[i]? = some v:=by simpa using hv
  exact .val (v:=v) (w':=w) (by simp [execOp,e,Instr.extract,hv']) (.same sat fr hrv h)
 | call c =>
  obtain ⟨callee,args,ats⟩:=c
  cases callee with
  | value f =>
   simp only [vcOp] at h
   split at h
   case h_2=>exact h.elim
   rename_i n x y hf
   rw [forceL_eq] at h
   have hx:=ev f
   rw [hf,rep] at hx
   obtain ⟨fi,ca,e,h1,h2⟩:=hx
   have hargs:repL ρ I (x ++ (args.toList.map (evalO get) ++ y)) (fi.toList ++ (args.toList.map a.eval ++ ca.toList)):=repL_append h1 (repL_append (repL_evalO tm _) h2)
   obtain ⟨hent,hcalls⟩:=hC _ _ _ _ h ρ I w _ sat fr hargs
   have hr:(execOp a.eval { dst,op:=.call { callee:=.value f,args,argTypes:=ats },type,pos,after,guard }).run P w = .ok (.enter n (fi.toList ++ (args.toList.map a.eval ++ ca.toList)).toArray) w:=by
    have e1:fi ++ args.map a.eval ++ ca = (fi.toList ++ (args.toList.map a.eval ++ ca.toList)).toArray:=by
     apply Array.ext'; simp
    simp [execOp,resolve,e,Deferred.ofValue,invoke]
    rw [← hent w,← e1]
    simp
   exact .inr ⟨n,_,hr,hcalls⟩
  | invoke r m=>exact h.elim
  | builtin b =>
   simp only [vcOp] at h
   have hargs:=repL_evalO tm args.toList
   obtain ⟨v,w',hr,hg⟩:=snd_builtin (ty:=type) (cs:=args.map fun | .const _=>true | _=>false) hτ sat fr hargs h
   refine .val ?_ hg
   have e1:args.map a.eval = (args.toList.map a.eval).toArray:=by apply Array.ext'; simp
   simp only [execOp,resolve,e1,Sem.run_bind,Sem.run_pure,Result.andThen_ok,invoke]
   exact hr
 | _=>exact h.elim
end ops
end Go.Proofs.YtkceciebmkklpaaGreat.V
end
