/- C0: a text of a symbolic executor that is proved sound, and contracts that are proved with it. -/
import Derived.Test.YtkceciebmkklpaaGreatVA
import Derived.Test.YtkceciebmkklpaaGreatVB
import Derived.Test.YtkceciebmkklpaaGreatVT
import Derived.Test.YtkceciebmkklpaaGreatVC
set_option linter.unusedVariables false
set_option linter.unusedSimpArgs false
namespace Go.Proofs.YtkceciebmkklpaaGreat.V
theorem bl{n m:Nat}(h:Nat.ble n m=true):n≤m:=Nat.le_of_ble_eq_true h
end Go.Proofs.YtkceciebmkklpaaGreat.V
namespace Go.Proofs.YtkceciebmkklpaaGreat.V
open Go Go.Proofs
set_option maxRecDepth 100000
set_option maxHeartbeats 40000000
@[reducible] def ints (xs:List Int):D:=.lst 1 false (xs.map (D.int .i64))
@[reducible] def idxD (o:Option Nat):D:=.int .i64 (match o with | some i=>(i:Int) | none=>-1)
theorem find_at {α:Type} {xs:List α} {q:α→Bool} {i:Nat} (hi:i < xs.length) (hb:q xs[i] = true) (hf:∀ x ∈ xs.take i,q x = false):xs.findIdx? q = some i:=by
 rw [List.findIdx?_eq_some_iff_getElem]
 refine ⟨hi,hb,fun j hj=>?_⟩
 have:xs[j] ∈ xs.take i:=by rw [List.mem_take_iff_getElem]; exact ⟨j,by omega,rfl⟩
 simp [hf _ this]
theorem find_none {α:Type} {xs:List α} {q:α→Bool} {i:Nat} (hi:xs.length≤i) (hf:∀ x ∈ xs.take i,q x = false):xs.findIdx? q = none:=by
 rw [List.findIdx?_eq_none_iff]
 intro x hx
 exact hf x (by rw [List.take_of_length_le hi]; exact hx)
theorem take_more {α:Type} {xs:List α} {q:α→Bool} {i:Nat} (hi:i < xs.length) (hb:q xs[i] = false) (hf:∀ x ∈ xs.take i,q x = false):∀ x ∈ xs.take (i+1),q x = false:=by
 intro x hx
 rw [List.take_add_one,List.getElem?_eq_getElem hi] at hx
 rcases List.mem_append.1 hx with h | h
 ·exact hf x h
 ·simp at h; rw [h]; exact hb
def keep (n:Int):Int:=if n < -1073741824 then -1073741824 else if 1073741824 < n then 1073741824 else n
theorem keep35 (n:Int) (os:Objs):Spec Tryz.prog 99 [.int .i64 n] os (fun d os'=>d = .int .i64 (keep n)∧os' = os):=by
 refine Spec.by Tryz.func99 rfl (by decide) (by decide +kernel) rfl ?_
 refine goA ?_
 refine Ret.mk [.tmp _] rfl ?_; refine And.intro ?_ rfl
 unfold keep
 congr 1
 split <;> split <;> (try split) <;> omega
def kept (xs:List Int):Bool:=!(xs.any fun n=>decide (n ≠ keep n))
theorem same50 (xs ys:List Int) (hl:xs.length≤9223372036854775806):Spec Tryz.prog 51 [ints xs,ints ys] [] (fun d os'=>d = .bool (decide (xs = ys))∧os' = []):=by
 refine Spec.by Tryz.func51 rfl (by decide) (by decide +kernel) rfl ?_
 refine goA ?_
 refine Br.cs (fun hb=>?_) (fun hb=>?_)
 ·refine goA ?_
  refine Ret.mk [.tmp _] rfl ?_; refine And.intro ?_ rfl
  have:¬ xs = ys:=fun e=>by subst e; simp at hb
  simp [this]
 ·simp only [List.length_map,Bool.not_eq_false',decide_eq_true_eq] at hb
  have hlen:xs.length = ys.length:=by omega
  refine goA ?_
  refine Loop.inv (A:=Nat) [] (fun i=>[(5,.int .i64 (i:Int))]) (fun _=>[]) (fun i=>i≤xs.length∧xs.take i = ys.take i) (fun i=>xs.length - i) 0 ⟨Nat.zero_le _,by simp⟩ (Weak.start tld) ?_
  intro i ⟨hi,hf⟩
  refine goA ?_
  refine Br.dec (fun h=>?_) (fun h=>?_)
  ·simp only [List.length_map] at h
   refine goA ?_
   refine Opt.of (get_map (List.getElem?_eq_getElem (l:=xs) (i:=i) (by omega))) ?_
   refine goA ?_
   refine Opt.of (get_map (List.getElem?_eq_getElem (l:=ys) (i:=i) (by omega))) ?_
   refine goA ?_
   refine Br.cs (fun hb=>?_) (fun hb=>?_)
   ·simp at hb
    refine goA ?_
    refine Ret.mk [.tmp _] rfl ?_; refine And.intro ?_ rfl
    have:¬ xs = ys:=fun e=>by subst e; exact hb rfl
    simp [this]
   ·simp at hb
    refine goA ?_
    refine Loop.next (i+1) ?_ ?_ (Weak.back rfl tld rfl rfl)
    ·exact ⟨by omega,by rw [List.take_add_one,List.take_add_one,hf,List.getElem?_eq_getElem (by omega),List.getElem?_eq_getElem (by omega),hb]⟩
    ·omega
  ·simp only [List.length_map] at h
   refine goA ?_
   refine Ret.mk [.tmp _] rfl ?_; refine And.intro ?_ rfl
   have:xs = ys:=by
    rw [List.take_of_length_le (by omega),List.take_of_length_le (by omega)] at hf
    exact hf
   simp [this]
structure Fm where
 fn:Int
 pc:Int
 ls:List Int
deriving DecidableEq
structure Th where
 st:Int
 on:Int
 fr:List Fm
 sk:List Int
 code:Int
deriving DecidableEq
@[reducible] def frD (f:Fm):D:=.agg [.int .i64 f.fn,.int .i64 f.pc,ints f.ls]
@[reducible] def frs (l:List Fm):D:=.lst 3 false (l.map frD)
@[reducible] def thD (t:Th):D:=.agg [.int .i64 t.st,.int .i64 t.on,frs t.fr,ints t.sk,.int .i64 t.code]
def Fm.ok (f:Fm):Prop:=f.ls.length≤9223372036854775806
theorem fm_eq (f g:Fm):f = g ↔ f.fn = g.fn∧f.pc = g.pc∧f.ls = g.ls:=by cases f; cases g; simp
structure Th.ok (t:Th):Prop where
 fl:t.fr.length≤9223372036854775806
 sl:t.sk.length≤9223372036854775806
 fo:∀ f ∈ t.fr,f.ok
theorem th_eq (f g:Th):f = g ↔ f.st = g.st∧f.on = g.on∧f.fr = g.fr∧f.sk = g.sk∧f.code = g.code:=by cases f; cases g; simp
theorem same53 (t u:Th) (hf:t.ok):Spec Tryz.prog 24 [thD t,thD u] [] (fun d os'=>d = .bool (decide (t = u))∧os' = []):=by
 obtain ⟨h1,h2,h3⟩:=hf
 refine Spec.by Tryz.func24 rfl (by decide) (by decide +kernel) rfl ?_
 refine goA ?_
 refine Br.cs (fun b1_=>?_) (fun b1_=>?_) <;> have b1:=b1_ <;> simp at b1
 ·refine goA ?_
  refine Ret.trim 0 (by simp) rfl (bl rfl) ?_
  refine Ret.mk [.tmp _] rfl ?_; refine And.intro ?_ rfl
  simp [th_eq,b1]
 refine goA ?_
 refine Br.cs (fun b2_=>?_) (fun b2_=>?_) <;> have b2:=b2_ <;> simp at b2
 ·refine goA ?_
  refine Ret.trim 0 (by simp) rfl (bl rfl) ?_
  refine Ret.mk [.tmp _] rfl ?_; refine And.intro ?_ rfl
  simp [th_eq,b2]
 refine goA ?_
 refine Br.cs (fun b3_=>?_) (fun b3_=>?_) <;> have b3:=b3_ <;> simp at b3
 ·refine goA ?_
  refine Ret.trim 0 (by simp) rfl (bl rfl) ?_
  refine Ret.mk [.tmp _] rfl ?_; refine And.intro ?_ rfl
  simp [th_eq,b3]
 refine goA ?_
 refine Br.cs (fun b4_=>?_) (fun b4_=>?_) <;> have b4:=b4_ <;> simp at b4
 ·refine goA ?_
  refine Ret.trim 0 (by simp) rfl (bl rfl) ?_
  refine Ret.mk [.tmp _] rfl ?_; refine And.intro ?_ rfl
  have:¬ t = u:=fun e=>by subst e; exact b4 rfl
  simp [this]
 refine goA ?_
 refine Call.mk ((same50 t.sk u.sk h2).read (ViewL.same _) rfl (by rintro d rfl; exact ⟨rfl,rfl⟩)) ?_
 rintro d os' ⟨rfl,rfl⟩
 refine goA ?_
 refine Br.cs (fun b5_=>?_) (fun b5_=>?_) <;> have b5:=b5_ <;> simp at b5
 ·refine goA ?_
  refine Ret.trim 0 (by simp) rfl (bl rfl) ?_
  refine Ret.mk [.tmp _] rfl ?_; refine And.intro ?_ rfl
  simp [th_eq,b5]
 refine goA ?_
 have hlen:t.fr.length = u.fr.length:=by omega
 refine Loop.inv (A:=Nat) [] (fun i=>[(5,.int .i64 (i:Int))]) (fun _=>[one (.row 42 5 false [thD t]),one (.row 42 5 false [thD u])]) (fun i=>i≤t.fr.length∧t.fr.take i = u.fr.take i) (fun i=>t.fr.length - i) 0 ⟨Nat.zero_le _,by simp⟩ (Weak.start tld) ?_
 intro i ⟨hi,hf⟩
 refine goA ?_
 refine Br.dec (fun h=>?_) (fun h=>?_)
 ·simp only [List.length_map] at h
  refine goA ?_
  refine Opt.of (get_map (List.getElem?_eq_getElem (l:=t.fr) (i:=i) (by omega))) ?_
  refine goA ?_
  refine Opt.of (get_map (List.getElem?_eq_getElem (l:=u.fr) (i:=i) (by omega))) ?_
  refine goA ?_
  refine Br.cs (fun c1_=>?_) (fun c1_=>?_) <;> have c1:=c1_ <;> simp at c1
  ·refine goA ?_
   refine Ret.trim 0 (by simp) rfl (bl rfl) ?_
   refine Ret.mk [.tmp _] rfl ?_; refine And.intro ?_ rfl
   have:¬ t = u:=fun e=>by subst e; exact c1 rfl
   simp [this]
  refine goA ?_
  refine Br.cs (fun c2_=>?_) (fun c2_=>?_) <;> have c2:=c2_ <;> simp at c2
  ·refine goA ?_
   refine Ret.trim 0 (by simp) rfl (bl rfl) ?_
   refine Ret.mk [.tmp _] rfl ?_; refine And.intro ?_ rfl
   have:¬ t = u:=fun e=>by subst e; exact c2 rfl
   simp [this]
  refine goA ?_
  refine Call.mk ((same50 t.fr[i].ls u.fr[i].ls (h3 _ (List.getElem_mem _))).read (ViewL.same _) rfl (by rintro d rfl; exact ⟨rfl,rfl⟩)) ?_
  rintro d os' ⟨rfl,rfl⟩
  refine goA ?_
  refine Br.cs (fun c3_=>?_) (fun c3_=>?_) <;> have c3:=c3_ <;> simp at c3
  ·refine goA ?_
   refine Ret.trim 0 (by simp) rfl (bl rfl) ?_
   refine Ret.mk [.tmp _] rfl ?_; refine And.intro ?_ rfl
   have:¬ t = u:=fun e=>by subst e; exact c3 rfl
   simp [this]
  refine goA ?_
  refine Loop.next (i+1) ?_ ?_ (Weak.backT 2 (by simp) rfl rfl (bl rfl) tld rfl rfl)
  ·have he:t.fr[i] = u.fr[i]:=by rw [fm_eq]; exact ⟨c1,c2,c3⟩
   exact ⟨by omega,by rw [List.take_add_one,List.take_add_one,hf,List.getElem?_eq_getElem (by omega),List.getElem?_eq_getElem (by omega),he]⟩
  ·omega
 ·simp only [List.length_map] at h
  refine goA ?_
  refine Ret.trim 0 (by simp) rfl (bl rfl) ?_
  refine Ret.mk [.tmp _] rfl ?_; refine And.intro ?_ rfl
  have:t.fr = u.fr:=by
   rw [List.take_of_length_le (by omega),List.take_of_length_le (by omega)] at hf
   exact hf
  simp [th_eq,this,b1,b2,b3,b5]
theorem clone130 (xs:List Int) (hl:xs.length * 8≤140737488351232):Spec Tryz.prog 80 [ints xs] [] (fun d os'=>d = ints xs∧os' = []):=by
 refine Spec.by Tryz.func80 rfl (by decide) (by decide +kernel) rfl ?_
 refine goA ?_
 refine And.intro (fun hn=>?_) (fun hn=>And.intro ?_ ?_)
 ·refine goA ?_
  refine App.own ?_
  refine goA ?_
  refine Ret.frz allF [(2,ints xs)] ⟨View.slAll rfl rfl (by simp [setAll]) (by simp) (ViewL.same _) (pureL_map (fun _=>rfl) _),trivial⟩ ?_
  refine Ret.trim 0 (by simp) rfl (bl rfl) ?_
  refine Ret.mk [.tmp _] rfl ?_; refine And.intro ?_ rfl
  rfl
 ·refine goA ?_
  refine Ret.frz allF [(2,ints xs)] ⟨by rw [ints,hn]; exact View.nils 1 false,trivial⟩ ?_
  refine Ret.trim 0 (by simp) rfl (bl rfl) ?_
  refine Ret.mk [.tmp _] rfl ?_; refine And.intro ?_ rfl
  rfl
 ·refine goA ?_
  refine App.own ?_
  refine goA ?_
  refine Ret.frz allF [(2,ints xs)] ⟨View.slAll rfl rfl (by simp [setAll]) (by simp) (ViewL.same _) (pureL_map (fun _=>rfl) _),trivial⟩ ?_
  refine Ret.trim 0 (by simp) rfl (bl rfl) ?_
  refine Ret.mk [.tmp _] rfl ?_; refine And.intro ?_ rfl
  rfl
@[reducible] def rowF (l:List Fm):Fam:=one (.row 116 3 true (l.map frD))
theorem clone131 (xs:List Fm) (hl:xs.length * 40≤140737488351232):Spec Tryz.prog 127 [frs xs] [] (fun d os'=>(xs = []∧d = .nils∧os' = [])∨(d = .sl 0 0 3 0 xs.length none∧os' = [rowF xs])):=by
 refine Spec.by Tryz.func127 rfl (by decide) (by decide +kernel) rfl ?_
 refine goA ?_
 refine And.intro (fun hn=>?_) (fun hn=>And.intro ?_ ?_)
 ·refine goA ?_
  refine App.own ?_
  refine goA ?_
  refine Ret.weak (Weak.shift 1 0 (by decide) (by simp) (bl rfl) (bl rfl) (fun j=>by cases j <;> rfl) rfl) ?_
  refine Ret.trim 1 (by simp) rfl (bl rfl) ?_
  refine Ret.mk [.tmp _] rfl (.inr (And.intro ?_ rfl))
  show D.sl 0 0 3 0 (0+(xs.map frD).length) none = _
  simp
 ·refine goA ?_
  refine Ret.mk [.tmp _] rfl (.inl ⟨?_,rfl,rfl⟩)
  simpa using hn
 ·refine goA ?_
  refine App.own ?_
  refine goA ?_
  refine Ret.weak (Weak.shift 1 0 (by decide) (by simp) (bl rfl) (bl rfl) (fun j=>by cases j <;> rfl) rfl) ?_
  refine Ret.trim 1 (by simp) rfl (bl rfl) ?_
  refine Ret.mk [.tmp _] rfl (.inr (And.intro ?_ rfl))
  show D.sl 0 0 3 0 (0+(xs.map frD).length) none = _
  simp
def Th.okB (t:Th):Prop:=t.fr.length * 40≤140737488351232∧t.sk.length * 8≤140737488351232∧∀ f ∈ t.fr,f.ls.length * 8≤140737488351232
theorem clone61 (t:Th) (h:t.okB):Spec Tryz.prog 81 [thD t] [] (fun d os'=>d = thD t∧os' = []):=by
 refine Spec.frz (post':=fun d=>d = thD t) ?_
 obtain ⟨h1,h2,h3⟩:=h
 refine Spec.by Tryz.func81 rfl (by decide) (by decide +kernel) rfl ?_
 refine goA ?_
 refine Call.mk ((clone130 t.sk h2).only _ rfl (by rintro d rfl; rfl)) ?_
 rintro d os' ⟨rfl,rfl⟩
 refine goA ?_
 refine Call.mk ((clone131 t.fr h1).onto _ rfl) ?_
 rintro d os' ⟨d1,os1,⟨he,rfl,rfl⟩ | ⟨rfl,rfl⟩,rfl,rfl⟩
 ·refine goA ?_
  refine Loop.inv (A:=Unit) [] (fun i=>[(16,.int .i64 0)]) (fun _=>_) (fun i=>True) (fun i=>0) () trivial (Weak.start tld) ?_
  intro i _
  refine goA ?_
  refine Ret.mk [.cell 2 42] rfl ?_; (refine goA ?_)
  exact ⟨thD t,View.agg (.cons (.same _) (.cons (.same _) (.cons (by rw [he]; exact .nils _ _) (.same _)))),rfl,rfl⟩
 ·refine goA ?_
  refine Loop.inv (A:=Nat) [] (fun i=>[(16,.int .i64 (i:Int))]) (fun _=>_) (fun i=>i≤t.fr.length) (fun i=>t.fr.length - i) 0 (Nat.zero_le _) (Weak.start tld) ?_
  intro i hi
  refine goA ?_
  refine Br.dec (fun h=>?_) (fun h=>?_)
  ·refine goA ?_
   have hget:t.fr[0+i]? = some t.fr[i]:=by rw [Nat.zero_add]; exact List.getElem?_eq_getElem (by omega)
   refine Opt.of (get_map hget) ?_
   refine goA ?_
   refine Call.mk ((clone130 t.fr[i].ls (h3 _ (List.getElem_mem _))).only _ rfl (by rintro d rfl; rfl)) ?_
   rintro d os' ⟨rfl,rfl⟩
   refine goA ?_
   refine Opt.of (get_map hget) ?_
   refine goA ?_
   refine Loop.next (i+1) ?_ ?_ (Weak.backT 3 (by simp) ?_ rfl (bl rfl) tld rfl rfl)
   ·omega
   ·omega
   ·exact congrArg (fun r=>([_,_,one (.row 116 3 true r)]:Objs)) (set_same hget)
  ·refine goA ?_
   refine Ret.mk [.cell 2 42] rfl ?_; (refine goA ?_)
   exact ⟨thD t,View.agg (.cons (.same _) (.cons (.same _) (.cons (.slAll rfl rfl (by simp) (by simp) (.same _) (pureL_map (fun _=>rfl) _)) (.same _)))),rfl,rfl⟩
structure Fu where
 loc:Int
 code:List (Int × Int)
deriving DecidableEq
structure Pg where
 fu:List Fu
 mu:Int
 co:List Int
 se:List Int
 ch:List Int
 cs:List (List Int)
 th:Int
deriving DecidableEq
@[reducible] def inD (x:Int × Int):D:=.agg [.int .i64 x.1,.int .i64 x.2]
@[reducible] def fuD (f:Fu):D:=.agg [.int .i64 f.loc,.lst 2 false (f.code.map inD)]
@[reducible] def pgD (p:Pg):D:=.agg [.lst 2 false (p.fu.map fuD),.int .i64 p.mu,ints p.co,ints p.se,ints p.ch,.lst 1 false (p.cs.map ints),.int .i64 p.th]
def newFm (p:Pg) (f:Int):Fm:=⟨f,0,List.replicate ((p.fu[f.toNat]?).map (·.loc.toNat) |>.getD 0) 0⟩
theorem frame118 (p:Pg) (f:Nat) (u:Fu) (hu:p.fu[f]? = some u) (h0:0≤u.loc∧u.loc≤100):Spec Tryz.prog 130 [pgD p,.int .i64 f] [] (fun d os'=>d = frD ⟨f,0,List.replicate u.loc.toNat 0⟩∧os' = []):=by
 refine Spec.frz (post':=fun d=>d = frD ⟨f,0,List.replicate u.loc.toNat 0⟩) ?_
 refine Spec.by Tryz.func130 rfl (by decide) (by decide +kernel) rfl ?_
 refine goA ?_
 refine Opt.of (get_map hu) ?_
 refine goA ?_
 refine App.only false rfl rfl ?_
 refine goA ?_
 refine Ret.mk [.cell 4 116] rfl ?_; (refine goA ?_)
 refine ⟨frD ⟨f,0,List.replicate u.loc.toNat 0⟩,View.agg (.cons (.same _) (.cons (.same _) (.cons ?_ .nil))),rfl,rfl⟩
 show View _ _ _ (D.lst 1 false ((List.replicate u.loc.toNat (0:Int)).map (D.int .i64)))
 rw [List.map_replicate]
 exact .same _
theorem new38 (p:Pg) (f:Nat) (u:Fu) (hu:p.fu[f]? = some u) (h0:0≤u.loc∧u.loc≤100):Spec Tryz.prog 87 [pgD p,.int .i64 f] [] (fun d os'=>d = thD ⟨0,0,[⟨f,0,List.replicate u.loc.toNat 0⟩],[],0⟩∧os' = []):=by
 refine Spec.frz (post':=fun d=>d = thD ⟨0,0,[⟨f,0,List.replicate u.loc.toNat 0⟩],[],0⟩) ?_
 refine Spec.by Tryz.func87 rfl (by decide) (by decide +kernel) rfl ?_
 refine goA ?_
 refine Call.mk ((frame118 p f u hu h0).only _ rfl (by rintro d rfl; rfl)) ?_
 rintro d os' ⟨rfl,rfl⟩
 refine goA ?_
 refine App.only false rfl rfl ?_
 refine goA ?_
 refine Ret.mk [.cell 4 42] rfl ?_; (refine goA ?_)
 exact ⟨thD ⟨0,0,[⟨f,0,List.replicate u.loc.toNat 0⟩],[],0⟩,View.agg (.cons (.same _) (.cons (.same _) (.cons (.same _) (.cons (.nils _ _) (.same _))))),rfl,rfl⟩
def pushT (t:Th) (v:Int):Th × Bool:=if t.sk.length = 16 then (t,false) else ({ t with sk:=t.sk ++ [keep v] },true)
theorem push40 (t:Th) (v:Int) (hl:t.sk.length * 8≤70368744177664):Spec Tryz.prog 213 [thD t,.int .i64 v] [] (fun d os'=>d = .tup [thD (pushT t v).1,.bool (pushT t v).2]∧os' = []):=by
 refine Spec.frz (post':=fun d=>d = .tup [thD (pushT t v).1,.bool (pushT t v).2]) ?_
 refine Spec.by Tryz.func213 rfl (by decide) (by decide +kernel) rfl ?_
 refine goA ?_
 refine Br.dec (fun h=>?_) (fun h=>?_)
 ·refine goA ?_
  refine Ret.mk [.cell 4 42,.tmp 5] rfl ?_; (refine goA ?_)
  have h':t.sk.length = 16:=by simp at h; omega
  simp only [pushT,if_pos h']
  exact ⟨_,View.same _,rfl,rfl⟩
 ·refine goA ?_
  refine Nm.mk (t.sk.map (D.int .i64)) (by rw [Int.toNat_natCast,List.take_length]; rfl) ?_
  refine goA ?_
  refine Call.mk (keep35 v _) ?_
  rintro d os' ⟨rfl,rfl⟩
  refine goA ?_
  refine App.only false rfl rfl ?_
  refine goA ?_
  refine App.only false rfl rfl ?_
  refine goA ?_
  refine Ret.mk [.cell 4 42,.tmp 5] rfl ?_; (refine goA ?_)
  have h':¬ t.sk.length = 16:=by simp at h; omega
  simp only [pushT,if_neg h']
  refine ⟨.tup [thD { t with sk:=t.sk ++ [keep v] },.bool true],View.tup (.cons (.agg (.cons (.same _) (.cons (.same _) (.cons (.same _) (.cons ?_ (.same _)))))) (.same _)),rfl,rfl⟩
  show View _ _ _ (D.lst 1 false ((t.sk ++ [keep v]).map (D.int .i64)))
  rw [List.map_append]
  exact .same _
def oddF (p:Pg) (f:Fm):Bool:=if f.fn < 0∨(p.fu.length:Int)≤f.fn then true else match p.fu[f.fn.toNat]? with
 | none=>true
 | some u=>decide (f.pc < 0) || decide ((u.code.length:Int) < f.pc) || decide ((f.ls.length:Int) ≠ u.loc) || !kept f.ls
@[reducible] def rowI (l:List Int):Fam:=one (.row 3 1 true (l.map (D.int .i64)))
@[reducible] def z29:D:=.agg [.int .i64 0,.int .i64 0,.nils,.nils,.int .i64 0]
def around (n m:Int):Int:=if n < 0 then (-(n+1)).tmod m else n.tmod m
theorem around33 (n m:Int) (hn:-9223372036854775808≤n∧n≤9223372036854775807) (hm:1≤m):Spec Tryz.prog 21 [.int .i64 n,.int .i64 m] [] (fun d os'=>d = .int .i64 (around n m)∧os' = []):=by
 refine Spec.by Tryz.func21 rfl (by decide) (by decide +kernel) rfl ?_
 refine goA ?_
 refine Br.dec (fun h=>?_) (fun h=>?_)
 ·refine goA ?_
  refine Ret.mk [.tmp _] rfl ?_; refine And.intro ?_ rfl
  simp [around,h]
 ·refine goA ?_
  refine Ret.mk [.tmp _] rfl ?_; refine And.intro ?_ rfl
  simp [around,h]
theorem around_lt (n m:Int) (hm:1≤m):0≤around n m∧around n m < m:=by
 unfold around
 split
 ·rw [Int.tmod_eq_emod_of_nonneg (by omega)]
  exact ⟨Int.emod_nonneg _ (by omega),Int.emod_lt_of_pos _ (by omega)⟩
 ·rw [Int.tmod_eq_emod_of_nonneg (by omega)]
  exact ⟨Int.emod_nonneg _ (by omega),Int.emod_lt_of_pos _ (by omega)⟩
def I64 (n:Int):Prop:=-9223372036854775808≤n∧n≤9223372036854775807
def small (to:Int) (l:List Int):Prop:=l.length≤4∧∀ v ∈ l,0≤v∧v≤to
theorem map_snoc (l:List Int) (v:Int):l.map (D.int .i64) ++ [D.int .i64 v] = (l ++ [v]).map (D.int .i64):=by simp
theorem things108 (xs:List Int) (to:Int) (hx:∀ v ∈ xs,I64 v) (hl:xs.length≤9223372036854775806) (ht:-1≤to∧to≤1000):Spec Tryz.prog 58 [ints xs,.int .i64 to] [] (fun d os'=>(∃ l,small to l∧d = ints l)∧os' = []):=by
 refine Spec.frz (post':=fun d=>∃ l,small to l∧d = ints l) ?_
 refine Spec.by Tryz.func58 rfl (by decide) (by decide +kernel) rfl ?_
 refine goA ?_
 refine Loop.inv (A:=Nat × List Int) [] (fun a=>[(6,.int .i64 (a.1:Int)),(5,.sl 0 0 1 0 a.2.length none)]) (fun a=>[rowI a.2]) (fun a=>a.1≤xs.length∧a.1≤4∧a.2.length = a.1∧∀ v ∈ a.2,0≤v∧v≤to) (fun a=>4 - a.1) (0,[]) ⟨Nat.zero_le _,by omega,rfl,by simp⟩ ?_ ?_
 ·refine Weak.trans (Weak.nilrow 5 rfl 3 1 true) ?_
  exact Weak.start' rfl rfl ⟨rfl,rfl,trivial⟩
 rintro ⟨i,l⟩ ⟨hi,h4,hil,hl4⟩
 dsimp only at hi h4 hil hl4 ⊢
 refine goA ?_
 refine Br.dec (fun h=>?_) (fun h=>?_)
 ·refine goR ?_
  refine Br.dec (fun h2=>?_) (fun h2=>?_)
  ·refine goR ?_
   refine Br.dec (fun h3=>?_) (fun h3=>?_)
   ·simp only [List.length_map] at h
    refine goA ?_
    refine Opt.of (get_map (List.getElem?_eq_getElem (l:=xs) (i:=i) (by omega))) ?_
    refine goR ?_
    refine Call.mk ((around33 xs[i] (to+1) (hx _ (List.getElem_mem _)) (by omega)).only _ rfl (by rintro d rfl; rfl)) ?_
    rintro d os' ⟨rfl,rfl⟩
    have hr:=around_lt xs[i] (to+1) (by omega)
    refine goR ?_
    refine App.only false rfl rfl ?_
    refine goA ?_
    refine ⟨_,_,_,?_,⟨(i+1,l ++ [around xs[i] (to+1)]),?_,rfl,rfl,rfl⟩,?_⟩
    ·show 4 - (i+1) < 4 - i
     omega
    ·refine ⟨by show i+1≤_; omega,by show i+1≤_; omega,by simp [hil],?_⟩
     intro v hv
     rcases List.mem_append.1 hv with hv | hv
     ·exact hl4 v hv
     ·simp at hv; subst hv; omega
    refine Weak.trans (Weak.shift 1 0 (by decide) (by simp) (bl rfl) (bl rfl) (fun j=>by cases j <;> rfl) rfl) ?_
    refine Weak.backT 1 (by simp) ?_ (by kernel_rfl) (bl rfl) ?_ (by kernel_rfl) (by kernel_rfl)
    ·exact congrArg (fun r=>([one (.row 3 1 true r)]:Objs)) (map_snoc _ _)
    ·refine ⟨rfl,?_,trivial⟩
     show D.sl 0 0 1 0 (l ++ [around xs[i] (to+1)]).length none = D.sl 0 0 1 0 (l.length+1) none
     simp
   ·refine goA ?_
    refine Ret.mk [.tmp 4] rfl ?_; (refine goA ?_)
    exact ⟨ints l,View.slAll rfl rfl (by simp) (by simp) (ViewL.same _) (pureL_map (fun _=>rfl) _),rfl,l,⟨by omega,hl4⟩,rfl⟩
  ·refine goA ?_
   refine Ret.mk [.tmp 4] rfl ?_; (refine goA ?_)
   exact ⟨ints l,View.slAll rfl rfl (by simp) (by simp) (ViewL.same _) (pureL_map (fun _=>rfl) _),rfl,l,⟨by omega,hl4⟩,rfl⟩
 ·refine goA ?_
  refine Ret.mk [.tmp 4] rfl ?_; (refine goA ?_)
  exact ⟨ints l,View.slAll rfl rfl (by simp) (by simp) (ViewL.same _) (pureL_map (fun _=>rfl) _),rfl,l,⟨by omega,hl4⟩,rfl⟩
def asksB (op:Int):Bool:=decide (op = 0) || (decide (5≤op) && decide (op≤9)) || decide (op = 11) || (decide (15≤op) && decide (op≤24))
theorem asks184 (op:Int):Spec Tryz.prog 101 [.int .i64 op] [] (fun d os'=>d = .bool (asksB op)∧os' = []):=by
 refine Spec.by Tryz.func101 rfl (by decide) (by decide +kernel) rfl ?_
 refine goA ?_
 repeat' (refine Br.dec (fun _=>?_) (fun _=>?_) <;> ((refine goA ?_)))
 all_goals (refine Ret.mk [.tmp _] rfl (And.intro (congrArg D.bool ?_) rfl); simp [asksB, *] <;> omega)
def mostF (g:Pg) (loc:Int) (cl:Nat) (op:Int):Int :=
 if op = 0 then 1073741825 else if op = 5∨op = 6 then loc else if op = 7∨op = 8 then cl+1 else if op = 9∨op = 11 then g.fu.length else if op = 15∨op = 16 then g.mu
 else if op = 17∨op = 18∨op = 19 then g.co.length else if op = 20∨op = 21 then g.se.length else if op = 22∨op = 23 then g.ch.length else if op = 24 then g.cs.length else 0
theorem most183 (g:Pg) (f:Fu) (op:Int) (hc:f.code.length≤9223372036854775806):Spec Tryz.prog 100 [pgD g,fuD f,.int .i64 op] [] (fun d os'=>d = .int .i64 (mostF g f.loc f.code.length op)∧os' = []):=by
 have hc':(f.code.map inD).length≤9223372036854775806:=by rw [List.length_map]; exact hc
 refine Spec.by Tryz.func100 rfl (by decide) (by decide +kernel) rfl ?_
 refine goA ?_
 repeat' (refine Br.dec (fun _=>?_) (fun _=>?_) <;> ((refine goA ?_)))
 all_goals (refine Ret.trim 0 (by simp) rfl (bl rfl) ?_; refine Ret.mk [.tmp _] rfl (And.intro (congrArg (D.int .i64) ?_) rfl); simp [mostF, *])
def inOk (nf:Nat) (g:Pg) (loc:Int) (cl:Nat) (x:Int × Int):Prop :=
 (0≤x.1∧x.1≤26)∧(-1073741824≤x.2∧x.2≤1073741824)∧(x.1 = 5∨x.1 = 6→0≤x.2∧x.2 < loc)∧(x.1 = 7∨x.1 = 8→0≤x.2∧x.2≤cl)∧(x.1 = 9∨x.1 = 11→0≤x.2∧x.2 < nf) ∧
 (x.1 = 15∨x.1 = 16→0≤x.2∧x.2 < g.mu)∧(x.1 = 17∨x.1 = 18∨x.1 = 19→0≤x.2∧x.2 < g.co.length)∧(x.1 = 20∨x.1 = 21→0≤x.2∧x.2 < g.se.length)∧(x.1 = 22∨x.1 = 23→0≤x.2∧x.2 < g.ch.length)∧(x.1 = 24→0≤x.2∧x.2 < g.cs.length) ∧
 (x.1 = 1∨x.1 = 2∨x.1 = 3∨x.1 = 4∨x.1 = 10∨x.1 = 12∨x.1 = 13∨x.1 = 14∨x.1 = 25∨x.1 = 26→x.2 = 0)
structure Szs (g:Pg):Prop where
 fu:1≤g.fu.length∧g.fu.length≤4
 mu:0≤g.mu∧g.mu≤3
 co:g.co.length≤4
 se:g.se.length≤4
 ch:g.ch.length≤4
 cs:g.cs.length≤4
theorem mostF_le (g:Pg) (hg:Szs g) (loc:Int) (hl:0≤loc∧loc≤3) (cl:Nat) (hc:cl≤24) (op:Int):0≤mostF g loc cl op∧mostF g loc cl op≤1073741825:=by
 obtain ⟨h1,h2,h3,h4,h5,h6⟩:=hg
 unfold mostF
 repeat' split
 all_goals omega
theorem instr_plain (g:Pg) (loc:Int) (cl:Nat) (op:Int) (ho:0≤op∧op < 27) (h:asksB op = false):inOk g.fu.length g loc cl (op,0):=by
 simp [asksB] at h
 unfold inOk
 dsimp only
 refine ⟨by omega,by omega,?_,?_,?_,?_,?_,?_,?_,?_,?_⟩ <;> omega
theorem instr_twelve (g:Pg) (loc:Int) (cl:Nat):inOk g.fu.length g loc cl (12,0):=by
 unfold inOk
 dsimp only
 refine ⟨by omega,by omega,?_,?_,?_,?_,?_,?_,?_,?_,?_⟩ <;> omega
theorem instr_zero (g:Pg) (loc:Int) (cl:Nat) (a:Int):inOk g.fu.length g loc cl (0,a.tmod 1000):=by
 have h:=Int.tmod_lt_of_pos a (show (0:Int) < 1000 by omega)
 have h':-1000 < a.tmod 1000:=Int.lt_tmod_of_pos a (by omega)
 unfold inOk
 dsimp only
 refine ⟨by omega,by omega,?_,?_,?_,?_,?_,?_,?_,?_,?_⟩ <;> omega
theorem instr_most (g:Pg) (hg:Szs g) (loc:Int) (hl:0≤loc∧loc≤3) (cl:Nat) (hc:cl≤24) (op a:Int) (ho:0≤op∧op < 27) (h0:op ≠ 0) (hk:asksB op = true) (hm:mostF g loc cl op ≠ 0):inOk g.fu.length g loc cl (op,around a (mostF g loc cl op)):=by
 have hle:=mostF_le g hg loc hl cl hc op
 have hr:=around_lt a (mostF g loc cl op) (by omega)
 generalize around a (mostF g loc cl op) = v at hr ⊢
 obtain ⟨h1,h2,h3,h4,h5,h6⟩:=hg
 simp [asksB] at hk
 unfold inOk
 dsimp only
 unfold mostF at hr hle hm
 refine ⟨by omega,by omega,?_,?_,?_,?_,?_,?_,?_,?_,?_⟩ <;> intro ho' <;> (repeat' (split at hr)) <;> omega
theorem instr109 (g:Pg) (hg:Szs g) (f:Fu) (x:Int × Int) (hl:0≤f.loc∧f.loc≤3) (hc:f.code.length≤24) (hx:I64 x.1∧I64 x.2):Spec Tryz.prog 59 [pgD g,fuD f,inD x] [] (fun d os'=>(∃ y,inOk g.fu.length g f.loc f.code.length y∧d = inD y)∧os' = []):=by
 refine Spec.frz (post':=fun d=>∃ y,inOk g.fu.length g f.loc f.code.length y∧d = inD y) ?_
 refine Spec.by Tryz.func59 rfl (by decide) (by decide +kernel) rfl ?_
 refine goA ?_
 refine Call.mk ((around33 x.1 27 hx.1 (by omega)).only _ rfl (by rintro d rfl; rfl)) ?_
 rintro d os' ⟨rfl,rfl⟩
 have ho:=around_lt x.1 27 (by omega)
 generalize around x.1 27 = op at ho ⊢
 refine goA ?_
 refine Call.mk ((most183 g f op (by omega)).only _ rfl (by rintro d rfl; rfl)) ?_
 rintro d os' ⟨rfl,rfl⟩
 have hle:=mostF_le g hg f.loc hl f.code.length hc op
 refine goA ?_
 refine Call.mk ((asks184 op).only _ rfl (by rintro d rfl; rfl)) ?_
 rintro d os' ⟨rfl,rfl⟩
 refine goA ?_
 refine Br.cs (fun h1_=>?_) (fun h1_=>?_) <;> have h1:=h1_ <;> simp at h1
 ·refine goA ?_
  refine Ret.mk [.cell 6 65] rfl ?_; (refine goA ?_)
  exact ⟨inD (op,0),View.same _,rfl,_,instr_plain g _ _ op ho h1,rfl⟩
 refine goA ?_
 refine Br.dec (fun h2=>?_) (fun h2=>?_)
 ·refine goA ?_
  refine Ret.mk [.cell 6 65] rfl ?_; (refine goA ?_)
  exact ⟨inD (12,0),View.same _,rfl,_,instr_twelve g _ _,rfl⟩
 refine goA ?_
 refine Br.dec (fun h3=>?_) (fun h3=>?_)
 ·refine goA ?_
  refine Ret.mk [.cell 6 65] rfl ?_; (refine goA ?_)
  exact ⟨inD (0,x.2.tmod 1000),View.same _,rfl,_,instr_zero g _ _ _,rfl⟩
 refine goA ?_
 refine Call.mk ((around33 x.2 (mostF g f.loc f.code.length op) hx.2 (by omega)).only _ rfl (by rintro d rfl; rfl)) ?_
 rintro d os' ⟨rfl,rfl⟩
 refine goA ?_
 refine Ret.mk [.cell 6 65] rfl ?_; (refine goA ?_)
 exact ⟨inD (op,around x.2 (mostF g f.loc f.code.length op)),View.same _,rfl,_,instr_most g hg f.loc hl f.code.length hc op x.2 ho h3 h1 h2,rfl⟩
theorem keep36 (n:Int) (os:Objs):Spec Tryz.prog 90 [.int .i64 n] os (fun d os'=>d = .int .i64 (keep n)∧os' = os):=by
 refine Spec.by Tryz.func90 rfl (by decide) (by decide +kernel) rfl ?_
 refine goA ?_
 repeat' (refine Br.dec (fun _=>?_) (fun _=>?_) <;> ((refine goA ?_)))
 all_goals (refine Ret.mk [.tmp _] rfl (And.intro (congrArg (D.int .i64) ?_) rfl); simp [keep, *] <;> omega)
theorem keep_range (n:Int):-1073741824≤keep n∧keep n≤1073741824:=by
 unfold keep; split <;> (try split) <;> omega
theorem keep_id (n:Int):n = keep n ↔ -1073741824≤n∧n≤1073741824:=by
 unfold keep; split <;> (try split) <;> omega
theorem kept_iff (xs:List Int):kept xs = true ↔ ∀ v ∈ xs,-1073741824≤v∧v≤1073741824:=by
 unfold kept
 simp only [Bool.not_eq_true',List.any_eq_false,decide_eq_true_eq,Decidable.not_not,keep_id]
def mayP (st code:Int) (fl sl:Nat):Prop:=0≤st∧st≤9∧0≤code∧code≤6∧(st = 9 ↔ fl = 0)∧(st = 9→sl = 0)∧(st ≠ 9→code = 0)∧fl≤8∧sl≤16
instance (st code:Int) (fl sl:Nat):Decidable (mayP st code fl sl):=by unfold mayP; infer_instance
def lok (l:List Int):Prop:=l.length * 8≤140737488351232∧∀ v ∈ l,I64 v
structure Pg.okB (p:Pg):Prop where
 fl:p.fu.length * 32≤140737488351232
 fu:∀ f ∈ p.fu,I64 f.loc∧f.code.length * 16≤140737488351232∧∀ x ∈ f.code,I64 x.1∧I64 x.2
 mu:I64 p.mu
 co:lok p.co
 se:lok p.se
 ch:lok p.ch
 cl:p.cs.length * 24≤140737488351232
 cs:∀ l ∈ p.cs,lok l
 th:I64 p.th
structure GoodP (g:Pg):Prop where
 sz:Szs g
 fu:∀ f ∈ g.fu,(0≤f.loc∧f.loc≤3)∧f.code.length≤24∧∀ x ∈ f.code,inOk g.fu.length g f.loc f.code.length x
 co:∀ v ∈ g.co,0≤v∧v < g.mu
 se:∀ v ∈ g.se,0≤v∧v≤3
 ch:∀ v ∈ g.ch,0≤v∧v≤3
 cs:∀ l ∈ g.cs,l ≠ []∧small (g.ch.length - 1) l
 th:1≤g.th∧g.th≤8
@[reducible] def rowC (l:List (List Int)):Fam:=one (.row 23 1 true (l.map ints))
@[reducible] def outD (fu:D) (mu:Int) (co se ch:List Int) (cs:D) (th:Int):Fam:=one (.row 26 7 false [.agg [fu,.int .i64 mu,ints co,ints se,ints ch,cs,.int .i64 th]])
@[reducible] def zP:D:=.agg [.nils,.int .i64 0,.nils,.nils,.nils,.nils,.int .i64 0]
def fuK (b:Nat):Nat→List Fu→List D
 | _,[]=>[]
 | k,f :: fs=>.agg [.int .i64 f.loc,.sl b k 2 0 f.code.length none] :: fuK b (k+1) fs
def fuR (fs:List Fu):List D:=fuK 5 0 fs
def fuC (fs:List Fu) (k:Nat):List D:=((fs[k]?).map (fun f=>f.code.map inD)).getD []
theorem fuK_length (b:Nat):∀ (k:Nat) (fs:List Fu),(fuK b k fs).length = fs.length
 | _,[]=>rfl
 | k,f :: fs=>by simp [fuK,fuK_length b (k+1) fs]
theorem fuK_get (b:Nat):∀ (k:Nat) (fs:List Fu) (i:Nat),(fuK b k fs)[i]? = (fs[i]?).map (fun f=>D.agg [.int .i64 f.loc,.sl b (k+i) 2 0 f.code.length none])
 | _,[],i=>by simp [fuK]
 | k,f :: fs,0=>by simp [fuK]
 | k,f :: fs,i+1=>by simp only [fuK,List.getElem?_cons_succ,fuK_get b (k+1) fs i]; rw [Nat.add_right_comm,Nat.add_assoc]
theorem fuK_snoc (b:Nat) (f:Fu):∀ (k:Nat) (fs:List Fu),fuK b k (fs ++ [f]) = fuK b k fs ++ [.agg [.int .i64 f.loc,.sl b (k+fs.length) 2 0 f.code.length none]]
 | _,[]=>rfl
 | k,g :: fs=>by simp only [List.cons_append,fuK,fuK_snoc b f (k+1) fs,List.length_cons]; rw [Nat.add_right_comm,Nat.add_assoc]
theorem fuK_lt (b n:Nat) (h:Nat.blt b n = true):∀ (k:Nat) (fs:List Fu),D.ltL n (fuK b k fs) = true
 | _,[]=>rfl
 | k,f :: fs=>by simp [fuK,D.ltL,D.lt,h,fuK_lt b n h (k+1) fs]
theorem fuK_names (b n:Nat) (h:Nat.beq b n = false):∀ (k:Nat) (fs:List Fu),D.namesL n (fuK b k fs) = false
 | _,[]=>rfl
 | k,f :: fs=>by simp [fuK,D.namesL,D.names,h,fuK_names b n h (k+1) fs]
theorem fuK_ren (b x y:Nat) (h:Nat.beq b x = false):∀ (k:Nat) (fs:List Fu),D.renL x y (fuK b k fs) = fuK b k fs
 | _,[]=>rfl
 | k,f :: fs=>by simp [fuK,D.renL,D.ren,h,fuK_ren b x y h (k+1) fs]
theorem fuK_swp (b a n:Nat) (h:Nat.beq b a = false):∀ (k:Nat) (fs:List Fu),k+fs.length≤n→D.mapIdL (swp a b n) (fuK b k fs) = fuK b k fs
 | _,[],_=>rfl
 | k,f :: fs,hl=>by
  have hk:k ≠ n:=by simp at hl; omega
  have e:swp a b n b k = (b,k):=swp_ne (fun e=>by rw [e.1,Nat.beq_refl] at h; simp at h) (fun e=>hk e.2)
  simp only [fuK,D.mapIdL,D.mapId,e,fuK_swp b a n h (k+1) fs (by simp at hl; omega)]
theorem fuC_snoc (fs:List Fu) (f:Fu):(fun k=>bif Nat.beq k fs.length then f.code.map inD else fuC fs k) = fuC (fs ++ [f]):=by
 funext k
 unfold fuC
 by_cases h:k = fs.length
 ·subst h; simp [Nat.beq_refl]
 ·rw [beq_ne h]
  simp only [cond_false]
  rcases Nat.lt_or_ge k fs.length with hk | hk
  ·rw [List.getElem?_append_left hk]
  ·rw [List.getElem?_eq_none hk,List.getElem?_eq_none (by simp; omega)]
theorem fuC_set (fs:List Fu) (i:Nat) (f:Fu) (h:i < fs.length):(fun k=>bif Nat.beq k i then f.code.map inD else fuC fs k) = fuC (fs.set i f):=by
 funext k
 unfold fuC
 rw [List.getElem?_set]
 by_cases hk:i = k
 ·subst hk; simp [Nat.beq_refl,h]
 ·rw [beq_ne (Ne.symm hk),if_neg hk]; rfl
theorem fuK_set (b:Nat) (f:Fu):∀ (k:Nat) (fs:List Fu) (i:Nat) (g:Fu),fs[i]? = some g→g.loc = f.loc→g.code.length = f.code.length→fuK b k (fs.set i f) = fuK b k fs
 | _,[],i,g,h,_,_=>by simp at h
 | k,x :: fs,0,g,h,h1,h2=>by simp at h; subst h; simp [fuK,h1,h2]
 | k,x :: fs,i+1,g,h,h1,h2=>by simp only [List.set_cons_succ,fuK]; rw [fuK_set b f (k+1) fs i g (by simpa using h) h1 h2]
theorem view_fu {F:Nat→Bool} {os:Objs} {fs:List Fu} {n:Nat} (hn:fs.length = n) (h4:os.at 4 0 = .row 68 2 false (fuR fs)) (h5:∀ j,os.at 5 j = .row 65 2 true (fuC fs j)) (F4:F 4 = true) (F5:F 5 = true):View F os (.sl 4 0 2 0 n none) (.lst 2 false (fs.map fuD)):=by
 refine View.slAll F4 h4 (by rw [fuR,fuK_length]; exact hn) (by simp) (ViewL.of (by rw [fuR,fuK_length,List.length_map]) (fun i d d' h1 h2=>?_)) (pureL_map (fun _=>rfl) _)
 rw [fuR,fuK_get] at h1
 rw [List.getElem?_map] at h2
 cases hf:fs[i]? with
 | none=>rw [hf] at h1; simp at h1
 | some f =>
  rw [hf] at h1 h2
  simp only [Option.map_some,Option.some.injEq] at h1 h2
  subst h1 h2
  refine View.agg (.cons (.same _) (.cons (View.slAll F5 (h5 (0+i)) (by simp [fuC,hf]) (by simp) ?_ (pureL_map (fun _=>rfl) _)) .nil))
  rw [Nat.zero_add]
  simp only [fuC,hf,Option.map_some,Option.getD_some]
  exact .same _
@[reducible] def P3:List (Nat × D):=[(1,.ptr 0 0 7 0 0),(2,.ptr 1 0 7 0 0),(3,.ptr 2 0 7 0 0)]
def rawF (f:Fu):Prop:=(0≤f.loc∧f.loc≤3)∧f.code.length≤24∧∀ x ∈ f.code,I64 x.1∧I64 x.2
@[reducible] def gO (p:Pg) (mu:Int) (co se ch:List Int) (cs:List (List Int)) (th:Int) (fu:D) (R:Fam) (C:Nat→List D) (r:Objs):Objs :=
 one (.row 26 7 false [pgD p]) :: one (.row 26 7 false [zP]) :: outD fu mu co se ch (.lst 1 false (cs.map ints)) (1+th) :: one .gone :: R :: .rows 65 2 C :: r
theorem mapIdL_append (φ:Nat→Nat→Nat × Nat):∀ (a b:List D),D.mapIdL φ (a ++ b) = D.mapIdL φ a ++ D.mapIdL φ b
 | [],b=>rfl
 | d :: a,b=>by simp only [List.cons_append,D.mapIdL,mapIdL_append φ a b]
theorem frame111 (p:Pg) (f:Nat) (u:Fu) (hu:p.fu[f]? = some u) (h0:0≤u.loc∧u.loc≤100):Spec Tryz.prog 102 [pgD p,.int .i64 f] [] (fun d os'=>d = .agg [.int .i64 f,.int .i64 0,.sl 0 0 1 0 u.loc.toNat none]∧os' = [rowI (List.replicate u.loc.toNat 0)]):=by
 refine Spec.weak (post:=fun d os'=>d = .agg [.int .i64 f,.int .i64 0,.sl 2 0 1 0 u.loc.toNat none]∧∃ a b:Fam,os' = [a,b,rowI (List.replicate u.loc.toNat 0)]) ?_ ?_
 ·refine Spec.by Tryz.func102 rfl (by decide) (by decide +kernel) rfl ?_
  refine goA ?_
  refine Opt.of (get_map hu) ?_
  refine goA ?_
  refine App.own ?_
  refine goA ?_
  refine Ret.mk [.cell 4 116] rfl ?_; (refine goA ?_)
  refine ⟨_,_,congrArg (fun r=>([_,_,one (.row 3 1 true r)]:Objs)) (?_:List.replicate u.loc.toNat (D.int .i64 0) = _)⟩
  rw [List.map_replicate]
 ·rintro d os' ⟨rfl,a,b,rfl⟩
  refine ⟨_,_,Weak.trans (Weak.frzK (fun i=>Nat.blt i 2) [] trivial) (Weak.trans (Weak.shift 2 0 (by decide) (by simp) (by simp [dropF]) (by simp [dropF]) (fun j=>by cases j <;> rfl) rfl) (Weak.trim 1 (by simp) rfl (by simp [dropF]))),rfl,rfl⟩
theorem frame111f (p:Pg) (f:Nat) (u:Fu) (hu:p.fu[f]? = some u) (h0:0≤u.loc∧u.loc≤100):Spec Tryz.prog 102 [pgD p,.int .i64 f] [] (fun d os'=>d = frD ⟨f,0,List.replicate u.loc.toNat 0⟩∧os' = []):=by
 refine Spec.frz (post':=fun d=>d = frD ⟨f,0,List.replicate u.loc.toNat 0⟩) ((frame111 p f u hu h0).mono ?_)
 rintro d os' ⟨rfl,rfl⟩
 exact ⟨_,View.agg (.cons (.same _) (.cons (.same _) (.cons (View.slAll rfl rfl (by simp) (by simp) (ViewL.same _) (pureL_map (fun _=>rfl) _)) .nil))),rfl,rfl⟩
theorem odd_not {g:Pg} {k:Nat} {u:Fu} (hu:g.fu[k]? = some u) {pc:Int} (hpc:0≤pc∧pc≤u.code.length) {l:List Int} (hl:l.length = u.loc.toNat) (h0:0≤u.loc) (hk:kept l = true):oddF g ⟨k,pc,l⟩ = false:=by
 have hkl:=(List.getElem?_eq_some_iff.1 hu).1
 unfold oddF
 dsimp only
 rw [if_neg (by omega),Int.toNat_natCast,hu]
 dsimp only
 rw [decide_eq_false (by omega),decide_eq_false (by omega),decide_eq_false (by omega),hk]
 rfl
structure GoodT (g:Pg) (x:Th):Prop where
 st:x.st = 0
 on:x.on = 0
 code:x.code = 0
 sk:x.sk.length≤16
 kp:kept x.sk = true
 fl:1≤x.fr.length∧x.fr.length≤8
 fr:∀ f ∈ x.fr,oddF g f = false
def enterT (t:Th) (f:Fm):Th × Bool:=if t.fr.length = 8 then (t,false) else ({ t with fr:=t.fr ++ [f] },true)
theorem enter39 (g:Pg) (t:Th) (k:Nat) (u:Fu) (hu:g.fu[k]? = some u) (h0:0≤u.loc∧u.loc≤100) (hl:t.fr.length * 40≤70368744177664):Spec Tryz.prog 216 [pgD g,thD t,.int .i64 k] [] (fun d os'=>d = .tup [thD (enterT t ⟨k,0,List.replicate u.loc.toNat 0⟩).1,.bool (enterT t ⟨k,0,List.replicate u.loc.toNat 0⟩).2]∧os' = []):=by
 refine Spec.frz (post':=fun d=>d = .tup [thD (enterT t ⟨k,0,List.replicate u.loc.toNat 0⟩).1,.bool (enterT t ⟨k,0,List.replicate u.loc.toNat 0⟩).2]) ?_
 refine Spec.by Tryz.func216 rfl (by decide) (by decide +kernel) rfl ?_
 refine goA ?_
 refine Br.dec (fun h=>?_) (fun h=>?_)
 ·refine goA ?_
  refine Ret.mk [.cell 6 42,.tmp 7] rfl ?_; (refine goA ?_)
  have h':t.fr.length = 8:=by simp at h; omega
  simp only [enterT,if_pos h']
  exact ⟨_,View.same _,rfl,rfl⟩
 ·refine goA ?_
  refine Nm.mk (t.fr.map frD) (by rw [Int.toNat_natCast,List.take_length]; rfl) ?_
  refine goA ?_
  refine Call.mk ((frame118 g k u hu h0).only _ rfl (by rintro d rfl; rfl)) ?_
  rintro d os' ⟨rfl,rfl⟩
  refine goA ?_
  refine App.only false rfl rfl ?_
  refine goA ?_
  refine App.only false rfl rfl ?_
  refine goA ?_
  refine Ret.mk [.cell 6 42,.tmp 7] rfl ?_; (refine goA ?_)
  have h':¬ t.fr.length = 8:=by simp at h; omega
  simp only [enterT,if_neg h']
  refine ⟨.tup [thD { t with fr:=t.fr ++ [⟨k,0,List.replicate u.loc.toNat 0⟩] },.bool true],View.tup (.cons (.agg (.cons (.same _) (.cons (.same _) (.cons ?_ (.same _))))) (.same _)),rfl,rfl⟩
  show View _ _ _ (D.lst 3 false ((t.fr ++ [_]).map frD))
  rw [List.map_append]
  exact .same _
theorem end34 (c:Int):Spec Tryz.prog 198 [.int .i64 c] [] (fun d os'=>d = thD ⟨9,0,[],[],c⟩∧os' = []):=by
 refine Spec.frz (post':=fun d=>d = thD ⟨9,0,[],[],c⟩) ?_
 refine Spec.by Tryz.func198 rfl (by decide) (by decide +kernel) rfl ?_
 refine goA ?_
 refine Ret.mk [.cell 2 42] rfl ?_; (refine goA ?_)
 exact ⟨thD ⟨9,0,[],[],c⟩,View.agg (.cons (.same _) (.cons (.same _) (.cons (.nils _ _) (.cons (.nils _ _) (.same _))))),rfl,rfl⟩
structure Lk where
 ow:List Int
 co:List Int
 lk:List (List Int)
 wq:List (List Int)
 dq:List (List Int)
@[reducible] def ths (l:List Th):D:=.lst 5 false (l.map thD)
@[reducible] def lists (A:List (List Int)):D:=.lst 1 false (A.map ints)
structure Cr where
 now:Int
 th:List Th
 L:Lk
 bu:List (List Int)
 sq:List (List Int)
 rq:List (List Int)
@[reducible] def lkV (C:Cr) (S:Lk):D:=.agg [.int .i64 C.now,ths C.th,ints S.ow,ints S.co,lists C.bu,lists S.lk,lists S.wq,lists S.dq,lists C.sq,lists C.rq]
@[reducible] def coreV (C:Cr):D:=lkV C C.L
abbrev Ev:=Int × Int × Int
@[reducible] def evD (e:Ev):D:=.agg [.int .i64 e.1,.int .i64 e.2.1,.int .i64 e.2.2]
@[reducible] def evs (l:List Ev):D:=.lst 3 false (l.map evD)
theorem Weak.drops {n0:Nat} {m:List (Nat × D)} {os os':Objs} (h:∀ i j,os'.at i j ≠ .gone→os'.at i j = os.at i j) (hl:os.length≤os'.length):Weak n0 { m:=m,objs:=os } { m:=m,objs:=os' }:=by
 intro ρ I w tm h1 h2 h3
 have h3':n0≤os.length:=h3
 have hh:∀ {i j},os'.at i j ≠ .gone→os.at i j ≠ .gone:=fun {i j} hne=>by rw [← h i j hne]; exact hne
 have hfoot:∀ c,foot ρ os' c→foot ρ os c:=by
  rintro c ⟨i,j,p,hne,hp,hpos,rfl⟩
  exact ⟨i,j,p,hh hne,hp,hpos,rfl⟩
 refine ⟨ρ,I,⟨h1.im,fun i j hne=>?_,fun i j i' j' p p' hne hne' hp hp' hpos hpos' he=>?_,fun c hc=>h1.apart c (hfoot c hc),fun i j hi=>h1.dom i j (Nat.le_trans hl hi)⟩,h2,Im.le_refl _,Nat.le_trans h3' hl,fun _ _ _=>rfl,fun _ h=>.inl h,hfoot⟩
 ·obtain ⟨p,hp,hok⟩:=h1.ok i j (hh hne)
  refine ⟨p,hp,?_⟩
  show objOk ρ I w p (os'.at i j)
  rw [h i j hne]; exact hok
 ·exact h1.inj i j i' j' p p' (hh hne) (hh hne') hp hp' hpos hpos' he
theorem Weak.dropAt {n0:Nat} {m:List (Nat × D)} {os:Objs} (k:Nat) (hk:k < os.length):Weak n0 { m:=m,objs:=os } { m:=m,objs:=os.put k 0 .gone } :=
 Weak.drops (fun i j hne=>by
  by_cases hc:i = k∧j = 0
  ·obtain ⟨rfl,rfl⟩:=hc
   exact absurd (at_put_self os 0 .gone hk) hne
  ·exact at_put_ne _ _ _ _ hc) (by rw [length_put]; exact Nat.le_refl _)
theorem pureTh (l:List Th):D.pureL (l.map thD) = true:=pureL_map (fun _=>rfl) _
@[reducible] def rowT (l:List Th):Fam:=one (.row 42 5 true (l.map thD))
theorem th_setn {l:List Th} {t:Nat} {f:Th}:O.row 42 5 true ((l.map thD).set (0+t) (thD f)) = O.row 42 5 true ((l.set t f).map thD):=by
 rw [Nat.zero_add,List.map_set]
theorem with95 (C:Cr) (t:Nat) (ht:t < C.th.length) (f:Th) (hl:C.th.length≤1000):Spec Tryz.prog 95 [coreV C,.int .i64 t,thD f] [] (fun d os'=>d = coreV { C with th:=C.th.set t f }∧os' = []):=by
 have hm:(C.th.map thD).length = C.th.length:=List.length_map ..
 have hg:(C.th.map thD)[0+t]? = some (thD C.th[t]):=by rw [Nat.zero_add]; exact get_map (List.getElem?_eq_getElem ht)
 refine Spec.frz (post':=fun d=>d = coreV { C with th:=C.th.set t f }) ?_
 refine Spec.by Tryz.func95 rfl (by decide) (by decide +kernel) rfl ?_
 refine goA ?_
 refine And.intro (fun h=>?_) (fun h=>?_)
 ·rw [List.map_eq_nil_iff.1 h] at ht; exact absurd ht (Nat.not_lt_zero _)
 ·refine And.intro (by rw [hm]; show C.th.length * 72≤_; omega) (And.intro (by omega) ?_)
  rw [pureTh]
  refine App.own ?_
  refine goA ?_
  refine Opt.of hg ?_
  refine goA ?_
  refine Ret.mk [.cell 6 30] rfl ?_; (refine goA ?_)
  refine ⟨_,.agg (.cons (.same _) (.cons (View.slAll (f:=false) rfl th_setn (by simp) (by simp) (ViewL.same _) (pureTh _)) (ViewL.same _))),rfl,rfl⟩
theorem idx212 (l:List Int) (v:Int) (hl:l.length≤1000000):Spec Tryz.prog 212 [ints l,.int .i64 v] [] (fun d os'=>d = idxD (l.findIdx? (fun x=>decide (v = x)))∧os' = []):=by
 have hm:(l.map (D.int .i64)).length = l.length:=List.length_map ..
 refine Spec.by Tryz.func212 rfl (by decide) (by decide +kernel) rfl ?_
 refine goA ?_
 refine Loop.inv (A:=Nat) [] (fun i=>[(8,.int .i64 (i:Int))]) (fun _=>[]) (fun i=>i≤l.length∧∀ x ∈ l.take i,decide (v = x) = false) (fun i=>l.length - i) 0 ⟨Nat.zero_le _,by simp⟩ (Weak.start tld) ?_
 intro i ⟨hi,hf⟩
 refine goA ?_
 refine Br.dec (fun h=>?_) (fun h=>?_)
 ·simp only [List.length_map] at h
  refine goA ?_
  refine Opt.of (get_map (List.getElem?_eq_getElem (l:=l) (i:=i) (by omega))) ?_
  refine goA ?_
  refine Br.cs (fun hb=>?_) (fun hb=>?_)
  ·refine goA ?_
   refine Ret.mk [.tmp _] rfl ?_; refine And.intro ?_ rfl
   rw [find_at (by omega) hb hf]
  ·refine goA ?_
   refine Loop.next (i+1) ?_ ?_ (Weak.back rfl tld rfl rfl)
   ·exact ⟨by omega,take_more (by omega) hb hf⟩
   ·omega
 ·refine goA ?_
  refine Ret.mk [.tmp _] rfl ?_; refine And.intro ?_ rfl
  rw [find_none (by simpa using h) hf]
theorem has156 (l:List Int) (v:Int) (hl:l.length≤1000000):Spec Tryz.prog 156 [ints l,.int .i64 v] [] (fun d os'=>d = .bool (decide (v ∈ l))∧os' = []):=by
 refine Spec.by Tryz.func156 rfl (by decide) (by decide +kernel) rfl ?_
 refine goA ?_
 refine Call.mk ((idx212 l v hl).only _ rfl (by rintro d rfl; rfl)) ?_; rintro d os' ⟨rfl,rfl⟩
 cases h:l.findIdx? (fun x=>decide (v = x)) with
 | none =>
  refine goA ?_
  refine Ret.mk [.tmp _] rfl ?_; refine And.intro ?_ rfl
  rw [List.findIdx?_eq_none_iff] at h
  refine congrArg D.bool ?_
  rw [decide_eq_false (p:=v ∈ l) (fun hc=>by have:=h v hc; simp at this)]
  rfl
 | some i =>
  refine goA ?_
  refine Ret.mk [.tmp _] rfl ?_; refine And.intro ?_ rfl
  rw [List.findIdx?_eq_some_iff_getElem] at h
  obtain ⟨h1,h2,_⟩:=h
  refine congrArg D.bool ?_
  rw [decide_eq_true (p:=v ∈ l) (by rw [of_decide_eq_true h2]; exact List.getElem_mem _)]
  exact decide_eq_true (by show (0:Int)≤(i:Int); omega)
theorem nan211 (v:Int):Spec Tryz.prog 211 [.int .i64 v] [] (fun d os'=>d = .bool false∧os' = []):=by
 have b1:decide (v = v) = true:=decide_eq_true rfl
 refine Spec.by Tryz.func211 rfl (by decide) (by decide +kernel) rfl ?_
 refine goA ?_
 refine Ret.mk [.tmp _] rfl ?_; refine And.intro ?_ rfl
 rw [b1]
 rfl
def cmpI (x y:Int):Int:=if x < y then -1 else if y < x then 1 else 0
theorem cmp154 (x y:Int):Spec Tryz.prog 154 [.int .i64 x,.int .i64 y] [] (fun d os'=>d = .int .i64 (cmpI x y)∧os' = []):=by
 unfold cmpI
 refine Spec.by Tryz.func154 rfl (by decide) (by decide +kernel) rfl ?_
 refine goA ?_
 refine Call.mk ((nan211 x).only _ rfl (by rintro d rfl; rfl)) ?_; rintro d os' ⟨rfl,rfl⟩
 refine goA ?_
 refine Call.mk ((nan211 y).only _ rfl (by rintro d rfl; rfl)) ?_; rintro d os' ⟨rfl,rfl⟩
 refine goA ?_
 refine Br.dec (fun h0=>?_) (fun h0=>?_)
 ·rw [if_pos h0]
  refine goA ?_
  refine Ret.mk [.tmp _] rfl ?_; refine And.intro ?_ rfl
  rfl
 ·rw [if_neg h0]
  refine goA ?_
  refine Br.dec (fun h1=>?_) (fun h1=>?_)
  ·rw [if_pos h1]
   refine goA ?_
   refine Ret.mk [.tmp _] rfl ?_; refine And.intro ?_ rfl
   rfl
  ·rw [if_neg h1]
   refine goA ?_
   refine Ret.mk [.tmp _] rfl ?_; refine And.intro ?_ rfl
   rfl
def inS (l:List Th) (s:Int):List Int:=((List.range l.length).filter (fun k=>decide ((l.getD k ⟨9,0,[],[],0⟩).st = s))).map Int.ofNat
def inSi (l:List Th) (s:Int) (i:Nat):List Int:=((List.range i).filter (fun k=>decide ((l.getD k ⟨9,0,[],[],0⟩).st = s))).map Int.ofNat
theorem inSi_s (l:List Th) (s:Int) (i:Nat) (h:i < l.length):inSi l s (i+1) = if l[i].st = s then inSi l s i ++ [(i:Int)] else inSi l s i:=by
 unfold inSi
 rw [List.range_succ,List.filter_append,List.map_append]
 have e:l.getD i ⟨9,0,[],[],0⟩ = l[i]:=by rw [List.getD_eq_getElem?_getD,List.getElem?_eq_getElem h]; rfl
 by_cases h2:l[i].st = s
 ·rw [if_pos h2,List.filter_cons,e,if_pos (decide_eq_true h2)]; rfl
 ·rw [if_neg h2,List.filter_cons,e,if_neg (by simpa using h2)]; simp
theorem inSi_len (l:List Th) (s:Int) (i:Nat):(inSi l s i).length≤i:=by
 unfold inSi
 rw [List.length_map]
 exact Nat.le_trans (List.length_filter_le ..) (by simp)
theorem in19 (C:Cr) (s:Int) (hl:C.th.length≤1000):Spec Tryz.prog 19 [coreV C,.int .i64 s] [] (fun d os'=>d = ints (inS C.th s)∧os' = []):=by
 have hm:(C.th.map thD).length = C.th.length:=List.length_map ..
 refine Spec.frz (post':=fun d=>d = ints (inS C.th s)) ?_
 refine Spec.by Tryz.func19 rfl (by decide) (by decide +kernel) rfl ?_
 refine goA ?_
 refine Loop.inv (A:=Nat × List Int) (List.range 27) (fun a=>[(1,.int .i64 s),(2,.ptr 0 0 10 0 0),(5,.sl 1 0 1 0 a.2.length none),(6,.int .i64 (a.1:Int))]) (fun a=>[one (.row 30 10 false [coreV C]),rowI a.2]) (fun a=>a.1≤C.th.length∧a.2 = inSi C.th s a.1) (fun a=>C.th.length - a.1) (0,[]) ⟨Nat.zero_le _,rfl⟩ ?_ ?_
 ·refine Weak.trans (Weak.nilrow 5 rfl 3 1 true) ?_
  exact Weak.start' rfl rfl tld
 rintro ⟨i,l⟩ ⟨hi,hle⟩
 dsimp only at hi hle ⊢
 have hil:l.length≤i:=hle ▸ inSi_len C.th s i
 have hlm:(l.map (D.int .i64)).length = l.length:=List.length_map ..
 refine goA ?_
 refine Br.dec (fun h0=>?_) (fun h0=>?_)
 ·have hlt:i < C.th.length:=by omega
  have hget:C.th[i]? = some C.th[i]:=List.getElem?_eq_getElem hlt
  have hs:=inSi_s C.th s i hlt
  refine goA ?_
  refine Opt.of (get_map hget) ?_
  refine goA ?_
  refine Br.dec (fun h1=>?_) (fun h1=>?_)
  ·rw [if_pos h1,← hle] at hs
   refine goA ?_
   refine App.only false rfl rfl ?_
   refine goA ?_
   refine ⟨_,_,_,?_,⟨(i+1,l ++ [(i:Int)]),?_,rfl,rfl,rfl⟩,?_⟩
   ·show C.th.length - (i+1) < C.th.length - i; omega
   ·exact ⟨hlt,hs.symm⟩
   ·refine Weak.trans (Weak.shift 2 1 (by decide) (by simp) (bl rfl) (bl rfl) (fun j=>by cases j <;> rfl) rfl) ?_
    refine Weak.backT 2 (by simp) ?_ (by kernel_rfl) (bl rfl) tld (by kernel_rfl) (by kernel_rfl)
    exact congrArg (fun r=>([one (.row 30 10 false [coreV C]),one (.row 3 1 true r)]:Objs)) (map_snoc _ _)
  ·rw [if_neg h1,← hle] at hs
   refine goA ?_
   refine ⟨_,_,_,?_,⟨(i+1,l),?_,rfl,rfl,rfl⟩,?_⟩
   ·show C.th.length - (i+1) < C.th.length - i; omega
   ·exact ⟨hlt,hs.symm⟩
   ·refine Weak.backT 2 (by simp) (by first | rfl | kernel_rfl) (by kernel_rfl) (bl rfl) tld (by kernel_rfl) (by kernel_rfl)
 ·have hi2:i = C.th.length:=by omega
  have hll:l = inS C.th s:=by rw [hle,hi2]; rfl
  refine goA ?_
  refine Ret.mk [.tmp 4] rfl ?_; (refine goA ?_)
  refine ⟨_,View.slAll (f:=false) rfl rfl hlm (by simp) (ViewL.same _) (pureL_map (fun _=>rfl) _),rfl,?_⟩
  rw [hll]
theorem in98 (l:List Int):Spec Tryz.prog 98 [ints l] [] (fun d os'=>d = .fn (.func 155) [] [.pel (ints l) 0]∧os' = []):=by
 refine Spec.frz (post':=fun d=>d = .fn (.func 155) [] [.pel (ints l) 0]) ?_
 refine Spec.by Tryz.func98 rfl (by decide) (by decide +kernel) rfl ?_
 refine goA ?_
 refine Ret.mk [.tmp 2] rfl ?_; (refine goA ?_)
 exact ⟨_,View.fn .nil (.cons (View.ptr rfl rfl rfl (.same _) rfl) .nil),rfl,rfl⟩
theorem in155 (f:Th) (l:List Int) (hl:l.length≤1000000):Spec Tryz.prog 155 [thD f,.pel (ints l) 0] [] (fun d os'=>d = .bool (decide (f.st ∈ l))∧os' = []):=by
 refine Spec.frz (post':=fun d=>d = .bool (decide (f.st ∈ l))) ?_
 refine Spec.by Tryz.func155 rfl (by decide) (by decide +kernel) rfl ?_
 refine goA ?_
 refine Call.mk ((has156 l f.st hl).only _ rfl (by rintro d rfl; rfl)) ?_; rintro d os' ⟨rfl,rfl⟩
 refine goA ?_
 refine Ret.mk [.tmp 3] rfl ?_; (refine goA ?_)
 exact ⟨_,.same _,rfl,rfl⟩
def ofi (T:List Th) (q:Th→Bool) (i:Nat):List Int:=((List.range i).filter (fun k=>q (T.getD k ⟨9,0,[],[],0⟩))).map Int.ofNat
def ofS (T:List Th) (q:Th→Bool):List Int:=ofi T q T.length
theorem ofi_s (T:List Th) (q:Th→Bool) (i:Nat) (h:i < T.length):ofi T q (i+1) = if q T[i] then ofi T q i ++ [(i:Int)] else ofi T q i:=by
 unfold ofi
 rw [List.range_succ,List.filter_append,List.map_append]
 have e:T.getD i ⟨9,0,[],[],0⟩ = T[i]:=by rw [List.getD_eq_getElem?_getD,List.getElem?_eq_getElem h]; rfl
 by_cases h2:q T[i] = true
 ·rw [if_pos h2,List.filter_cons,e,if_pos h2]; rfl
 ·rw [if_neg h2,List.filter_cons,e,if_neg h2]; simp
theorem ofi_len (T:List Th) (q:Th→Bool) (i:Nat):(ofi T q i).length≤i:=by
 unfold ofi
 rw [List.length_map]
 exact Nat.le_trans (List.length_filter_le ..) (by simp)
theorem of97w (C:Cr) (m:List Int) (hml:m.length≤1000) (hl:C.th.length≤1000):Spec Tryz.prog 97 [coreV C,.fn (.func 155) [] [.pel (ints m) 0]] [] (fun d os'=>d = .sl 0 0 1 0 (ofS C.th (fun x=>decide (x.st ∈ m))).length none∧os' = [rowI (ofS C.th (fun x=>decide (x.st ∈ m)))]):=by
 have hm:(C.th.map thD).length = C.th.length:=List.length_map ..
 obtain ⟨q,hq⟩:∃ q,(fun x:Th=>decide (x.st ∈ m)) = q:=⟨_,rfl⟩
 rw [hq]
 refine Spec.by Tryz.func97 rfl (by decide) (by decide +kernel) rfl ?_
 refine goA ?_
 refine Loop.inv (A:=Nat × List Int) (List.range 25) (fun c=>[(1,.fn (.func 155) [] [.pel (ints m) 0]),(9,ths C.th),(10,.int .i64 (C.th.map thD).length),(5,.sl 1 0 1 0 c.2.length none),(11,.int .i64 (c.1:Int))]) (fun c=>[one (.row 30 10 false [coreV C]),rowI c.2]) (fun c=>c.1≤C.th.length∧c.2 = ofi C.th q c.1) (fun c=>C.th.length - c.1) (0,[]) ⟨Nat.zero_le _,rfl⟩ ?_ ?_
 ·refine Weak.trans (Weak.nilrow 5 rfl 3 1 true) ?_
  exact Weak.start' rfl rfl tld
 rintro ⟨i,l⟩ ⟨hi,hle⟩
 dsimp only at hi hle ⊢
 have hil:l.length≤i:=hle ▸ ofi_len C.th q i
 have hlm:(l.map (D.int .i64)).length = l.length:=List.length_map ..
 refine goA ?_
 refine Br.dec (fun h0=>?_) (fun h0=>?_)
 ·have hlt:i < C.th.length:=by omega
  have hget:C.th[i]? = some C.th[i]:=List.getElem?_eq_getElem hlt
  have hs:=ofi_s C.th q i hlt
  refine goA ?_
  refine Opt.of (get_map hget) ?_
  refine goA ?_
  have hv:decide (C.th[i].st ∈ m) = q C.th[i]:=congrFun hq C.th[i]
  refine Call.mk ((in155 C.th[i] m (by omega)).only _ rfl (by rintro d rfl; rfl)) ?_; rintro d os' ⟨rfl,rfl⟩
  rw [hv]
  refine goA ?_
  refine Br.cs (fun h1=>?_) (fun h1=>?_)
  ·rw [if_pos h1,← hle] at hs
   refine goA ?_
   refine App.only false rfl rfl ?_
   refine goA ?_
   refine ⟨_,_,_,?_,⟨(i+1,l ++ [(i:Int)]),?_,rfl,rfl,rfl⟩,?_⟩
   ·show C.th.length - (i+1) < C.th.length - i; omega
   ·exact ⟨hlt,hs.symm⟩
   ·refine Weak.trans (Weak.shift 3 1 (by decide) (by simp) (bl rfl) (bl rfl) (fun j=>by cases j <;> rfl) rfl) ?_
    refine Weak.backT 2 (by simp) ?_ (by kernel_rfl) (bl rfl) tld (by kernel_rfl) (by kernel_rfl)
    exact congrArg (fun r=>([one (.row 30 10 false [coreV C]),one (.row 3 1 true r)]:Objs)) (map_snoc _ _)
  ·rw [if_neg (by rw [h1]; decide),← hle] at hs
   refine goA ?_
   refine ⟨_,_,_,?_,⟨(i+1,l),?_,rfl,rfl,rfl⟩,?_⟩
   ·show C.th.length - (i+1) < C.th.length - i; omega
   ·exact ⟨hlt,hs.symm⟩
   ·refine Weak.backT 2 (by simp) (by first | rfl | kernel_rfl) (by kernel_rfl) (bl rfl) tld (by kernel_rfl) (by kernel_rfl)
 ·have hi2:i = C.th.length:=by omega
  have hll:l = ofS C.th q:=by rw [hle,hi2]; rfl
  refine goA ?_
  refine Ret.weak (Weak.dropAt 0 (bl rfl)) ?_
  refine Ret.weak (Weak.shift 1 0 (by decide) (by simp) (bl rfl) (bl rfl) (fun j=>by cases j <;> rfl) rfl) ?_
  refine Ret.trim 1 (by simp) rfl (bl rfl) ?_
  rw [hll]
  exact Ret.mk [.tmp 4] rfl ⟨rfl,rfl⟩
theorem of97 (C:Cr) (m:List Int) (hml:m.length≤1000) (hl:C.th.length≤1000):Spec Tryz.prog 97 [coreV C,.fn (.func 155) [] [.pel (ints m) 0]] [] (fun d os'=>d = ints (ofS C.th (fun x=>decide (x.st ∈ m)))∧os' = []):=by
 refine Spec.frz (post':=fun d=>d = ints (ofS C.th (fun x=>decide (x.st ∈ m)))) ((of97w C m hml hl).mono ?_)
 rintro d os' ⟨rfl,rfl⟩
 exact ⟨_,View.slAll rfl rfl (List.length_map ..) (by simp) (ViewL.same _) (pureL_map (fun _=>rfl) _),rfl,rfl⟩
@[reducible] def ofK (C:Cr) (m:List Int):List Int:=ofS C.th (fun x=>decide (x.st ∈ m))
theorem ofK_len (C:Cr) (m:List Int):(ofK C m).length≤C.th.length:=ofi_len ..
def overK (C:Cr):Bool:=decide (((ofK C [9]).length:Int) = (C.th.length:Int))
theorem over53 (C:Cr) (hl:C.th.length≤1000):Spec Tryz.prog 53 [coreV C] [] (fun d os'=>d = .bool (overK C)∧os' = []):=by
 have hm:(C.th.map thD).length = C.th.length:=List.length_map ..
 have hm2:((ofK C [9]).map (D.int .i64)).length = (ofK C [9]).length:=List.length_map ..
 refine Spec.frz (post':=fun d=>d = .bool (overK C)) ?_
 refine Spec.by Tryz.func53 rfl (by decide) (by decide +kernel) rfl ?_
 refine goA ?_
 refine App.only false rfl rfl ?_
 refine goA ?_
 refine Call.mk ((in98 [9]).only _ rfl (by rintro d rfl; rfl)) ?_; rintro d os' ⟨rfl,rfl⟩
 refine goA ?_
 refine Call.mk ((of97 C [9] (by simp) hl).only _ rfl (by rintro d rfl; rfl)) ?_; rintro d os' ⟨rfl,rfl⟩
 refine goA ?_
 refine Ret.mk [.tmp 2] rfl ?_; (refine goA ?_)
 refine ⟨_,.same _,rfl,?_⟩
 rw [hm,hm2]
 rfl
@[reducible] def xD (g:Pg) (C:Cr) (t:Int) (ev:List Ev) (wk:List Int):D:=.agg [.lst 2 false (g.fu.map fuD),.int .i64 g.mu,ints g.co,ints g.se,ints g.ch,.lst 1 false (g.cs.map ints),.int .i64 g.th,.int .i64 C.now,ths C.th,ints C.L.ow,ints C.L.co,lists C.bu,lists C.L.lk,lists C.L.wq,lists C.L.dq,lists C.sq,lists C.rq,.int .i64 t,evs ev,ints wk]
theorem rest146 (g:Pg) (C:Cr) (u:Int) (ev:List Ev) (wk:List Int) (t:Nat) (ht:t < C.th.length) (hl:C.th.length≤1000) (st on:Int):Spec Tryz.prog 146 [xD g C u ev wk,.int .i64 t,.int .i64 st,.int .i64 on] [] (fun d os'=>d = xD g { C with th:=C.th.set t { C.th[t] with st:=st,on:=on } } u ev wk∧os' = []):=by
 have hg:(C.th.map thD)[t]? = some (thD C.th[t]):=get_map (List.getElem?_eq_getElem ht)
 have hm:(C.th.map thD).length = C.th.length:=List.length_map ..
 refine Spec.frz (post':=fun d=>d = xD g { C with th:=C.th.set t { C.th[t] with st:=st,on:=on } } u ev wk) ?_
 refine Spec.by Tryz.func146 rfl (by decide) (by decide +kernel) rfl ?_
 refine goA ?_
 refine Opt.of hg ?_
 refine goA ?_
 refine Call.mk ((with95 C t ht { C.th[t] with st:=st,on:=on } hl).only _ rfl (by rintro d rfl; rfl)) ?_; rintro d os' ⟨rfl,rfl⟩
 refine goA ?_
 refine Ret.mk [.cell 8 142] rfl ?_; (refine goA ?_)
 exact ⟨_,.same _,rfl,rfl⟩
theorem pureE (l:List Ev):D.pureL (l.map evD) = true:=pureL_map (fun _=>rfl) _
theorem row_snoc (l:List Ev) (e:Ev):O.row 84 3 true (l.map evD ++ [evD e]) = O.row 84 3 true ((l ++ [e]).map evD):=by
 rw [List.map_append]; rfl
theorem see151 (g:Pg) (C:Cr) (u:Int) (ev:List Ev) (wk:List Int) (k t n:Int) (hl:ev.length≤100000):Spec Tryz.prog 151 [xD g C u ev wk,.int .i64 k,.int .i64 t,.int .i64 n] [] (fun d os'=>d = xD g C u (ev ++ [(k,t,n)]) wk∧os' = []):=by
 have hm:(ev.map evD).length = ev.length:=List.length_map ..
 refine Spec.frz (post':=fun d=>d = xD g C u (ev ++ [(k,t,n)]) wk) ?_
 refine Spec.by Tryz.func151 rfl (by decide) (by decide +kernel) rfl ?_
 refine goA ?_
 refine And.intro (fun h=>?_) (fun h=>?_)
 ·have he:ev = []:=List.map_eq_nil_iff.1 h
  subst he
  refine goA ?_
  refine App.only false rfl rfl ?_
  refine goA ?_
  refine App.only false rfl rfl ?_
  refine goA ?_
  refine Ret.mk [.cell 8 142] rfl ?_; (refine goA ?_)
  exact ⟨_,.same _,rfl,rfl⟩
 ·refine And.intro (by rw [hm]; show ev.length * 24≤_; omega) (And.intro (by omega) ?_)
  rw [pureE]
  refine App.own ?_
  refine goA ?_
  refine App.only false rfl rfl ?_
  refine goA ?_
  refine Ret.mk [.cell 8 142] rfl ?_; (refine goA ?_)
  refine ⟨_,.agg (.cons (.same _) (.cons (.same _) (.cons (.same _) (.cons (.same _) (.cons (.same _) (.cons (.same _) (.cons (.same _) (.cons (.same _) (.cons (.same _) (.cons (.same _) (.cons (.same _) (.cons (.same _) (.cons (.same _) (.cons (.same _) (.cons (.same _) (.cons (.same _) (.cons (.same _) (.cons (.same _) (.cons (View.slAll (f:=false) rfl (row_snoc ev (k,t,n)) (by simp [setAll]) (by simp) (ViewL.same _) (pureE _)) (.cons (.same _) .nil)))))))))))))))))))),rfl,rfl⟩
theorem same34 (a:List Ev) (hl:a.length≤1000000):Spec Tryz.prog 34 [evs a,evs a] [] (fun d os'=>d = .bool true∧os' = []):=by
 have hm:(a.map evD).length = a.length:=List.length_map ..
 refine Spec.by Tryz.func34 rfl (by decide) (by decide +kernel) rfl ?_
 refine goA ?_
 refine Loop.inv (A:=Nat) (List.range 26) (fun i=>[(0,evs a),(1,evs a),(4,.bool false),(5,.int .i64 (i:Int))]) (fun i=>[]) (fun i=>i≤a.length) (fun i=>a.length - i) 0 (Nat.zero_le _) ?_ ?_
 ·exact Weak.start' rfl rfl tld
 rintro i hi
 refine goA ?_
 refine Br.dec (fun h0=>?_) (fun h0=>?_)
 ·have hil:i < a.length:=by omega
  have hget:a[i]? = some a[i]:=List.getElem?_eq_getElem hil
  refine goA ?_
  refine Opt.of (get_map hget) ?_
  refine goA ?_
  refine Opt.of (get_map hget) ?_
  refine goA ?_
  have b1:(!(decide (a[i].1 = a[i].1) && (decide (a[i].2.1 = a[i].2.1) && (decide (a[i].2.2 = a[i].2.2) && true)))) = false:=by simp
  rw [b1]
  refine goA ?_
  refine ⟨_,_,_,?_,⟨i+1,?_,rfl,rfl,rfl⟩,?_⟩
  ·show a.length - (i+1) < a.length - i; omega
  ·exact hil
  ·refine Weak.backT 0 (by simp) (by first | rfl | kernel_rfl) (by kernel_rfl) (bl rfl) tld (by kernel_rfl) (by kernel_rfl)
 ·refine goA ?_
  refine Ret.mk [.tmp _] rfl ?_; refine And.intro ?_ rfl
  rfl
theorem index131 (l:List Int) (v:Int) (hl:l.length≤1000000):Spec Tryz.prog 131 [ints l,.int .i64 v] [] (fun d os'=>d = idxD (l.findIdx? (fun x=>decide (v = x)))∧os' = []):=by
 have hm:(l.map (D.int .i64)).length = l.length:=List.length_map ..
 refine Spec.by Tryz.func131 rfl (by decide) (by decide +kernel) rfl ?_
 refine goA ?_
 refine Loop.inv (A:=Nat) (List.range 17) (fun i=>[(0,ints l),(1,.int .i64 v),(4,.int .i64 0),(5,.int .i64 (i:Int))]) (fun _=>[]) (fun i=>i≤l.length∧∀ x ∈ l.take i,decide (v = x) = false) (fun i=>l.length - i) 0 ⟨Nat.zero_le _,by simp⟩ ?_ ?_
 ·exact Weak.start' rfl rfl tld
 intro i ⟨hi,hf⟩
 refine goA ?_
 refine Br.dec (fun h=>?_) (fun h=>?_)
 ·simp only [List.length_map] at h
  refine goA ?_
  refine Opt.of (get_map (List.getElem?_eq_getElem (l:=l) (i:=i) (by omega))) ?_
  refine goA ?_
  refine Br.dec (fun hb=>?_) (fun hb=>?_)
  ·refine goA ?_
   refine Ret.mk [.tmp _] rfl ?_; refine And.intro ?_ rfl
   rw [find_at (q:=fun x=>decide (v = x)) (i:=i) (by omega) (decide_eq_true hb.symm) hf]
  ·refine goA ?_
   refine ⟨_,_,_,?_,⟨i+1,?_,rfl,rfl,rfl⟩,?_⟩
   ·show l.length - (i+1) < l.length - i; omega
   ·exact ⟨by omega,take_more (q:=fun x=>decide (v = x)) (by omega) (decide_eq_false (fun h=>hb h.symm)) hf⟩
   ·refine Weak.backT 0 (by simp) (by first | rfl | kernel_rfl) (by kernel_rfl) (bl rfl) tld (by kernel_rfl) (by kernel_rfl)
 ·refine goA ?_
  refine Ret.mk [.tmp _] rfl ?_; refine And.intro ?_ rfl
  rw [find_none (by simpa using h) hf]
theorem good29 (p:Pg) (hp:p.okB):Spec Tryz.prog 17 [pgD p] [] (fun d os'=>(∃ g,GoodP g∧d = pgD g)∧os' = []):=by
 refine Spec.frz (post':=fun d=>∃ g,GoodP g∧d = pgD g) ?_
 obtain ⟨h1,h2,h3,h4,h5,h6,h7,h8,h9⟩:=hp
 have lenL:∀ l:List Int,lok l→l.length≤9223372036854775806:=fun l h=>by have:=h.1; omega
 refine Spec.by Tryz.func17 rfl (by decide) (by decide +kernel) rfl ?_
 refine goA ?_
 refine Call.mk ((around33 p.mu 4 h3 (by omega)).only _ rfl (by rintro d rfl; rfl)) ?_
 rintro d os' ⟨rfl,rfl⟩
 have hmu:=around_lt p.mu 4 (by omega)
 generalize around p.mu 4 = mu at hmu ⊢
 refine goA ?_
 refine Call.mk ((things108 p.co (mu - 1) h4.2 (lenL _ h4) (by omega)).only _ rfl (by rintro d ⟨l,_,rfl⟩; rfl)) ?_
 rintro d os' ⟨⟨co,hco,rfl⟩,rfl⟩
 refine goA ?_
 refine Call.mk ((things108 p.se 3 h5.2 (lenL _ h5) (by omega)).only _ rfl (by rintro d ⟨l,_,rfl⟩; rfl)) ?_
 rintro d os' ⟨⟨se,hse,rfl⟩,rfl⟩
 refine goA ?_
 refine Call.mk ((things108 p.ch 3 h6.2 (lenL _ h6) (by omega)).only _ rfl (by rintro d ⟨l,_,rfl⟩; rfl)) ?_
 rintro d os' ⟨⟨ch,hch,rfl⟩,rfl⟩
 refine goA ?_
 refine Call.mk ((around33 p.th 8 h9 (by omega)).only _ rfl (by rintro d rfl; rfl)) ?_
 rintro d os' ⟨rfl,rfl⟩
 have hth:=around_lt p.th 8 (by omega)
 generalize around p.th 8 = th at hth ⊢
 refine goA ?_
 refine Loop.inv2 (A:=Nat × List (List Int)) 0 (List.range 196) (fun a=>(4,.int .i64 (a.1:Int)) :: P3) (fun a=>[one (.row 26 7 false [pgD p]),one (.row 26 7 false [zP]),outD .nils mu co se ch (.sl 3 0 1 0 a.2.length none) (1+th),rowC a.2])
  (fun a=>a.1≤p.cs.length∧a.1≤4∧a.2.length≤a.1∧∀ l ∈ a.2,l ≠ []∧small (ch.length - 1) l) (fun a=>a.2.length≤4∧∀ l ∈ a.2,l ≠ []∧small (ch.length - 1) l) (fun a=>4 - a.1) (0,[]) ⟨Nat.zero_le _,by omega,Nat.le_refl _,by simp⟩ ?_ ?_ ?_
 ·refine Weak.trans (Weak.nilO 2 3 rfl (es:=[.agg [.nils,.int .i64 mu,ints co,ints se,ints ch,.nils,.int .i64 (1+th)]]) rfl [.agg [.nils,.int .i64 mu,ints co,ints se,ints ch,.sl 3 0 1 0 0 none,.int .i64 (1+th)]] rfl (.cons (.agg (.cons (.same _ _) (.cons (.same _ _) (.cons (.same _ _) (.cons (.same _ _) (.cons (.same _ _) (.cons (.nils _ _) (.same _ _)))))))) (.same _ _)) 23 1 true) ?_
  exact Weak.start' rfl rfl tld
 ·intro cont
  rintro ⟨i,cs⟩ ⟨hi,hi4,hl,hcs⟩
  dsimp only at hi hi4 hl hcs ⊢
  refine goA ?_
  refine Br.dec (fun c1=>?_) (fun c1=>?_)
  ·refine goA ?_
   refine Br.dec (fun c2=>?_) (fun c2=>?_)
   ·simp only [List.length_map] at c1
    refine goA ?_
    have hget:p.cs[i]? = some (p.cs[i]'(by omega)):=List.getElem?_eq_getElem (by omega)
    have hin:=h8 _ (List.getElem_mem (l:=p.cs) (n:=i) (by omega))
    have hch4:=hch.1
    refine Opt.of (get_map hget) ?_
    refine goA ?_
    refine Call.mk ((things108 p.cs[i] (((ch.map (D.int .i64)).length:Int) - 1) hin.2 (lenL _ hin) (by rw [List.length_map]; omega)).only _ rfl (by rintro d ⟨l,_,rfl⟩; rfl)) ?_
    rintro d os' ⟨⟨own,hown,rfl⟩,rfl⟩
    rw [List.length_map] at hown
    have hown4:=hown.1
    refine goA ?_
    refine Loop.inv2 (A:=Nat × List Int) 2 (List.range 196) (fun a=>(7,.int .i64 (a.1:Int)) :: (6,.sl 4 0 1 0 a.2.length none) :: (4,.int .i64 (i:Int)) :: (5,ints own) :: P3) (fun a=>[one (.row 26 7 false [pgD p]),one (.row 26 7 false [zP]),outD .nils mu co se ch (.sl 3 0 1 0 cs.length none) (1+th),rowC cs,rowI a.2])
     (fun a=>a.1≤own.length∧a.2.length≤a.1∧∀ v ∈ a.2,0≤v∧v≤ch.length - 1) (fun a=>a.2.length≤4∧∀ v ∈ a.2,0≤v∧v≤ch.length - 1) (fun a=>own.length - a.1) (0,[]) ⟨Nat.zero_le _,Nat.le_refl _,by simp⟩ ?_ ?_ ?_
    ·refine Weak.trans (Weak.nilrow 6 rfl 3 1 true) ?_
     exact Weak.start' rfl rfl tld
    ·intro cont2
     rintro ⟨k,l⟩ ⟨hk,hlk,hlv⟩
     dsimp only at hk hlk hlv ⊢
     refine goA ?_
     refine Br.dec (fun c3=>?_) (fun c3=>?_)
     ·simp only [List.length_map] at c3
      refine goA ?_
      have hgk:own[k]? = some (own[k]'(by omega)):=List.getElem?_eq_getElem (by omega)
      refine Loop.inv2 (A:=Nat × Bool) 4 (List.range 196) (fun a=>(9,.int .i64 (a.1:Int)) :: (8,.bool a.2) :: (7,.int .i64 (k:Int)) :: (6,.sl 4 0 1 0 l.length none) :: (4,.int .i64 (i:Int)) :: (5,ints own) :: P3) (fun a=>[one (.row 26 7 false [pgD p]),one (.row 26 7 false [zP]),outD .nils mu co se ch (.sl 3 0 1 0 cs.length none) (1+th),rowC cs,rowI l])
       (fun a=>a.1≤l.length) (fun a=>True) (fun a=>l.length - a.1) (0,false) (Nat.zero_le _) (Weak.start tld) ?_ ?_
      ·intro cont3
       rintro ⟨j,b⟩ hj
       dsimp only at hj ⊢
       refine goA ?_
       refine Br.dec (fun c4=>?_) (fun c4=>?_)
       ·have hgj:l[0+j]? = some (l[j]'(by omega)):=by rw [Nat.zero_add]; exact List.getElem?_eq_getElem (by omega)
        refine goA ?_
        refine Br.cs (fun hb=>?_) (fun hb=>?_)
        ·refine goA ?_
         refine ⟨_,_,_,?_,⟨(j+1,b),?_,rfl,rfl,rfl⟩,?_⟩
         ·show l.length - (j+1) < l.length - j
          omega
         ·show j+1≤_
          omega
         ·subst hb
          refine Weak.backT 5 (by simp) (by first | rfl | kernel_rfl) (by kernel_rfl) (bl rfl) tld (by kernel_rfl) (by kernel_rfl)
        ·refine goA ?_
         refine Opt.of (get_map hgj) ?_
         refine goA ?_
         refine Opt.of (get_map hgk) ?_
         refine goA ?_
         refine ⟨_,_,_,?_,⟨(j+1,decide (l[j] = own[k])),?_,rfl,rfl,rfl⟩,?_⟩
         ·show l.length - (j+1) < l.length - j
          omega
         ·show j+1≤_
          omega
         ·refine Weak.backT 5 (by simp) (by first | rfl | kernel_rfl) (by kernel_rfl) (bl rfl) tld (by kernel_rfl) (by kernel_rfl)
       ·refine goR ?_
        refine Pt.weak ?_ (cont3.h (j,b) trivial)
        refine Weak.backT 5 (by simp) (by first | rfl | kernel_rfl) (by kernel_rfl) (bl rfl) tld (by kernel_rfl) (by kernel_rfl)
      ·rintro ⟨j,b⟩ _
       dsimp only
       refine goA ?_
       refine Br.cs (fun hb=>?_) (fun hb=>?_)
       ·refine goA ?_
        refine Opt.of (get_map hgk) ?_
        refine goA ?_
        refine App.only false rfl rfl ?_
        refine goA ?_
        refine ⟨_,_,_,?_,⟨(k+1,l ++ [own[k]]),?_,rfl,rfl,rfl⟩,?_⟩
        ·show own.length - (k+1) < own.length - k
         omega
        ·refine ⟨by show k+1≤_; omega,by simp; omega,fun v hv=>?_⟩
         rcases List.mem_append.1 hv with hv | hv
         ·exact hlv v hv
         ·simp at hv; subst hv; exact hown.2 _ (List.getElem_mem _)
        ·refine Weak.trans (Weak.shift 5 4 (by decide) (by simp) (bl rfl) (bl rfl) (fun j=>by cases j <;> rfl) rfl) ?_
         refine Weak.backT 5 (by simp) ?_ (by kernel_rfl) (bl rfl) tld (by kernel_rfl) (by kernel_rfl)
         exact congrArg (fun r=>([one (.row 26 7 false [pgD p]),one (.row 26 7 false [zP]),outD .nils mu co se ch (.sl 3 0 1 0 cs.length none) (1+th),rowC cs,one (.row 3 1 true r)]:Objs)) (map_snoc _ _)
       ·refine goA ?_
        refine ⟨_,_,_,?_,⟨(k+1,l),?_,rfl,rfl,rfl⟩,?_⟩
        ·show own.length - (k+1) < own.length - k
         omega
        ·exact ⟨by show k+1≤_; omega,by show l.length≤k+1; omega,hlv⟩
        ·refine Weak.backT 5 (by simp) (by first | rfl | kernel_rfl) (by kernel_rfl) (bl rfl) tld (by kernel_rfl) (by kernel_rfl)
     ·simp only [List.length_map] at c3
      refine goR ?_
      refine Pt.weak ?_ (cont2.h (k,l) ?_)
      ·refine Weak.backT 5 (by simp) (by first | rfl | kernel_rfl) (by kernel_rfl) (bl rfl) tld (by kernel_rfl) (by kernel_rfl)
      ·exact ⟨by show l.length≤4; omega,hlv⟩
    ·rintro ⟨k,l⟩ ⟨hl4,hlv⟩
     dsimp only at hl4 hlv ⊢
     refine goR ?_
     ((with_reducible refine Pt.go ?_); conv=>whnf)
     refine goR ?_
     refine Br.dec (fun c5=>?_) (fun c5=>?_)
     ·refine goR ?_
      refine Pt.weak (Weak.frzK (fun i=>Nat.beq i 4) [(6,ints l)] ⟨View.slAll rfl rfl (by simp) (by simp) (ViewL.same _) (pureL_map (fun _=>rfl) _),trivial⟩) ?_
      refine goA ?_
      refine App.only false rfl rfl ?_
      refine goA ?_
      refine ⟨_,_,_,?_,⟨(i+1,cs ++ [l]),?_,rfl,rfl,rfl⟩,?_⟩
      ·show 4 - (i+1) < 4 - i
       omega
      ·refine ⟨by show i+1≤_; omega,by show i+1≤4; omega,by simp; omega,fun v hv=>?_⟩
       rcases List.mem_append.1 hv with hv | hv
       ·exact hcs v hv
       ·simp at hv; subst hv
        exact ⟨fun e=>by subst e; simp at c5,hl4,hlv⟩
      ·refine Weak.trans (Weak.shift 5 3 (by decide) (by simp) (bl rfl) (bl rfl) (fun j=>by cases j <;> rfl) rfl) ?_
       refine Weak.backT 4 (by simp) ?_ (by kernel_rfl) (bl rfl) tld (by kernel_rfl) (by kernel_rfl)
       have e:cs.map ints ++ [ints l] = (cs ++ [l]).map ints:=by simp
       have e2:cs.length+1 = (cs ++ [l]).length:=by simp
       rw [← e2]
       exact congrArg (fun r=>([one (.row 26 7 false [pgD p]),one (.row 26 7 false [zP]),outD .nils mu co se ch (.sl 3 0 1 0 (cs.length+1) none) (1+th),one (.row 23 1 true r)]:Objs)) e
     ·refine goA ?_
      refine ⟨_,_,_,?_,⟨(i+1,cs),?_,rfl,rfl,rfl⟩,?_⟩
      ·show 4 - (i+1) < 4 - i
       omega
      ·exact ⟨by show i+1≤_; omega,by show i+1≤4; omega,by show cs.length≤i+1; omega,hcs⟩
      ·refine Weak.backT 4 (by simp) (by first | rfl | kernel_rfl) (by kernel_rfl) (bl rfl) tld (by kernel_rfl) (by kernel_rfl)
   ·refine goR ?_
    refine Pt.weak ?_ (cont.h (i,cs) ?_)
    ·refine Weak.backT 4 (by simp) (by first | rfl | kernel_rfl) (by kernel_rfl) (bl rfl) tld (by kernel_rfl) (by kernel_rfl)
    ·exact ⟨by show cs.length≤4; omega,hcs⟩
  ·refine goR ?_
   refine Pt.weak ?_ (cont.h (i,cs) ?_)
   ·refine Weak.backT 4 (by simp) (by first | rfl | kernel_rfl) (by kernel_rfl) (bl rfl) tld (by kernel_rfl) (by kernel_rfl)
   ·exact ⟨by show cs.length≤4; omega,hcs⟩
 ·rintro ⟨i,cs⟩ ⟨hcl,hcs⟩
  dsimp only at hcl hcs ⊢
  refine goR ?_
  refine Pt.weak (Weak.frzO (fun i=>Nat.beq i 3) [] 2 (ty:=26) (sz:=7) (es:=[.agg [.nils,.int .i64 mu,ints co,ints se,ints ch,.sl 3 0 1 0 cs.length none,.int .i64 (1+th)]]) rfl rfl [.agg [.nils,.int .i64 mu,ints co,ints se,ints ch,.lst 1 false (cs.map ints),.int .i64 (1+th)]] rfl ?_ trivial) ?_
  ·exact .cons (.agg (.cons (.same _) (.cons (.same _) (.cons (.same _) (.cons (.same _) (.cons (.same _) (.cons (View.slAll rfl rfl (by simp) (by simp) (ViewL.same _) (pureL_map (fun _=>rfl) _)) (.same _)))))))) .nil
  refine goA ?_
  refine Loop.inv2 (A:=Nat × List Fu) 6 (List.range 196) (fun a=>(10,.int .i64 (a.1:Int)) :: P3) (fun a=>gO p mu co se ch cs th (.sl 4 0 2 0 a.2.length none) (one (.row 68 2 false (fuR a.2))) (fuC a.2) [])
   (fun a=>a.1≤p.fu.length∧a.1≤4∧a.2.length = a.1∧∀ f ∈ a.2,rawF f) (fun a=>a.2.length≤4∧∀ f ∈ a.2,rawF f) (fun a=>4 - a.1) (0,[]) ⟨Nat.zero_le _,by omega,rfl,by simp⟩ ?_ ?_ ?_
  ·refine Weak.trans (Weak.nilO 2 4 rfl (es:=[.agg [.nils,.int .i64 mu,ints co,ints se,ints ch,.lst 1 false (cs.map ints),.int .i64 (1+th)]]) rfl [.agg [.sl 4 0 2 0 0 none,.int .i64 mu,ints co,ints se,ints ch,.lst 1 false (cs.map ints),.int .i64 (1+th)]] rfl (.cons (.agg (.cons (.nils _ _) (.same _ _))) (.same _ _)) 68 2 false) ?_
   refine Weak.trans (Weak.rows 65 2) ?_
   exact Weak.start' rfl rfl tld
  ·intro cont4
   rintro ⟨i,fs⟩ ⟨hi,hi4,hl,hfs⟩
   dsimp only at hi hi4 hl hfs ⊢
   refine goA ?_
   refine Br.dec (fun c6=>?_) (fun c6=>?_)
   ·refine goA ?_
    refine Br.dec (fun c7=>?_) (fun c7=>?_)
    ·simp only [List.length_map] at c6
     have hgf:p.fu[i]? = some (p.fu[i]'(by omega)):=List.getElem?_eq_getElem (by omega)
     have hin:=h2 _ (List.getElem_mem (l:=p.fu) (n:=i) (by omega))
     generalize p.fu[i] = f at hgf hin
     obtain ⟨hin1,hin2,hin3⟩:=hin
     refine goA ?_
     refine Opt.of (get_map hgf) ?_
     refine goA ?_
     refine Call.mk ((around33 f.loc 4 hin1 (by omega)).only _ rfl (by rintro d rfl; rfl)) ?_
     rintro d os' ⟨rfl,rfl⟩
     have hloc:=around_lt f.loc 4 (by omega)
     generalize around f.loc 4 = loc at hloc ⊢
     refine goA ?_
     refine Loop.inv2 (A:=Nat × List (Int × Int)) 8 (List.range 196) (fun a=>(12,.int .i64 (a.1:Int)) :: (10,.int .i64 (i:Int)) :: (11,.ptr 6 0 2 0 0) :: P3) (fun a=>gO p mu co se ch cs th (.sl 4 0 2 0 fs.length none) (one (.row 68 2 false (fuR fs))) (fuC fs) [one (.row 68 2 false [.agg [.int .i64 loc,.sl 7 0 2 0 a.2.length none]]),one (.row 65 2 true (a.2.map inD))])
      (fun a=>a.1≤f.code.length∧a.1≤24∧a.2.length = a.1∧∀ x ∈ a.2,I64 x.1∧I64 x.2) (fun a=>a.2.length≤24∧∀ x ∈ a.2,I64 x.1∧I64 x.2) (fun a=>24 - a.1) (0,[]) ⟨Nat.zero_le _,by omega,rfl,by simp⟩ ?_ ?_ ?_
     ·refine Weak.trans (Weak.nilO 6 7 rfl (es:=[.agg [.int .i64 loc,.nils]]) rfl [.agg [.int .i64 loc,.sl 7 0 2 0 0 none]] rfl (.cons (.agg (.cons (.same _ _) (.cons (.nils _ _) (.same _ _)))) (.same _ _)) 65 2 true) ?_
      exact Weak.start' rfl rfl tld
     ·intro cont5
      rintro ⟨k,code⟩ ⟨hk,hk24,hlc,hcode⟩
      dsimp only at hk hk24 hlc hcode ⊢
      refine goA ?_
      refine Opt.of (get_map hgf) ?_
      refine goA ?_
      refine Br.dec (fun c8=>?_) (fun c8=>?_)
      ·refine goA ?_
       refine Br.dec (fun c9=>?_) (fun c9=>?_)
       ·simp only [List.length_map] at c8
        have hgx:f.code[k]? = some (f.code[k]'(by omega)):=List.getElem?_eq_getElem (by omega)
        have hx:=hin3 _ (List.getElem_mem (l:=f.code) (n:=k) (by omega))
        generalize f.code[k] = x at hgx hx
        refine goA ?_
        refine Opt.of (get_map hgf) ?_
        refine goA ?_
        refine Opt.of (get_map hgx) ?_
        refine goA ?_
        refine App.only false rfl rfl ?_
        refine goA ?_
        refine ⟨_,_,_,?_,⟨(k+1,code ++ [x]),?_,rfl,rfl,rfl⟩,?_⟩
        ·show 24 - (k+1) < 24 - k
         omega
        ·refine ⟨by show k+1≤_; omega,by show k+1≤24; omega,by simp; omega,fun v hv=>?_⟩
         rcases List.mem_append.1 hv with hv | hv
         ·exact hcode v hv
         ·simp at hv; subst hv; exact hx
        ·refine Weak.trans (Weak.objs (os':=gO p mu co se ch cs th (.sl 4 0 2 0 fs.length none) (one (.row 68 2 false (fuR fs))) (fuC fs) [one (.row 68 2 false [.agg [.int .i64 loc,.sl 8 0 2 0 (code.length+1) none]]),one .gone,one (.row 65 2 true (code.map inD ++ [inD x]))]) (by kernel_rfl)) ?_
         refine Weak.trans (Weak.shift 8 7 (by decide) (by simp) (bl rfl) (bl rfl) (fun j=>by cases j <;> rfl) (by simp [Fam.names,O.names,D.namesL,D.names,fuR,fuK_names 5 7 rfl] <;> decide)) ?_
         refine Weak.trans (Weak.objs (os':=gO p mu co se ch cs th (.sl 4 0 2 0 fs.length none) (one (.row 68 2 false (fuR fs))) (fuC fs) [one (.row 68 2 false [.agg [.int .i64 loc,.sl 7 0 2 0 (code ++ [x]).length none]]),one (.row 65 2 true ((code ++ [x]).map inD)),one .gone]) ?_) ?_
         ·have e2:code.map inD ++ [inD x] = (code ++ [x]).map inD:=by simp
          have e3:code.length+1 = (code ++ [x]).length:=by simp
          rw [← e2,← e3]
          exact congrArg (fun r=>gO p mu co se ch cs th (.sl 4 0 2 0 fs.length none) (one (.row 68 2 false r)) (fuC fs) [one (.row 68 2 false [.agg [.int .i64 loc,.sl 7 0 2 0 (code.length+1) none]]),one (.row 65 2 true (code.map inD ++ [inD x])),one .gone]) (fuK_ren 5 8 7 rfl 0 fs)
         ·refine Weak.backT 8 (by simp) (by first | rfl | kernel_rfl) (by simp [Fam.lt,O.lt,D.lt,D.ltL,fuR,fuK_lt 5 8 rfl] <;> decide) (bl rfl) tld (by kernel_rfl) (by kernel_rfl)
       ·refine goR ?_
        refine Pt.weak ?_ (cont5.h (k,code) ?_)
        ·refine Weak.backT 8 (by simp) (by first | rfl | kernel_rfl) (by simp [Fam.lt,O.lt,D.lt,D.ltL,fuR,fuK_lt 5 8 rfl] <;> decide) (bl rfl) tld (by kernel_rfl) (by kernel_rfl)
        ·exact ⟨by show code.length≤24; omega,hcode⟩
      ·refine goR ?_
       refine Pt.weak ?_ (cont5.h (k,code) ?_)
       ·refine Weak.backT 8 (by simp) (by first | rfl | kernel_rfl) (by simp [Fam.lt,O.lt,D.lt,D.ltL,fuR,fuK_lt 5 8 rfl] <;> decide) (bl rfl) tld (by kernel_rfl) (by kernel_rfl)
       ·exact ⟨by show code.length≤24; omega,hcode⟩
     ·rintro ⟨k,code⟩ ⟨hcl24,hcode⟩
      dsimp only at hcl24 hcode ⊢
      have hR:(fuR fs).length = fs.length:=by rw [fuR,fuK_length]
      refine goA ?_
      refine App.own ?_
      refine goA ?_
      subst hl
      refine ⟨_,_,_,?_,⟨(fs.length+1,fs ++ [(⟨loc,code⟩:Fu)]),?_,rfl,rfl,rfl⟩,?_⟩
      ·show 4 - (fs.length+1) < 4 - fs.length
       omega
      ·refine ⟨by show fs.length+1≤_; omega,by show fs.length+1≤4; omega,by simp,fun v hv=>?_⟩
       rcases List.mem_append.1 hv with hv | hv
       ·exact hfs v hv
       ·simp at hv; subst hv; exact ⟨by show 0≤loc∧loc≤3; omega,hcl24,hcode⟩
      ·refine Weak.trans (Weak.objs (os':=gO p mu co se ch cs th (.sl 9 0 2 0 (fs.length+1) none) (one .gone) (fuC fs) [one (.row 68 2 false [.agg [.int .i64 loc,.sl 7 0 2 0 code.length none]]),one (.row 65 2 true (code.map inD)),one (.row 68 2 false [.agg [.int .i64 loc,.sl 7 0 2 0 code.length none]]),one (.row 68 2 false (fuR fs ++ [.agg [.int .i64 loc,.sl 7 0 2 0 code.length none]]))]) (by kernel_rfl)) ?_
       refine Weak.trans (Weak.swap 7 5 fs.length (by decide) (by simp) (by simp) (bl rfl) (bl rfl) (fun j=>rfl)) ?_
       refine Weak.trans (Weak.objs (os':=gO p mu co se ch cs th (.sl 9 0 2 0 (fs.length+1) none) (one .gone) (fuC (fs ++ [(⟨loc,code⟩:Fu)])) [one (.row 68 2 false [.agg [.int .i64 loc,.sl 5 fs.length 2 0 code.length none]]),one (.row 65 2 true (fuC fs fs.length)),one (.row 68 2 false [.agg [.int .i64 loc,.sl 5 fs.length 2 0 code.length none]]),one (.row 68 2 false (fuR (fs ++ [(⟨loc,code⟩:Fu)])))]) ?_) ?_
       ·have e1:D.mapIdL (swp 7 5 fs.length) (fuR fs ++ [D.agg [.int .i64 loc,.sl 7 0 2 0 code.length none]]) = fuR (fs ++ [(⟨loc,code⟩:Fu)]):=by
         rw [mapIdL_append,fuR,fuK_swp 5 7 _ rfl 0 fs (by omega),fuR,fuK_snoc,Nat.zero_add]
         rfl
        rw [← fuC_snoc fs ⟨loc,code⟩]
        exact congrArg (fun r=>gO p mu co se ch cs th (.sl 9 0 2 0 (fs.length+1) none) (one .gone) (fun k=>bif Nat.beq k fs.length then code.map inD else fuC fs k) [one (.row 68 2 false [.agg [.int .i64 loc,.sl 5 fs.length 2 0 code.length none]]),one (.row 65 2 true (fuC fs fs.length)),one (.row 68 2 false [.agg [.int .i64 loc,.sl 5 fs.length 2 0 code.length none]]),one (.row 68 2 false r)]) e1
       ·refine Weak.trans (Weak.shift 9 4 (by decide) (by simp) (bl rfl) (bl rfl) (fun j=>by cases j <;> rfl) (by simp [Fam.names,O.names,D.namesL,D.names,fuR,fuK_names 5 4 rfl] <;> decide)) ?_
        refine Weak.trans (Weak.objs (os':=gO p mu co se ch cs th (.sl 4 0 2 0 (fs ++ [(⟨loc,code⟩:Fu)]).length none) (one (.row 68 2 false (fuR (fs ++ [(⟨loc,code⟩:Fu)])))) (fuC (fs ++ [(⟨loc,code⟩:Fu)])) [one (.row 68 2 false [.agg [.int .i64 loc,.sl 5 fs.length 2 0 code.length none]]),one (.row 65 2 true (fuC fs fs.length)),one (.row 68 2 false [.agg [.int .i64 loc,.sl 5 fs.length 2 0 code.length none]]),one .gone]) ?_) ?_
        ·have e3:fs.length+1 = (fs ++ [(⟨loc,code⟩:Fu)]).length:=by simp
         rw [← e3]
         exact congrArg (fun r=>gO p mu co se ch cs th (.sl 4 0 2 0 (fs.length+1) none) (one (.row 68 2 false r)) (fuC (fs ++ [(⟨loc,code⟩:Fu)])) [one (.row 68 2 false [.agg [.int .i64 loc,.sl 5 fs.length 2 0 code.length none]]),one (.row 65 2 true (fuC fs fs.length)),one (.row 68 2 false [.agg [.int .i64 loc,.sl 5 fs.length 2 0 code.length none]]),one .gone]) (fuK_ren 5 9 4 rfl 0 _)
        ·refine Weak.backT 6 (by simp) (by first | rfl | kernel_rfl) (by simp [Fam.lt,O.lt,D.lt,D.ltL,fuR,fuK_lt 5 6 rfl] <;> decide) (bl rfl) tld (by kernel_rfl) (by kernel_rfl)
    ·refine goR ?_
     refine Pt.weak ?_ (cont4.h (i,fs) ?_)
     ·refine Weak.backT 6 (by simp) (by first | rfl | kernel_rfl) (by simp [Fam.lt,O.lt,D.lt,D.ltL,fuR,fuK_lt 5 6 rfl] <;> decide) (bl rfl) tld (by kernel_rfl) (by kernel_rfl)
     ·exact ⟨by show fs.length≤4; omega,hfs⟩
   ·refine goR ?_
    refine Pt.weak ?_ (cont4.h (i,fs) ?_)
    ·refine Weak.backT 6 (by simp) (by first | rfl | kernel_rfl) (by simp [Fam.lt,O.lt,D.lt,D.ltL,fuR,fuK_lt 5 6 rfl] <;> decide) (bl rfl) tld (by kernel_rfl) (by kernel_rfl)
    ·exact ⟨by show fs.length≤4; omega,hfs⟩
  ·rintro ⟨i,fs⟩ ⟨hfl,hfs⟩
   dsimp only at hfl hfs ⊢
   have hR:(fuR fs).length = fs.length:=by rw [fuR,fuK_length]
   refine goA ?_
   refine Br.dec (fun c10=>?_) (fun c10=>?_)
   ·refine goA ?_
    refine App.only false rfl rfl ?_
    refine goA ?_
    refine Loop.inv (A:=Nat) (List.range 196) (fun i=>(13,.int .i64 (i:Int)) :: P3) (fun i=>gO p mu co se ch cs th (.lst 2 false [.agg [.int .i64 0,.nils]]) (one (.row 68 2 false (fuR fs))) (fuC fs) []) (fun i=>i≤1) (fun i=>1 - i) 0 (Nat.zero_le _) ?_ ?_
    ·exact Weak.start' rfl rfl tld
    intro i hi
    refine goA ?_
    refine Br.dec (fun c11=>?_) (fun c11=>?_)
    ·obtain rfl:i = 0:=by simp at c11; omega
     refine goA ?_
     refine Loop.inv (A:=Unit) (List.range 196) (fun _=>(15,.int .i64 0) :: (13,.int .i64 ((0:Nat):Int)) :: (14,.ptr 6 0 2 0 0) :: P3) (fun _=>gO p mu co se ch cs th (.lst 2 false [.agg [.int .i64 0,.nils]]) (one (.row 68 2 false (fuR fs))) (fuC fs) [one (.row 68 2 false [.agg [.int .i64 0,.nils]])]) (fun _=>True) (fun _=>0) () trivial ?_ ?_
     ·exact Weak.start' rfl rfl tld
     intro _ _
     refine goA ?_
     refine ⟨_,_,_,?_,⟨(0+1),?_,rfl,rfl,rfl⟩,?_⟩
     ·show 1 - (0+1) < 1 - 0
      omega
     ·show 0+1≤1
      omega
     ·refine Weak.backT 6 (by simp) (by first | rfl | kernel_rfl) (by simp [Fam.lt,O.lt,D.lt,D.ltL,fuR,fuK_lt 5 6 rfl] <;> decide) (bl rfl) tld (by kernel_rfl) (by kernel_rfl)
    ·refine goA ?_
     refine Ret.mk [.cell 2 26] rfl ?_; (refine goA ?_)
     refine ⟨pgD ⟨[⟨0,[]⟩],mu,co,se,ch,cs,1+th⟩,View.agg (.cons (View.lst (by simp) (.cons (.agg (.cons (.same _) (.cons (.nils _ _) .nil))) .nil) rfl) (.same _)),rfl,_,?_,rfl⟩
     refine ⟨⟨by simp,by show 0≤mu∧mu≤3; omega,hco.1,hse.1,hch.1,hcl⟩,?_,fun v hv=>by have:=hco.2 v hv; show 0≤v∧v < mu; omega,hse.2,hch.2,hcs,by show 1≤1+th∧1+th≤8; omega⟩
     intro f hf
     simp at hf
     subst hf
     exact ⟨by decide,by decide,by simp⟩
   ·have hne:fs ≠ []:=fun e=>c10 (by rw [e]; rfl)
    refine goA ?_
    refine Loop.inv (A:=Nat × List Fu) (List.range 196) (fun a=>(13,.int .i64 (a.1:Int)) :: P3) (fun a=>gO p mu co se ch cs th (.sl 4 0 2 0 a.2.length none) (one (.row 68 2 false (fuR a.2))) (fuC a.2) [])
     (fun a=>a.1≤a.2.length∧a.2.length = fs.length∧∀ j f,a.2[j]? = some f→rawF f∧(j < a.1→∀ x ∈ f.code,inOk fs.length ⟨[],mu,co,se,ch,cs,1+th⟩ f.loc f.code.length x)) (fun a=>fs.length - a.1) (0,fs) ⟨Nat.zero_le _,rfl,fun j f hj=>⟨hfs f (List.mem_of_getElem? hj),fun h=>by omega⟩⟩ ?_ ?_
    ·exact Weak.start' rfl rfl tld
    rintro ⟨i,fs'⟩ ⟨hi,hlen,hall⟩
    dsimp only at hi hlen hall ⊢
    refine goA ?_
    refine Br.dec (fun c11=>?_) (fun c11=>?_)
    ·obtain ⟨f,hgf⟩:∃ f,fs'[i]? = some f:=⟨_,List.getElem?_eq_getElem (by omega)⟩
     have hraw:=(hall i f hgf).1
     have hc24:=hraw.2.1
     have hgR:(fuR fs')[0+i]? = some (.agg [.int .i64 f.loc,.sl 5 i 2 0 f.code.length none]):=by rw [Nat.zero_add,fuR,fuK_get,hgf,Nat.zero_add]; rfl
     refine goA ?_
     refine Opt.of hgR ?_
     refine goA ?_
     refine Loop.inv (A:=Nat × List (Int × Int)) (List.range 196) (fun a=>(15,.int .i64 (a.1:Int)) :: (13,.int .i64 (i:Int)) :: (14,.ptr 6 0 2 0 0) :: P3) (fun a=>gO p mu co se ch cs th (.sl 4 0 2 0 fs'.length none) (one (.row 68 2 false (fuR fs'))) (fuC (fs'.set i ⟨f.loc,a.2⟩)) [one (.row 68 2 false [.agg [.int .i64 f.loc,.sl 5 i 2 0 f.code.length none]])])
      (fun a=>a.1≤f.code.length∧a.2.length = f.code.length∧∀ m x,a.2[m]? = some x→(I64 x.1∧I64 x.2)∧(m < a.1→inOk fs.length ⟨[],mu,co,se,ch,cs,1+th⟩ f.loc f.code.length x)) (fun a=>f.code.length - a.1) (0,f.code) ⟨Nat.zero_le _,rfl,fun m x hm=>⟨hraw.2.2 x (List.mem_of_getElem? hm),fun h=>by omega⟩⟩ ?_ ?_
     ·have e:fs'.set i ⟨f.loc,f.code⟩ = fs':=by
       apply List.ext_getElem?
       intro j
       rw [List.getElem?_set]
       by_cases hj:i = j
       ·subst hj; rw [if_pos rfl,if_pos (by omega),hgf]
       ·rw [if_neg hj]
      refine Weak.trans (Weak.objs (os':=gO p mu co se ch cs th (.sl 4 0 2 0 fs'.length none) (one (.row 68 2 false (fuR fs'))) (fuC (fs'.set i ⟨f.loc,f.code⟩)) [one (.row 68 2 false [.agg [.int .i64 f.loc,.sl 5 i 2 0 f.code.length none]])]) (by rw [e] <;> kernel_rfl)) ?_
      exact Weak.start' rfl rfl tld
     rintro ⟨k,c⟩ ⟨hk,hlc,hc⟩
     dsimp only at hk hlc hc ⊢
     refine goA ?_
     refine Br.dec (fun c12=>?_) (fun c12=>?_)
     ·obtain ⟨x,hgx⟩:∃ x,c[k]? = some x:=⟨_,List.getElem?_eq_getElem (by omega)⟩
      have hC:fuC (fs'.set i ⟨f.loc,c⟩) i = c.map inD:=by unfold fuC; rw [List.getElem?_set_self (by omega)]; rfl
      have hCk:(fuC (fs'.set i ⟨f.loc,c⟩) i)[0+k]? = some (inD x):=by rw [hC,Nat.zero_add]; exact get_map hgx
      have hfR:fuR (fs'.set i ⟨f.loc,c⟩) = fuR fs':=fuK_set 5 ⟨f.loc,c⟩ 0 fs' i f hgf rfl hlc.symm
      have hlen':(fs'.set i (⟨f.loc,c⟩:Fu)).length = fs'.length:=List.length_set ..
      have hSz:Szs ⟨fs'.set i ⟨f.loc,c⟩,mu,co,se,ch,cs,1+th⟩:=⟨⟨by show 1≤(fs'.set i _).length; rw [hlen']; omega,by show (fs'.set i _).length≤4; rw [hlen']; omega⟩,by show 0≤mu∧mu≤3; omega,hco.1,hse.1,hch.1,hcl⟩
      refine goA ?_
      refine Opt.of hCk ?_
      refine goA ?_
      refine Call.mk ((instr109 ⟨fs'.set i ⟨f.loc,c⟩,mu,co,se,ch,cs,1+th⟩ hSz ⟨f.loc,c⟩ x hraw.1 (by show c.length≤24; have:=hraw.2.1; omega) (hc k x hgx).1).read (.cons (View.agg (.cons (view_fu hlen' (by rw [hfR]; rfl) (fun j=>rfl) rfl rfl) (.same _))) (.cons (View.agg (.cons (.same _) (.cons (View.slAll rfl (t:=65) (pr:=true) (es:=fuC (fs'.set i ⟨f.loc,c⟩) i) rfl (by rw [hC,List.length_map]; exact hlc) (by simp) (by rw [hC]; exact .same _) (pureL_map (fun _=>rfl) _)) .nil))) (.same _))) rfl (by rintro d ⟨y,_,rfl⟩; exact ⟨rfl,rfl⟩)) ?_
      rintro d os' ⟨⟨y,hy,rfl⟩,rfl⟩
      refine goA ?_
      refine Opt.of hCk ?_
      refine goA ?_
      refine ⟨_,_,_,?_,⟨(k+1,c.set k y),?_,rfl,rfl,rfl⟩,?_⟩
      ·show f.code.length - (k+1) < f.code.length - k
       omega
      ·refine ⟨by show k+1≤_; omega,by rw [List.length_set]; exact hlc,fun m x' hm=>?_⟩
       dsimp only at hm ⊢
       rw [List.getElem?_set] at hm
       rw [hlen',hlen] at hy
       by_cases hkm:k = m
       ·subst hkm
        rw [if_pos rfl,if_pos (by have:=(List.getElem?_eq_some_iff.1 hgx).1; omega)] at hm
        cases hm
        rw [hlc] at hy
        exact ⟨⟨⟨by have:=hy.1; omega,by have:=hy.1; omega⟩,⟨by have:=hy.2.1; omega,by have:=hy.2.1; omega⟩⟩,fun _=>hy⟩
       ·rw [if_neg hkm] at hm
        exact ⟨(hc m x' hm).1,fun h=>(hc m x' hm).2 (by have h':m < k+1:=h; omega)⟩
      ·have e1:(fuC (fs'.set i ⟨f.loc,c⟩) i).set (0+k) (inD y) = (c.set k y).map inD:=by rw [hC,Nat.zero_add,List.map_set]
       have e2:=fuC_set (fs'.set i ⟨f.loc,c⟩) i ⟨f.loc,c.set k y⟩ (by rw [hlen']; omega)
       rw [List.set_set] at e2
       refine Weak.trans (Weak.objs (os':=gO p mu co se ch cs th (.sl 4 0 2 0 fs'.length none) (one (.row 68 2 false (fuR fs'))) (fuC (fs'.set i ⟨f.loc,c.set k y⟩)) [one (.row 68 2 false [.agg [.int .i64 f.loc,.sl 5 i 2 0 f.code.length none]])]) (by rw [← e2,← e1] <;> kernel_rfl)) ?_
       refine Weak.backT 7 (by simp) (by first | rfl | kernel_rfl) (by simp [Fam.lt,O.lt,D.lt,D.ltL,fuR,fuK_lt 5 7 rfl] <;> decide) (bl rfl) tld (by kernel_rfl) (by kernel_rfl)
     ·have hlen':(fs'.set i (⟨f.loc,c⟩:Fu)).length = fs'.length:=List.length_set ..
      have hfR:fuR (fs'.set i ⟨f.loc,c⟩) = fuR fs':=fuK_set 5 ⟨f.loc,c⟩ 0 fs' i f hgf rfl hlc.symm
      refine goA ?_
      refine ⟨_,_,_,?_,⟨(i+1,fs'.set i ⟨f.loc,c⟩),?_,rfl,rfl,rfl⟩,?_⟩
      ·show fs.length - (i+1) < fs.length - i
       omega
      ·refine ⟨by show i+1≤_; rw [hlen']; omega,by show (fs'.set i _).length = _; rw [hlen']; exact hlen,fun j g hj=>?_⟩
       dsimp only at hj ⊢
       rw [List.getElem?_set] at hj
       by_cases hij:i = j
       ·subst hij
        rw [if_pos rfl,if_pos (by omega)] at hj
        cases hj
        refine ⟨⟨hraw.1,by show c.length≤24; omega,fun x hx=>?_⟩,fun _ x hx=>?_⟩
        ·obtain ⟨m,hm⟩:=List.getElem?_of_mem hx
         exact (hc m x hm).1
        ·obtain ⟨m,hm⟩:=List.getElem?_of_mem hx
         have hml:m < c.length:=(List.getElem?_eq_some_iff.1 hm).1
         have:=(hc m x hm).2 (by simp at c12; omega)
         rw [← hlc] at this
         exact this
       ·rw [if_neg hij] at hj
        exact ⟨(hall j g hj).1,fun h=>(hall j g hj).2 (by have h':j < i+1:=h; omega)⟩
      ·refine Weak.trans (Weak.objs (os':=gO p mu co se ch cs th (.sl 4 0 2 0 (fs'.set i ⟨f.loc,c⟩).length none) (one (.row 68 2 false (fuR (fs'.set i ⟨f.loc,c⟩)))) (fuC (fs'.set i ⟨f.loc,c⟩)) [one (.row 68 2 false [.agg [.int .i64 f.loc,.sl 5 i 2 0 f.code.length none]])]) (by rw [hfR,hlen'] <;> kernel_rfl)) ?_
       refine Weak.backT 6 (by simp) (by first | rfl | kernel_rfl) (by simp [Fam.lt,O.lt,D.lt,D.ltL,fuR,fuK_lt 5 6 rfl] <;> decide) (bl rfl) tld (by kernel_rfl) (by kernel_rfl)
    ·refine goA ?_
     refine Ret.mk [.cell 2 26] rfl ?_; (refine goA ?_)
     refine ⟨pgD ⟨fs',mu,co,se,ch,cs,1+th⟩,View.agg (.cons (view_fu rfl rfl (fun j=>rfl) rfl rfl) (.same _)),rfl,_,?_,rfl⟩
     have hn4:1≤fs'.length∧fs'.length≤4:=by
      have:0 < fs.length:=List.length_pos_iff.2 hne
      omega
     refine ⟨⟨hn4,by show 0≤mu∧mu≤3; omega,hco.1,hse.1,hch.1,hcl⟩,?_,fun v hv=>by have:=hco.2 v hv; show 0≤v∧v < mu; omega,hse.2,hch.2,hcs,by show 1≤1+th∧1+th≤8; omega⟩
     intro f hf
     obtain ⟨j,hj⟩:=List.getElem?_of_mem hf
     have hjl:j < fs'.length:=(List.getElem?_eq_some_iff.1 hj).1
     have hx:=hall j f hj
     refine ⟨hx.1.1,hx.1.2.1,fun x hxm=>?_⟩
     have:=hx.2 (by omega) x hxm
     rw [← hlen] at this
     exact this
theorem odd_ls {g:Pg} (hg:GoodP g) {f:Fm} (h:oddF g f = false):f.ls.length≤3:=by
 unfold oddF at h
 split at h
 ·simp at h
 ·split at h
  ·simp at h
  ·rename_i u hu
   simp at h
   have:=(hg.fu u (List.mem_of_getElem? hu)).1
   omega
theorem good_okB {g:Pg} (hg:GoodP g) {x:Th} (hx:GoodT g x):x.okB:=⟨by have:=hx.fl; omega,by have:=hx.sk; omega,fun f hf=>by have:=odd_ls hg (hx.fr f hf); omega⟩
theorem good_ok {g:Pg} (hg:GoodP g) {x:Th} (hx:GoodT g x):x.ok:=⟨by have:=hx.fl; omega,by have:=hx.sk; omega,fun f hf=>by have:=odd_ls hg (hx.fr f hf); unfold Fm.ok; omega⟩
theorem pop52 (t:Th) (s:List Int) (v:Int) (hs:t.sk = s ++ [v]) (hl:s.length≤1000000):Spec Tryz.prog 214 [thD t] [] (fun d os'=>d = .tup [thD { t with sk:=s },.int .i64 v,.bool true]∧os' = []):=by
 refine Spec.frz (post':=fun d=>d = .tup [thD { t with sk:=s },.int .i64 v,.bool true]) ?_
 have hlen:(t.sk.map (D.int .i64)).length = s.length+1:=by rw [hs]; simp
 have e:((((t.sk.map (D.int .i64)).length:Nat):Int) - 1).toNat = s.length:=by omega
 have hget:t.sk[((((t.sk.map (D.int .i64)).length:Nat):Int) - 1).toNat]? = some v:=by rw [e,hs]; simp
 refine Spec.by Tryz.func214 rfl (by decide) (by decide +kernel) rfl ?_
 refine goA ?_
 refine Opt.of (get_map hget) ?_
 refine goA ?_
 refine Nm.mk (s.map (D.int .i64)) (by show s.map (D.int .i64) = ((t.sk.map (D.int .i64)).take ((((t.sk.map (D.int .i64)).length:Nat):Int) - 1).toNat).drop 0; rw [List.drop_zero,e,hs,List.map_append,List.take_left' (by simp)]) ?_
 refine goA ?_
 refine Ret.mk [.cell 2 42,.tmp 3,.tmp 4] rfl ?_; (refine goA ?_)
 exact ⟨.tup [thD { t with sk:=s },.int .i64 v,.bool true],View.tup (.cons (.agg (.cons (.same _) (.cons (.same _) (.cons (.same _) (.cons (View.lst (by simp) (.same _) (pureL_map (fun _=>rfl) _)) (.same _)))))) (.same _)),rfl,rfl⟩
theorem leave54 (t:Th) (s:List Fm) (f:Fm) (hs:t.fr = s ++ [f]) (hl:s.length≤1000000):Spec Tryz.prog 217 [thD t] [] (fun d os'=>d = .tup [thD { t with fr:=s },.bool (decide (0 < (((t.fr.map frD).length:Nat):Int) - 1))]∧os' = []):=by
 refine Spec.frz (post':=fun d=>d = .tup [thD { t with fr:=s },.bool (decide (0 < (((t.fr.map frD).length:Nat):Int) - 1))]) ?_
 have hlen:(t.fr.map frD).length = s.length+1:=by rw [hs]; simp
 have e:((((t.fr.map frD).length:Nat):Int) - 1).toNat = s.length:=by omega
 refine Spec.by Tryz.func217 rfl (by decide) (by decide +kernel) rfl ?_
 refine goA ?_
 refine Nm.mk (s.map frD) (by show s.map frD = ((t.fr.map frD).take ((((t.fr.map frD).length:Nat):Int) - 1).toNat).drop 0; rw [List.drop_zero,e,hs,List.map_append,List.take_left' (by simp)]) ?_
 refine goA ?_
 refine Ret.mk [.cell 2 42,.tmp 3] rfl ?_; (refine goA ?_)
 exact ⟨.tup [thD { t with fr:=s },.bool (decide (0 < (((t.fr.map frD).length:Nat):Int) - 1))],View.tup (.cons (.agg (.cons (.same _) (.cons (.same _) (.cons (View.lst (by simp) (.same _) (pureL_map (fun _=>rfl) _)) (.same _))))) (.same _)),rfl,rfl⟩
theorem end55 (t:Th) (c:Int):Spec Tryz.prog 106 [thD t,.int .i64 c] [] (fun d os'=>d = thD ⟨9,0,[],[],c⟩∧os' = []):=by
 refine Spec.frz (post':=fun d=>d = thD ⟨9,0,[],[],c⟩) ?_
 refine Spec.by Tryz.func106 rfl (by decide) (by decide +kernel) rfl ?_
 refine goA ?_
 refine Ret.mk [.cell 4 42] rfl ?_; (refine goA ?_)
 exact ⟨thD ⟨9,0,[],[],c⟩,View.agg (.cons (.same _) (.cons (.same _) (.cons (.nils _ _) (.cons (.nils _ _) (.same _))))),rfl,rfl⟩
theorem Weak.only {n0:Nat} {m:List (Nat × D)} {os:Objs} (sl:List (Nat × D)) (os':Objs) (ho:os = os') (h:told m sl):Weak n0 { m:=m,objs:=os } { m:=sl,objs:=os' }:=by
 subst ho
 refine Weak.slots rfl (fun i=>?_)
 cases hc:(sl.map (·.1)).contains i with
 | true=>exact .inr (told_look h hc)
 | false=>exact .inl (look_not_mem hc)
structure Rg (room a n:Int) (L c:List Int):Prop where
 rm:0≤room∧room≤1024
 nl:n = c.length
 cl:c.length≤L.length
 ll:(L.length:Int)≤room
 at0:0≤a
 atl:L = []∧a = 0∨a < L.length
 el:∀ i,i < c.length→L[(a.toNat+i) % L.length]? = c[i]?
theorem Rg.grow {room a n:Int} {L c:List Int} (h:Rg room a n L c) (hn:(c.length:Int) < room) (v:Int):Rg room 0 (n+1) (c ++ [v]) (c ++ [v]):=by
 have h1:=h.nl
 refine ⟨h.rm,by simp; omega,Nat.le_refl _,by simp; omega,Int.le_refl _,.inr (by simp),fun i hi=>?_⟩
 rw [show (0:Int).toNat = 0 from rfl,Nat.zero_add,Nat.mod_eq_of_lt hi]
theorem Rg.put {room a n:Int} {L c:List Int} (h:Rg room a n L c) (hn:c.length < L.length) (v:Int):Rg room a (n+1) (L.set ((a.toNat+c.length) % L.length) v) (c ++ [v]):=by
 obtain ⟨h1,h2,h3,h4,h5,h6,h7⟩:=id h
 have hal:a < L.length:=by
  rcases h6 with ⟨rfl,_⟩ | h6
  ·simp at hn
  ·exact h6
 refine ⟨h1,by simp; omega,by simp; omega,by simp; omega,h5,.inr (by simp; omega),fun i hi=>?_⟩
 rw [List.length_set]
 have hmod:∀ x,x < L.length→(a.toNat+x) % L.length = if a.toNat+x < L.length then a.toNat+x else a.toNat+x - L.length:=fun x hx=>by
  split
  ·rename_i hh; exact Nat.mod_eq_of_lt hh
  ·rename_i hh; rw [Nat.mod_eq_sub_mod (by omega),Nat.mod_eq_of_lt (by omega)]
 rw [List.length_append,List.length_singleton] at hi
 by_cases hic:i = c.length
 ·subst hic
  rw [List.getElem?_set_self (Nat.mod_lt _ (by omega))]
  simp
 ·have hne:¬ (a.toNat+c.length) % L.length = (a.toNat+i) % L.length:=by
   rw [hmod c.length hn,hmod i (by omega)]
   split <;> split <;> omega
  rw [List.getElem?_set_ne hne,h7 i (by omega),List.getElem?_append_left (by omega)]
theorem Call.cut {f:FuncId} {args:List D} {os:Objs} {K:D→Objs→Prop} {post:D→Objs→Prop} {A:Type} {n0:Nat} {K2:St→Prop} (S:A→List (Nat × D)) (O:A→Objs) (Q:A→Prop)
  (h:Spec Tryz.prog f args os post) (hk:∀ d os',post d os'→(∀ a,Q a→Pt n0 { m:=S a,objs:=O a } K2)→K d os') (key:∀ a,Q a→Pt n0 { m:=S a,objs:=O a } K2):Call Tryz.prog f args os K :=
 .mk h fun d os' hp=>hk d os' hp key
theorem cutG {A:Type} {n0:Nat} {K2:St→Prop} {G:Prop} (S:A→List (Nat × D)) (O:A→Objs) (Q:A→Prop) (hk:(∀ a,Q a→Pt n0 { m:=S a,objs:=O a } K2)→G) (key:∀ a,Q a→Pt n0 { m:=S a,objs:=O a } K2):G:=hk key
theorem Weak.on {n0:Nat} {m:List (Nat × D)} {os:Objs} (sl:List (Nat × D)) (os':Objs) (ho:os = os':=by kernel_rfl) (h:told m sl:=by repeat (first | exact trivial | refine And.intro (by first | rfl | exact congrArg (fun n=>D.sl _ _ _ _ n none) List.length_append | exact congrArg _ (by omega)) ?_)):Weak n0 { m:=m,objs:=os } { m:=sl,objs:=os' }:=Weak.only sl os' ho h
theorem Pt.on {n0:Nat} {m:List (Nat × D)} {os:Objs} {K:St→Prop} (sl:List (Nat × D)) (os':Objs) (hk:Pt n0 { m:=sl,objs:=os' } K) (ho:os = os':=by kernel_rfl) (h:told m sl:=by repeat (first | exact trivial | refine And.intro (by first | rfl | exact congrArg (fun n=>D.sl _ _ _ _ n none) List.length_append | exact congrArg _ (by omega)) ?_)):Pt n0 { m:=m,objs:=os } K:=Pt.weak (Weak.only sl os' ho h) hk
theorem Weak.fin {n0:Nat} {m0 sl:List (Nat × D)} {os0 os:Objs} (n:Nat) (ho':os0.take n = os:=by kernel_rfl) (hn:n0≤n:=by simp) (ho:(os0.take n).all (fun F=>F.lt n) = true:=by kernel_rfl) (hl:n≤os0.length:=by exact bl rfl)
  (hsl:told (trimM n m0) sl:=by repeat (first | exact trivial | refine And.intro (by first | rfl | exact congrArg (fun n=>D.sl _ _ _ _ n none) List.length_append | exact congrArg _ (by omega)) ?_)):Weak n0 { m:=m0,objs:=os0 } { m:=sl,objs:=os } :=
 Weak.trans (Weak.trim n hn ho hl) (Weak.only sl os ho' hsl)
theorem Weak.shf {n0:Nat} {m:List (Nat × D)} {os:Objs} {u:St} (a b:Nat) (hk:Weak n0 { m:=renM a b (forgetM b m),objs:=((os.map (Fam.ren a b)).set b ((os.getD a (.one .gone)).ren a b)).set a (.one .gone) } u)
  (hab:a ≠ b:=by decide) (hb0:n0≤b:=by simp) (ha:a < os.length:=by exact bl rfl) (hb:b < os.length:=by exact bl rfl) (hgone:∀ j,os.at b j = .gone:=by intro j; cases j <;> rfl) (ho:os.all (fun F=>!F.names b) = true:=by rfl):Weak n0 { m:=m,objs:=os } u :=
 Weak.trans (Weak.shift a b hab hb0 ha hb hgone ho) hk
theorem erC {τ:Tau} {l:List Oper} {s:St} {j:Nat} {b:Prop} (hb:b) (ha:earlyC τ l s j:=by ((conv=>whnf); refine ⟨⟨by first | omega | (simp; omega),by first | omega | (simp; omega)⟩,by first | omega | (simp; omega),by first | omega | (simp; omega)⟩)):earlyC τ l s j∧b:=⟨ha,hb⟩
theorem clone59o (t:Th) (h:t.okB):Spec Tryz.prog 68 [thD t] [] (fun d os'=>d = .agg [.int .i64 t.st,.int .i64 t.on,.sl 0 0 3 0 t.fr.length none,.sl 1 0 1 0 t.sk.length none,.int .i64 t.code]∧os' = [rowF t.fr,rowI t.sk]):=by
 obtain ⟨h1,h2,h3⟩:=h
 refine Spec.weak (post:=fun d os'=>d = .agg [.int .i64 t.st,.int .i64 t.on,.sl 2 0 3 0 t.fr.length none,.sl 4 0 1 0 t.sk.length none,.int .i64 t.code]∧∃ a b:Fam,os' = [a,b,rowF t.fr,one .gone,rowI t.sk]) ?_ ?_
 ·refine Spec.by Tryz.func68 rfl (by decide) (by decide +kernel) rfl ?_
  refine goA ?_
  refine Loop.inv (A:=Nat) [] (fun i=>[(4,.int .i64 (i:Int)),(3,.sl 2 0 3 0 i none)]) (fun i=>[one (.row 42 5 false [thD t]),one (.row 42 5 false [z29]),rowF (t.fr.take i)]) (fun i=>i≤t.fr.length) (fun i=>t.fr.length - i) 0 (Nat.zero_le _) ?_ ?_
  ·refine Weak.trans (Weak.nilrow 3 rfl 116 3 true) ?_
   exact Weak.start' rfl rfl ⟨rfl,rfl,trivial⟩
  intro i hi
  refine goA ?_
  refine Br.dec (fun h=>?_) (fun h=>?_)
  ·simp only [List.length_map] at h
   have hget:t.fr[i]? = some t.fr[i]:=List.getElem?_eq_getElem (by omega)
   have hls:=h3 _ (List.getElem_mem (l:=t.fr) (n:=i) (by omega))
   refine goR ?_
   ((with_reducible refine Pt.go ?_); conv=>whnf)
   refine goR ?_
   refine Opt.of (get_map hget) ?_
   refine goR ?_
   ((with_reducible refine Pt.go ?_); conv=>whnf)
   refine goR ?_
   refine Pt.weak (Weak.nilrow 6 rfl 3 1 true) ?_
   ((with_reducible refine Pt.go ?_); conv=>whnf)
   refine goR ?_
   refine Pt.weak (Weak.frzO (fun i=>Nat.beq i 5) [] 3 (ty:=116) (sz:=3) (es:=[.agg [.int .i64 t.fr[i].fn,.int .i64 t.fr[i].pc,.sl 5 0 1 0 (0+(t.fr[i].ls.map (D.int .i64)).length) none]]) rfl rfl [frD t.fr[i]] rfl ?_ trivial) ?_
   ·refine .cons (.agg (.cons (.same _) (.cons (.same _) (.cons (View.slAll rfl rfl ?_ ?_ (ViewL.same _) (pureL_map (fun _=>rfl) _)) .nil)))) .nil
    ·simp
    ·simp
   ((with_reducible refine Pt.go ?_); conv=>whnf)
   refine goR ?_
   refine App.only false rfl rfl ?_
   refine goR ?_
   ((with_reducible refine Pt.go ?_); conv=>whnf)
   refine goR ?_
   refine Loop.next (i+1) ?_ ?_ (Weak.trans (Weak.shift 6 2 (by decide) (by simp) (bl rfl) (bl rfl) (fun j=>by cases j <;> rfl) rfl) (Weak.backT 3 (by simp) ?_ rfl (bl rfl) ?_ rfl rfl))
   ·omega
   ·omega
   ·have e:(t.fr.take i).map frD ++ [frD t.fr[i]] = (t.fr.take (i+1)).map frD:=by
     rw [List.take_add_one,hget,List.map_append]; rfl
    exact congrArg (fun r=>([one (.row 42 5 false [thD t]),one (.row 42 5 false [z29]),one (.row 116 3 true r)]:Objs)) e
   ·exact ⟨rfl,rfl,trivial⟩
  ·simp only [List.length_map] at h
   refine goR ?_
   ((with_reducible refine Pt.go ?_); conv=>whnf)
   refine goR ?_
   ((with_reducible refine Pt.go ?_); conv=>whnf)
   refine goR ?_
   refine Pt.weak (Weak.nilrow 7 rfl 3 1 true) ?_
   refine goA ?_
   refine Ret.mk [.cell 2 42] rfl ?_; (refine goA ?_)
   obtain rfl:i = t.fr.length:=by omega
   have e:(t.fr.take t.fr.length).map frD = t.fr.map frD:=by rw [List.take_length]
   refine ⟨?_,_,_,congrArg (fun r=>([_,_,one (.row 116 3 true r),one .gone,rowI t.sk]:Objs)) e⟩
   show D.agg [.int .i64 t.st,.int .i64 t.on,.sl 2 0 3 0 t.fr.length none,.sl 4 0 1 0 (0+(t.sk.map (D.int .i64)).length) none,.int .i64 t.code] = _
   simp
 ·rintro d os' ⟨rfl,a,b,rfl⟩
  refine ⟨_,_,Weak.trans (Weak.frzK (fun i=>Nat.blt i 2) [] trivial) (Weak.trans (Weak.shift 2 0 (by decide) (by simp) (by simp [dropF]) (by simp [dropF]) (fun j=>by cases j <;> rfl) rfl) (Weak.trans (Weak.shift 4 1 (by decide) (by simp) (by simp [dropF]) (by simp [dropF]) (fun j=>by cases j <;> rfl) rfl) (Weak.trim 2 (by simp) rfl (by simp [dropF])))),rfl,rfl⟩
def pushR (t:Th) (v:Int):Th × Bool:=if 16≤t.sk.length then (t,false) else ({ t with sk:=t.sk ++ [keep v] },true)
theorem push132 (t:Th) (ht:t.okB) (v:Int):Spec Tryz.prog 139 [thD t,.int .i64 v] [] (fun d os'=>d = .tup [thD (pushR t v).1,.bool (pushR t v).2]∧os' = []):=by
 refine Spec.frz (post':=fun d=>d = .tup [thD (pushR t v).1,.bool (pushR t v).2]) ?_
 refine Spec.by Tryz.func139 rfl (by decide) (by decide +kernel) rfl ?_
 refine goA ?_
 refine Br.dec (fun h=>?_) (fun h=>?_)
 ·refine goA ?_
  refine Ret.mk [.cell 4 42,.tmp 5] rfl ?_; (refine goA ?_)
  have h':16≤t.sk.length:=by simp at h; omega
  simp only [pushR,if_pos h']
  exact ⟨_,View.same _,rfl,rfl⟩
 ·have h':¬ 16≤t.sk.length:=by simp at h; omega
  refine goA ?_
  refine Call.mk ((clone59o t ht).onto _ rfl) ?_
  rintro d os' ⟨d1,os1,⟨rfl,rfl⟩,rfl,rfl⟩
  refine goA ?_
  refine Call.mk (keep36 v _) ?_
  rintro d os' ⟨rfl,rfl⟩
  refine goA ?_
  refine App.only false rfl rfl ?_
  refine goA ?_
  refine Ret.mk [.cell 4 42,.tmp 5] rfl ?_; (refine goA ?_)
  simp only [pushR,if_neg h']
  refine ⟨.tup [thD { t with sk:=t.sk ++ [keep v] },.bool true],View.tup (.cons (.agg (.cons (.same _) (.cons (.same _) (.cons (View.slAll rfl rfl (by simp) (by simp) (ViewL.same _) (pureL_map (fun _=>rfl) _)) (.cons (View.slAll rfl (t:=3) (pr:=true) (es:=t.sk.map (D.int .i64) ++ [D.int .i64 (keep v)]) rfl (by simp [setAll]) (by simp) (by rw [map_snoc]; exact .same _) (pureL_map (fun _=>rfl) _)) (.same _)))))) (.same _)),rfl,rfl⟩
theorem top190 (t:Th) (s:List Fm) (f:Fm) (hs:t.fr = s ++ [f]) (hl:s.length≤1000000):Spec Tryz.prog 157 [thD t] [] (fun d os'=>d = frD f∧os' = []):=by
 refine Spec.frz (post':=fun d=>d = frD f) ?_
 have hlen:(t.fr.map frD).length = s.length+1:=by rw [hs]; simp
 have e:((((t.fr.map frD).length:Nat):Int) - 1).toNat = s.length:=by omega
 have hget:t.fr[((((t.fr.map frD).length:Nat):Int) - 1).toNat]? = some f:=by rw [e,hs]; simp
 refine Spec.by Tryz.func157 rfl (by decide) (by decide +kernel) rfl ?_
 refine goA ?_
 refine Opt.of (get_map hget) ?_
 refine goA ?_
 refine Ret.mk [.cell 2 116] rfl ?_; (refine goA ?_)
 exact ⟨frD f,View.same _,rfl,rfl⟩
theorem with191 (t:Th) (s:List Fm) (f f':Fm) (hs:t.fr = s ++ [f]) (hl:s.length≤1000000):Spec Tryz.prog 159 [thD t,frD f'] [] (fun d os'=>d = thD { t with fr:=s ++ [f'] }∧os' = []):=by
 refine Spec.frz (post':=fun d=>d = thD { t with fr:=s ++ [f'] }) ?_
 have hlen:(t.fr.map frD).length = s.length+1:=by rw [hs]; simp
 have e:((((t.fr.map frD).length:Nat):Int) - 1).toNat = s.length:=by omega
 refine Spec.by Tryz.func159 rfl (by decide) (by decide +kernel) rfl ?_
 refine goA ?_
 refine Nm.mk (s.map frD) (by show s.map frD = ((t.fr.map frD).take ((((t.fr.map frD).length:Nat):Int) - 1).toNat).drop 0; rw [List.drop_zero,e,hs,List.map_append,List.take_left' (by simp)]) ?_
 refine goA ?_
 refine App.only false rfl rfl ?_
 refine goA ?_
 refine App.only false rfl rfl ?_
 refine goA ?_
 refine Ret.mk [.cell 4 42] rfl ?_; (refine goA ?_)
 refine ⟨thD { t with fr:=s ++ [f'] },View.agg (.cons (.same _) (.cons (.same _) (.cons ?_ (.same _)))),rfl,rfl⟩
 show View _ _ _ (D.lst 3 false ((s ++ [f']).map frD))
 rw [List.map_append]
 exact .same _
theorem jump136 (t:Th) (s:List Fm) (f:Fm) (hs:t.fr = s ++ [f]) (hl:s.length≤1000000) (pc:Int):Spec Tryz.prog 104 [thD t,.int .i64 pc] [] (fun d os'=>d = thD { t with fr:=s ++ [⟨f.fn,pc,f.ls⟩] }∧os' = []):=by
 refine Spec.frz (post':=fun d=>d = thD { t with fr:=s ++ [⟨f.fn,pc,f.ls⟩] }) ?_
 refine Spec.by Tryz.func104 rfl (by decide) (by decide +kernel) rfl ?_
 refine goA ?_
 refine Call.mk ((top190 t s f hs hl).only _ rfl (by rintro d rfl; rfl)) ?_
 rintro d os' ⟨rfl,rfl⟩
 refine goA ?_
 refine Call.mk ((with191 t s f ⟨f.fn,pc,f.ls⟩ hs hl).only _ rfl (by rintro d rfl; rfl)) ?_
 rintro d os' ⟨rfl,rfl⟩
 refine goA ?_
 refine Ret.mk [.cell 4 42] rfl ?_; (refine goA ?_)
 exact ⟨_,View.same _,rfl,rfl⟩
theorem get140 (t:Th) (s:List Fm) (f:Fm) (hs:t.fr = s ++ [f]) (hl:s.length≤1000000) (i:Nat) (v:Int) (hv:f.ls[i]? = some v):Spec Tryz.prog 169 [thD t,.int .i64 i] [] (fun d os'=>d = .int .i64 v∧os' = []):=by
 refine Spec.by Tryz.func169 rfl (by decide) (by decide +kernel) rfl ?_
 refine goA ?_
 refine Call.mk ((top190 t s f hs hl).only _ rfl (by rintro d rfl; rfl)) ?_
 rintro d os' ⟨rfl,rfl⟩
 refine goA ?_
 refine Opt.of (get_map hv) ?_
 refine goA ?_
 refine Ret.trim 0 (by simp) rfl (bl rfl) ?_
 refine Ret.mk [.tmp _] rfl ?_; refine And.intro ?_ rfl
 rfl
theorem get141 (t:Th) (s:List Fm) (f:Fm) (hs:t.fr = s ++ [f]) (hl:s.length≤1000000) (i:Nat) (v:Int) (hv:f.ls[i]? = some v):Spec Tryz.prog 140 [thD t,.int .i64 i] [] (fun d os'=>d = .int .i64 v∧os' = []):=by
 have hlen:(t.fr.map frD).length = s.length+1:=by rw [hs]; simp
 have e:((((t.fr.map frD).length:Nat):Int) - 1).toNat = s.length:=by omega
 have hget:t.fr[((((t.fr.map frD).length:Nat):Int) - 1).toNat]? = some f:=by rw [e,hs]; simp
 refine Spec.by Tryz.func140 rfl (by decide) (by decide +kernel) rfl ?_
 refine goA ?_
 refine Opt.of (get_map hget) ?_
 refine goA ?_
 refine Opt.of (get_map hv) ?_
 refine goA ?_
 refine Ret.trim 0 (by simp) rfl (bl rfl) ?_
 refine Ret.mk [.tmp _] rfl ?_; refine And.intro ?_ rfl
 rfl
theorem pop133 (t:Th) (ht:t.okB) (s:List Int) (v:Int) (hs:t.sk = s ++ [v]):Spec Tryz.prog 136 [thD t] [] (fun d os'=>d = .tup [thD { t with sk:=s },.int .i64 v,.bool true]∧os' = []):=by
 refine Spec.frz (post':=fun d=>d = .tup [thD { t with sk:=s },.int .i64 v,.bool true]) ?_
 have hlen:(t.sk.map (D.int .i64)).length = s.length+1:=by rw [hs]; simp
 have hl':t.sk.length = s.length+1:=by rw [hs]; simp
 have hb:=ht.2.1
 have e:(((t.sk.length:Nat):Int) - 1).toNat = s.length:=by omega
 have hget:t.sk[0+(((t.sk.length:Nat):Int) - 1).toNat]? = some v:=by rw [e,hs]; simp
 refine Spec.by Tryz.func136 rfl (by decide) (by decide +kernel) rfl ?_
 refine goA ?_
 refine Call.mk ((clone59o t ht).onto _ rfl) ?_
 rintro d os' ⟨d1,os1,⟨rfl,rfl⟩,rfl,rfl⟩
 refine goA ?_
 refine Opt.of (get_map hget) ?_
 refine goA ?_
 refine Ret.mk [.cell 2 42,.tmp 3,.tmp 4] rfl ?_; (refine goA ?_)
 refine ⟨.tup [thD { t with sk:=s },.int .i64 v,.bool true],View.tup (.cons (.agg (.cons (.same _) (.cons (.same _) (.cons (View.slAll rfl rfl (by simp) (by simp) (ViewL.same _) (pureL_map (fun _=>rfl) _)) (.cons (View.sl rfl (t:=3) (pr:=true) (es:=t.sk.map (D.int .i64)) rfl ?_ (by simp) ?_ (pureL_map (fun _=>rfl) _)) (.same _)))))) (.same _)),rfl,rfl⟩
 ·simp
 ·have e2:((t.sk.map (D.int .i64)).drop (0+(0:Int).toNat)).take ((((t.sk.length:Nat):Int) - 1).toNat - (0:Int).toNat) = s.map (D.int .i64):=by
   rw [e,hs]; simp
  rw [show (((t.sk.map (D.int .i64)).drop (0+(0:Int).toNat)).take ((((t.sk.length:Nat):Int) - 1).toNat - (0:Int).toNat)) = s.map (D.int .i64) from e2]
  exact .same _
def enterR (t:Th) (f:Fm):Th × Bool:=if 8≤t.fr.length then (t,false) else ({ t with fr:=t.fr ++ [f] },true)
theorem enter134 (g:Pg) (t:Th) (ht:t.okB) (k:Nat) (u:Fu) (hu:g.fu[k]? = some u) (h0:0≤u.loc∧u.loc≤100):Spec Tryz.prog 142 [pgD g,thD t,.int .i64 k] [] (fun d os'=>d = .tup [thD (enterR t ⟨k,0,List.replicate u.loc.toNat 0⟩).1,.bool (enterR t ⟨k,0,List.replicate u.loc.toNat 0⟩).2]∧os' = []):=by
 refine Spec.frz (post':=fun d=>d = .tup [thD (enterR t ⟨k,0,List.replicate u.loc.toNat 0⟩).1,.bool (enterR t ⟨k,0,List.replicate u.loc.toNat 0⟩).2]) ?_
 refine Spec.by Tryz.func142 rfl (by decide) (by decide +kernel) rfl ?_
 refine goA ?_
 refine Br.dec (fun h=>?_) (fun h=>?_)
 ·refine goA ?_
  refine Ret.mk [.cell 6 42,.tmp 7] rfl ?_; (refine goA ?_)
  have h':8≤t.fr.length:=by simp at h; omega
  simp only [enterR,if_pos h']
  exact ⟨_,View.same _,rfl,rfl⟩
 ·have h':¬ 8≤t.fr.length:=by simp at h; omega
  refine goA ?_
  refine Call.mk ((clone59o t ht).onto _ rfl) ?_
  rintro d os' ⟨d1,os1,⟨rfl,rfl⟩,rfl,rfl⟩
  refine goA ?_
  refine Call.mk ((frame111f g k u hu h0).only _ rfl (by rintro d rfl; rfl)) ?_
  rintro d os' ⟨rfl,rfl⟩
  refine goA ?_
  refine App.only false rfl rfl ?_
  refine goA ?_
  refine Ret.mk [.cell 6 42,.tmp 7] rfl ?_; (refine goA ?_)
  simp only [enterR,if_neg h']
  refine ⟨.tup [thD { t with fr:=t.fr ++ [⟨k,0,List.replicate u.loc.toNat 0⟩] },.bool true],View.tup (.cons (.agg (.cons (.same _) (.cons (.same _) (.cons (View.slAll rfl (t:=116) (pr:=true) (es:=t.fr.map frD ++ [frD ⟨k,0,List.replicate u.loc.toNat 0⟩]) rfl (by simp [setAll]) (by simp) ?_ (pureL_map (fun _=>rfl) _)) (.cons (View.slAll rfl rfl (by simp) (by simp) (ViewL.same _) (pureL_map (fun _=>rfl) _)) (.same _)))))) (.same _)),rfl,rfl⟩
  show ViewL _ _ _ ((t.fr ++ [_]).map frD)
  rw [List.map_append]
  exact .same _
theorem leave135 (t:Th) (ht:t.okB) (s:List Fm) (f:Fm) (hs:t.fr = s ++ [f]):Spec Tryz.prog 143 [thD t] [] (fun d os'=>d = .tup [thD { t with fr:=s },.bool (decide (0 < s.length))]∧os' = []):=by
 refine Spec.frz (post':=fun d=>d = .tup [thD { t with fr:=s },.bool (decide (0 < s.length))]) ?_
 have hl':t.fr.length = s.length+1:=by rw [hs]; simp
 have hb:=ht.1
 have e:(((t.fr.length:Nat):Int) - 1).toNat = s.length:=by omega
 refine Spec.by Tryz.func143 rfl (by decide) (by decide +kernel) rfl ?_
 refine goA ?_
 refine Call.mk ((clone59o t ht).onto _ rfl) ?_
 rintro d os' ⟨d1,os1,⟨rfl,rfl⟩,rfl,rfl⟩
 refine goA ?_
 refine Ret.mk [.cell 2 42,.tmp 3] rfl ?_; (refine goA ?_)
 have e3:decide ((0:Int) < (((((t.fr.length:Nat):Int) - 1).toNat - (0:Int).toNat:Nat):Int)) = decide (0 < s.length):=decide_eq_decide.2 (by omega)
 refine ⟨.tup [thD { t with fr:=s },.bool (decide ((0:Int) < (((((t.fr.length:Nat):Int) - 1).toNat - (0:Int).toNat:Nat):Int)))],View.tup (.cons (.agg (.cons (.same _) (.cons (.same _) (.cons (View.sl rfl (t:=116) (pr:=true) (es:=t.fr.map frD) rfl ?_ (by simp) ?_ (pureL_map (fun _=>rfl) _)) (.cons (View.slAll rfl rfl (by simp) (by simp) (ViewL.same _) (pureL_map (fun _=>rfl) _)) (.same _)))))) (.same _)),rfl,by rw [e3]⟩
 ·simp
 ·have e2:((t.fr.map frD).drop (0+(0:Int).toNat)).take ((((t.fr.length:Nat):Int) - 1).toNat - (0:Int).toNat) = s.map frD:=by
   rw [e,hs]; simp
  rw [show (((t.fr.map frD).drop (0+(0:Int).toNat)).take ((((t.fr.length:Nat):Int) - 1).toNat - (0:Int).toNat)) = s.map frD from e2]
  exact .same _
theorem jump137 (t:Th) (ht:t.okB) (s:List Fm) (f:Fm) (hs:t.fr = s ++ [f]) (pc:Int):Spec Tryz.prog 134 [thD t,.int .i64 pc] [] (fun d os'=>d = thD { t with fr:=s ++ [⟨f.fn,pc,f.ls⟩] }∧os' = []):=by
 refine Spec.frz (post':=fun d=>d = thD { t with fr:=s ++ [⟨f.fn,pc,f.ls⟩] }) ?_
 have hl':t.fr.length = s.length+1:=by rw [hs]; simp
 have hb:=ht.1
 have e:(((t.fr.length:Nat):Int) - 1).toNat = s.length:=by omega
 have hget:t.fr[0+(((t.fr.length:Nat):Int) - 1).toNat]? = some f:=by rw [e,hs]; simp
 refine Spec.by Tryz.func134 rfl (by decide) (by decide +kernel) rfl ?_
 refine goA ?_
 refine Call.mk ((clone59o t ht).onto _ rfl) ?_
 rintro d os' ⟨d1,os1,⟨rfl,rfl⟩,rfl,rfl⟩
 refine goA ?_
 refine Opt.of (get_map hget) ?_
 refine goA ?_
 refine Ret.mk [.cell 4 42] rfl ?_; (refine goA ?_)
 refine ⟨thD { t with fr:=s ++ [⟨f.fn,pc,f.ls⟩] },View.agg (.cons (.same _) (.cons (.same _) (.cons (View.slAll rfl (t:=116) (pr:=true) (es:=(t.fr.map frD).set (0+(((t.fr.length:Nat):Int) - 1).toNat) (frD ⟨f.fn,pc,f.ls⟩)) rfl (by simp) (by simp) ?_ (pureL_map (fun _=>rfl) _)) (.cons (View.slAll rfl rfl (by simp) (by simp) (ViewL.same _) (pureL_map (fun _=>rfl) _)) (.same _))))),rfl,rfl⟩
 have e2:(t.fr.map frD).set (0+(((t.fr.length:Nat):Int) - 1).toNat) (frD ⟨f.fn,pc,f.ls⟩) = (s ++ [(⟨f.fn,pc,f.ls⟩:Fm)]).map frD:=by
  rw [e,hs,Nat.zero_add,← List.map_set]
  congr 1
  simp
 rw [e2]
 exact .same _
theorem clone130o (xs:List Int) (hl:xs.length * 8≤140737488351232) (hx:xs ≠ []):Spec Tryz.prog 80 [ints xs] [] (fun d os'=>d = .sl 0 0 1 0 xs.length none∧os' = [rowI xs]):=by
 have hm:(xs.map (D.int .i64)) ≠ []:=fun e=>hx (List.map_eq_nil_iff.1 e)
 refine Spec.by Tryz.func80 rfl (by decide) (by decide +kernel) rfl ?_
 refine goA ?_
 refine And.intro (fun hn=>?_) (fun hn=>absurd hn hm)
 refine goA ?_
 refine App.own ?_
 refine goA ?_
 refine Ret.weak (Weak.shift 1 0 (by decide) (by simp) (bl rfl) (bl rfl) (fun j=>by cases j <;> rfl) rfl) ?_
 refine Ret.trim 1 (by simp) rfl (bl rfl) ?_
 refine Ret.mk [.tmp _] rfl (And.intro ?_ rfl)
 show D.sl 0 0 1 0 (0+(xs.map (D.int .i64)).length) none = _
 simp
theorem set138 (t:Th) (s:List Fm) (f:Fm) (hs:t.fr = s ++ [f]) (hl:s.length≤1000000) (hf:f.ls.length≤1000000) (i:Nat) (hi:i < f.ls.length) (v:Int):Spec Tryz.prog 171 [thD t,.int .i64 i,.int .i64 v] [] (fun d os'=>d = thD { t with fr:=s ++ [⟨f.fn,f.pc,f.ls.set i (keep v)⟩] }∧os' = []):=by
 refine Spec.frz (post':=fun d=>d = thD { t with fr:=s ++ [⟨f.fn,f.pc,f.ls.set i (keep v)⟩] }) ?_
 have hget:f.ls[0+i]? = some (f.ls[i]):=by rw [Nat.zero_add]; exact List.getElem?_eq_getElem hi
 refine Spec.by Tryz.func171 rfl (by decide) (by decide +kernel) rfl ?_
 refine goA ?_
 refine Call.mk ((top190 t s f hs hl).only _ rfl (by rintro d rfl; rfl)) ?_
 rintro d os' ⟨rfl,rfl⟩
 refine goA ?_
 refine Call.mk ((clone130o f.ls (by omega) (fun e=>by rw [e] at hi; simp at hi)).onto _ rfl) ?_
 rintro d os' ⟨d1,os1,⟨rfl,rfl⟩,rfl,rfl⟩
 refine goA ?_
 refine Call.mk (keep35 v _) ?_
 rintro d os' ⟨rfl,rfl⟩
 refine goA ?_
 refine Opt.of (get_map hget) ?_
 refine goR ?_
 refine Pt.weak (Weak.frzO (fun i=>Nat.beq i 3) [] 2 (ty:=116) (sz:=3) (es:=[.agg [.int .i64 f.fn,.int .i64 f.pc,.sl 3 0 1 0 f.ls.length none]]) rfl rfl [frD ⟨f.fn,f.pc,f.ls.set i (keep v)⟩] rfl ?_ trivial) ?_
 ·refine .cons (.agg (.cons (.same _) (.cons (.same _) (.cons (View.slAll rfl rfl (by simp) (by simp) ?_ (pureL_map (fun _=>rfl) _)) .nil)))) .nil
  have e:(f.ls.map (D.int .i64)).set (0+i) (.int .i64 (keep v)) = (f.ls.set i (keep v)).map (D.int .i64):=by rw [Nat.zero_add,List.map_set]
  show ViewL _ _ ((f.ls.map (D.int .i64)).set (0+i) (.int .i64 (keep v))) _
  rw [e]
  exact .same _
 refine goA ?_
 refine Call.mk ((with191 t s f ⟨f.fn,f.pc,f.ls.set i (keep v)⟩ hs hl).only _ rfl (by rintro d rfl; rfl)) ?_
 rintro d os' ⟨rfl,rfl⟩
 refine goA ?_
 refine Ret.mk [.cell 6 42] rfl ?_; (refine goA ?_)
 exact ⟨_,View.same _,rfl,rfl⟩
def fetchI (g:Pg) (f:Fm):(Int × Int) × Bool:=match g.fu[f.fn.toNat]? with
 | none=>((0,0),false)
 | some u=>match u.code[f.pc.toNat]? with
  | none=>((0,0),false)
  | some x=>(x,true)
theorem at196 (g:Pg) (k:Nat) (u:Fu) (hu:g.fu[k]? = some u) (pc:Nat):Spec Tryz.prog 158 [pgD g,.int .i64 k,.int .i64 pc] [] (fun d os'=>d = .tup [inD (fetchI g ⟨k,pc,[]⟩).1,.bool (fetchI g ⟨k,pc,[]⟩).2]∧os' = []):=by
 refine Spec.frz (post':=fun d=>d = .tup [inD (fetchI g ⟨k,pc,[]⟩).1,.bool (fetchI g ⟨k,pc,[]⟩).2]) ?_
 have hkl:=(List.getElem?_eq_some_iff.1 hu).1
 have hkl':k < (g.fu.map fuD).length:=by rw [List.length_map]; exact hkl
 refine Spec.by Tryz.func158 rfl (by decide) (by decide +kernel) rfl ?_
 refine goA ?_
 refine Opt.of (get_map hu) ?_
 refine goA ?_
 refine Br.dec (fun h=>?_) (fun h=>?_)
 ·refine goA ?_
  refine Ret.mk [.cell 6 65,.tmp 7] rfl ?_; (refine goA ?_)
  have hx:u.code[pc]? = none:=List.getElem?_eq_none (by rw [List.length_map] at h; omega)
  have e:fetchI g ⟨k,pc,[]⟩ = ((0,0),false):=by unfold fetchI; dsimp only; rw [Int.toNat_natCast,hu]; dsimp only; rw [Int.toNat_natCast,hx]
  rw [e]
  exact ⟨_,View.same _,rfl,rfl⟩
 ·obtain ⟨x,hx⟩:∃ x,u.code[pc]? = some x:=⟨_,List.getElem?_eq_getElem (by rw [List.length_map] at h; omega)⟩
  have e:fetchI g ⟨k,pc,[]⟩ = (x,true):=by unfold fetchI; dsimp only; rw [Int.toNat_natCast,hu]; dsimp only; rw [Int.toNat_natCast,hx]
  refine goA ?_
  refine Opt.of (get_map hu) ?_
  refine goA ?_
  refine Opt.of (get_map hx) ?_
  refine goA ?_
  refine Ret.mk [.cell 6 65,.tmp 7] rfl ?_; (refine goA ?_)
  rw [e]
  exact ⟨_,View.same _,rfl,rfl⟩
theorem fetch161 (g:Pg) (t:Th) (s:List Fm) (k pc:Nat) (ls:List Int) (u:Fu) (hu:g.fu[k]? = some u) (hs:t.fr = s ++ [⟨k,pc,ls⟩]) (hl:s.length≤1000000):Spec Tryz.prog 103 [pgD g,thD t] [] (fun d os'=>d = .tup [inD (fetchI g ⟨k,pc,[]⟩).1,.bool (fetchI g ⟨k,pc,[]⟩).2]∧os' = []):=by
 refine Spec.frz (post':=fun d=>d = .tup [inD (fetchI g ⟨k,pc,[]⟩).1,.bool (fetchI g ⟨k,pc,[]⟩).2]) ?_
 refine Spec.by Tryz.func103 rfl (by decide) (by decide +kernel) rfl ?_
 refine goA ?_
 refine Call.mk ((top190 t s ⟨k,pc,ls⟩ hs hl).only _ rfl (by rintro d rfl; rfl)) ?_
 rintro d os' ⟨rfl,rfl⟩
 refine goA ?_
 refine Call.mk ((at196 g k u hu pc).only _ rfl (by rintro d rfl; rfl)) ?_
 rintro d os' ⟨rfl,rfl⟩
 refine goA ?_
 refine Ret.mk [.cell 4 65,.tmp 5] rfl ?_; (refine goA ?_)
 exact ⟨_,View.same _,rfl,rfl⟩
theorem fetch163 (g:Pg) (t:Th) (s:List Fm) (k pc:Nat) (ls:List Int) (u:Fu) (hu:g.fu[k]? = some u) (hs:t.fr = s ++ [⟨k,pc,ls⟩]) (hl:s.length≤1000000):Spec Tryz.prog 132 [pgD g,thD t] [] (fun d os'=>d = .tup [inD (fetchI g ⟨k,pc,[]⟩).1,.bool (fetchI g ⟨k,pc,[]⟩).2]∧os' = []):=by
 refine Spec.frz (post':=fun d=>d = .tup [inD (fetchI g ⟨k,pc,[]⟩).1,.bool (fetchI g ⟨k,pc,[]⟩).2]) ?_
 have hlen:(t.fr.map frD).length = s.length+1:=by rw [hs]; simp
 have e:((((t.fr.map frD).length:Nat):Int) - 1).toNat = s.length:=by omega
 have hget:t.fr[((((t.fr.map frD).length:Nat):Int) - 1).toNat]? = some ⟨k,pc,ls⟩:=by rw [e,hs]; simp
 refine Spec.by Tryz.func132 rfl (by decide) (by decide +kernel) rfl ?_
 refine goA ?_
 refine Opt.of (get_map hget) ?_
 refine goA ?_
 refine Opt.of (get_map hu) ?_
 refine goA ?_
 refine Br.dec (fun h=>?_) (fun h=>?_)
 ·refine goA ?_
  refine Ret.mk [.cell 4 65,.tmp 5] rfl ?_; (refine goA ?_)
  have hx:u.code[pc]? = none:=List.getElem?_eq_none (by rw [List.length_map] at h; have h':(u.code.length:Int)≤(pc:Int):=h; omega)
  have e:fetchI g ⟨k,pc,[]⟩ = ((0,0),false):=by unfold fetchI; dsimp only; rw [Int.toNat_natCast,hu]; dsimp only; rw [Int.toNat_natCast,hx]
  rw [e]
  exact ⟨_,View.same _,rfl,rfl⟩
 ·obtain ⟨x,hx⟩:∃ x,u.code[pc]? = some x:=⟨_,List.getElem?_eq_getElem (by rw [List.length_map] at h; have h':¬ (u.code.length:Int)≤(pc:Int):=h; omega)⟩
  have e:fetchI g ⟨k,pc,[]⟩ = (x,true):=by unfold fetchI; dsimp only; rw [Int.toNat_natCast,hu]; dsimp only; rw [Int.toNat_natCast,hx]
  refine goA ?_
  refine Opt.of (get_map hx) ?_
  refine goA ?_
  refine Ret.mk [.cell 4 65,.tmp 5] rfl ?_; (refine goA ?_)
  rw [e]
  exact ⟨_,View.same _,rfl,rfl⟩
mutual
theorem names_pure (b:Nat):∀ (d:D),d.pure = true→d.names b = false
 | .agg cs,h=>namesL_pure b cs h
 | .tup cs,h=>namesL_pure b cs h
 | .fn g x y,h=>by
  have h':D.pureL x = true∧D.pureL y = true:=by simpa [D.pure] using h
  simp [D.names,namesL_pure b x h'.1,namesL_pure b y h'.2]
 | .ptr ..,h | .sl ..,h | .mp ..,h | .yl ..,h=>by simp [D.pure] at h
 | .int ..,_ | .bool _,_ | .str _,_ | .nilp,_ | .nils,_ | .nilf,_ | .junk,_ | .pel ..,_ | .lst ..,_=>rfl
theorem namesL_pure (b:Nat):∀ (ds:List D),D.pureL ds = true→D.namesL b ds = false
 | [],_=>rfl
 | d :: ds,h=>by
  have h':d.pure = true∧D.pureL ds = true:=by simpa [D.pureL] using h
  simp [D.namesL,names_pure b d h'.1,namesL_pure b ds h'.2]
end
mutual
theorem lt_pure (n:Nat):∀ (d:D),d.pure = true→d.lt n = true
 | .agg cs,h=>ltL_pure n cs h
 | .tup cs,h=>ltL_pure n cs h
 | .fn g x y,h=>by
  have h':D.pureL x = true∧D.pureL y = true:=by simpa [D.pure] using h
  simp [D.lt,ltL_pure n x h'.1,ltL_pure n y h'.2]
 | .ptr ..,h | .sl ..,h | .mp ..,h | .yl ..,h=>by simp [D.pure] at h
 | .int ..,_ | .bool _,_ | .str _,_ | .nilp,_ | .nils,_ | .nilf,_ | .junk,_ | .pel ..,_ | .lst ..,_=>rfl
theorem ltL_pure (n:Nat):∀ (ds:List D),D.pureL ds = true→D.ltL n ds = true
 | [],_=>rfl
 | d :: ds,h=>by
  have h':d.pure = true∧D.pureL ds = true:=by simpa [D.pureL] using h
  simp [D.ltL,lt_pure n d h'.1,ltL_pure n ds h'.2]
end
mutual
theorem ren_pure (a b:Nat):∀ (d:D),d.pure = true→d.ren a b = d
 | .agg cs,h=>by rw [D.ren,renL_pure a b cs h]
 | .tup cs,h=>by rw [D.ren,renL_pure a b cs h]
 | .fn g x y,h=>by
  have h':D.pureL x = true∧D.pureL y = true:=by simpa [D.pure] using h
  rw [D.ren,renL_pure a b x h'.1,renL_pure a b y h'.2]
 | .ptr ..,h | .sl ..,h | .mp ..,h | .yl ..,h=>by simp [D.pure] at h
 | .int ..,_ | .bool _,_ | .str _,_ | .nilp,_ | .nils,_ | .nilf,_ | .junk,_ | .pel ..,_ | .lst ..,_=>rfl
theorem renL_pure (a b:Nat):∀ (ds:List D),D.pureL ds = true→D.renL a b ds = ds
 | [],_=>rfl
 | d :: ds,h=>by
  have h':d.pure = true∧D.pureL ds = true:=by simpa [D.pureL] using h
  rw [D.renL,ren_pure a b d h'.1,renL_pure a b ds h'.2]
end
theorem namesL_append (b:Nat):∀ (x y:List D),D.namesL b (x ++ y) = (D.namesL b x || D.namesL b y)
 | [],y=>by simp [D.namesL]
 | d :: x,y=>by simp [D.namesL,namesL_append b x y,Bool.or_assoc]
theorem ltL_append (n:Nat):∀ (x y:List D),D.ltL n (x ++ y) = (D.ltL n x && D.ltL n y)
 | [],y=>by simp [D.ltL]
 | d :: x,y=>by simp [D.ltL,ltL_append n x y,Bool.and_assoc]
theorem renL_append (a b:Nat):∀ (x y:List D),D.renL a b (x ++ y) = D.renL a b x ++ D.renL a b y
 | [],y=>by simp [D.renL]
 | d :: x,y=>by simp [D.renL,renL_append a b x y]
theorem Weak.unpure {n0:Nat} {m:List (Nat × D)} {os:Objs} (k:Nat) {ty:TypeId} {sz:Nat} {es:List D} (hk:os.at k 0 = .row ty sz true es):Weak n0 { m:=m,objs:=os } { m:=m,objs:=os.put k 0 (.row ty sz false es) }:=by
 intro ρ I w tm h1 h2 h3
 have hs:=h1.retell (k:=k) (by show os.at k 0 ≠ _; rw [hk]; simp) (.row ty sz false es) (fun p hp hok=>by
  have hok':objOk ρ I w p (os.at k 0):=hok
  rw [hk] at hok'
  obtain ⟨c1,c2,c3⟩:=hok'
  refine ⟨c1,c2,fun hpos=>?_⟩
  obtain ⟨arr,us,g1,g2,g3,g4,g5⟩:=c3 hpos
  exact ⟨arr,us,g1,g2,repL_bot g3,g4,g5⟩)
 exact ⟨ρ,I,hs.1,h2,Im.le_refl _,by show n0≤(os.put _ _ _).length; rw [length_put]; exact h3,fun _ _ _=>rfl,fun _ h=>.inl h,hs.2⟩
def RL (s:List Fm) (f:Fm) (q:Nat):List D:=s.map frD ++ [.agg [.int .i64 f.fn,.int .i64 f.pc,.sl q 0 1 0 f.ls.length none]]
theorem RL_names (s:List Fm) (f:Fm) (q n:Nat) (h:Nat.beq q n = false):D.namesL n (RL s f q) = false:=by
 rw [RL,namesL_append,namesL_pure _ _ (pureL_map (fun _=>rfl) _)]
 simp [D.namesL,D.names,h]
theorem RL_lt (s:List Fm) (f:Fm) (q n:Nat) (h:Nat.blt q n = true):D.ltL n (RL s f q) = true:=by
 rw [RL,ltL_append,ltL_pure _ _ (pureL_map (fun _=>rfl) _)]
 simp [D.ltL,D.lt,h]
theorem RL_ren (s:List Fm) (f:Fm) (q a b:Nat) (h:Nat.beq q a = false):D.renL a b (RL s f q) = RL s f q:=by
 rw [RL,renL_append,renL_pure _ _ _ (pureL_map (fun _=>rfl) _)]
 simp [D.renL,D.ren,h]
theorem RL_ren' (s:List Fm) (f:Fm) (a b:Nat):D.renL a b (RL s f a) = RL s f b:=by
 rw [RL,renL_append,renL_pure _ _ _ (pureL_map (fun _=>rfl) _)]
 simp [D.renL,D.ren,RL]
theorem clone59L (t:Th) (h:t.okB) (s:List Fm) (f:Fm) (hs:t.fr = s ++ [f]):Spec Tryz.prog 68 [thD t] [] (fun d os'=>d = .agg [.int .i64 t.st,.int .i64 t.on,.sl 0 0 3 0 t.fr.length none,.sl 2 0 1 0 t.sk.length none,.int .i64 t.code]∧os' = [one (.row 116 3 false (RL s f 1)),rowI f.ls,rowI t.sk]):=by
 obtain ⟨h1,h2,h3⟩:=h
 have hl':t.fr.length = s.length+1:=by rw [hs]; simp
 refine Spec.weak (post:=fun d os'=>d = .agg [.int .i64 t.st,.int .i64 t.on,.sl 2 0 3 0 t.fr.length none,.sl 5 0 1 0 t.sk.length none,.int .i64 t.code]∧∃ a b:Fam,os' = [a,b,one (.row 116 3 false (RL s f 3)),rowI f.ls,one .gone,rowI t.sk]) ?_ ?_
 ·refine Spec.by Tryz.func68 rfl (by decide) (by decide +kernel) rfl ?_
  refine goA ?_
  refine Loop.inv (A:=Nat × Bool) [] (fun a=>[(4,.int .i64 (a.1:Int)),(3,.sl 2 0 3 0 a.1 none)]) (fun a=>bif a.2 then [one (.row 42 5 false [thD t]),one (.row 42 5 false [z29]),one (.row 116 3 false (RL s f 3)),rowI f.ls] else [one (.row 42 5 false [thD t]),one (.row 42 5 false [z29]),rowF (t.fr.take a.1)]) (fun a=>bif a.2 then a.1 = t.fr.length else a.1 < t.fr.length) (fun a=>t.fr.length - a.1) (0,false) (by show 0 < t.fr.length; omega) ?_ ?_
  ·refine Weak.trans (Weak.nilrow 3 rfl 116 3 true) ?_
   exact Weak.start' rfl rfl ⟨rfl,rfl,trivial⟩
  rintro ⟨i,b⟩ hi
  cases b with
  | true =>
   dsimp only [cond_true] at hi ⊢
   have hno:¬ ((i:Int) < ((t.fr.map frD).length:Int)):=by rw [List.length_map]; omega
   refine goR ?_
   ((with_reducible refine Pt.go ?_); conv=>whnf)
   refine goR ?_
   ((with_reducible refine Pt.go ?_); conv=>whnf)
   refine goR ?_
   ((with_reducible refine Pt.go ?_); conv=>whnf)
   refine goR ?_
   refine Pt.weak (Weak.nilrow 7 rfl 3 1 true) ?_
   refine goA ?_
   refine Ret.mk [.cell 2 42] rfl ?_; (refine goA ?_)
   refine ⟨?_,_,_,rfl⟩
   show D.agg [.int .i64 t.st,.int .i64 t.on,.sl 2 0 3 0 i none,.sl 5 0 1 0 (0+(t.sk.map (D.int .i64)).length) none,.int .i64 t.code] = _
   simp [hi]
  | false =>
   dsimp only [cond_false] at hi ⊢
   have hyes:((i:Int) < ((t.fr.map frD).length:Int)):=by rw [List.length_map]; omega
   obtain ⟨x,hget⟩:∃ x,t.fr[i]? = some x:=⟨_,List.getElem?_eq_getElem hi⟩
   have hls:=h3 _ (List.mem_of_getElem? hget)
   refine goR ?_
   ((with_reducible refine Pt.go ?_); conv=>whnf)
   refine goR ?_
   ((with_reducible refine Pt.go ?_); conv=>whnf)
   refine goR ?_
   refine Opt.of (get_map hget) ?_
   refine goR ?_
   ((with_reducible refine Pt.go ?_); conv=>whnf)
   refine goR ?_
   refine Pt.weak (Weak.nilrow 6 rfl 3 1 true) ?_
   ((with_reducible refine Pt.go ?_); conv=>whnf)
   refine goR ?_
   by_cases hlast:i+1 < t.fr.length
   ·refine Pt.weak (Weak.frzO (fun i=>Nat.beq i 5) [] 3 (ty:=116) (sz:=3) (es:=[.agg [.int .i64 x.fn,.int .i64 x.pc,.sl 5 0 1 0 (0+(x.ls.map (D.int .i64)).length) none]]) rfl rfl [frD x] rfl ?_ trivial) ?_
    ·refine .cons (.agg (.cons (.same _) (.cons (.same _) (.cons (View.slAll rfl rfl ?_ ?_ (ViewL.same _) (pureL_map (fun _=>rfl) _)) .nil)))) .nil
     ·simp
     ·simp
    ((with_reducible refine Pt.go ?_); conv=>whnf)
    refine goR ?_
    refine App.only false rfl rfl ?_
    refine goR ?_
    ((with_reducible refine Pt.go ?_); conv=>whnf)
    refine goR ?_
    refine ⟨_,_,_,?_,⟨(i+1,false),?_,rfl,rfl,rfl⟩,?_⟩
    ·show t.fr.length - (i+1) < t.fr.length - i
     omega
    ·exact hlast
    ·refine Weak.trans (Weak.shift 6 2 (by decide) (by simp) (bl rfl) (bl rfl) (fun j=>by cases j <;> rfl) rfl) ?_
     refine Weak.backT 3 (by simp) ?_ rfl (bl rfl) ?_ rfl rfl
     ·have e:(t.fr.take i).map frD ++ [frD x] = (t.fr.take (i+1)).map frD:=by
       rw [List.take_add_one,hget,List.map_append]; rfl
      exact congrArg (fun r=>([one (.row 42 5 false [thD t]),one (.row 42 5 false [z29]),one (.row 116 3 true r)]:Objs)) e
     ·exact ⟨rfl,rfl,trivial⟩
   ·have hil:i = s.length:=by omega
    have hxf:x = f:=by rw [hil,hs] at hget; simp at hget; exact hget.symm
    subst hxf
    have hts:(t.fr.take i).map frD = s.map frD:=by rw [hil,hs]; simp
    have hlen:(x.ls.map (D.int .i64)).length = x.ls.length:=List.length_map ..
    refine Pt.weak (Weak.unpure 2 rfl) ?_
    ((with_reducible refine Pt.go ?_); conv=>whnf)
    refine goR ?_
    refine App.own ?_
    refine goR ?_
    ((with_reducible refine Pt.go ?_); conv=>whnf)
    refine goR ?_
    refine ⟨_,_,_,?_,⟨(i+1,true),?_,rfl,rfl,rfl⟩,?_⟩
    ·show t.fr.length - (i+1) < t.fr.length - i
     omega
    ·show i+1 = t.fr.length
     omega
    ·refine Weak.trans (Weak.objs (os':=[one (.row 42 5 false [thD t]),one (.row 42 5 false [z29]),one .gone,one (.row 116 3 false [.agg [.int .i64 x.fn,.int .i64 x.pc,.sl 5 0 1 0 (0+(x.ls.map (D.int .i64)).length) none]]),one .gone,rowI x.ls,one (.row 116 3 false [.agg [.int .i64 x.fn,.int .i64 x.pc,.sl 5 0 1 0 (0+(x.ls.map (D.int .i64)).length) none]]),one (.row 116 3 false ((t.fr.take i).map frD ++ [.agg [.int .i64 x.fn,.int .i64 x.pc,.sl 5 0 1 0 (0+(x.ls.map (D.int .i64)).length) none]]))]) (by kernel_rfl)) ?_
     refine Weak.trans (Weak.objs (os':=[one (.row 42 5 false [thD t]),one (.row 42 5 false [z29]),one .gone,one (.row 116 3 false [.agg [.int .i64 x.fn,.int .i64 x.pc,.sl 5 0 1 0 x.ls.length none]]),one .gone,rowI x.ls,one (.row 116 3 false [.agg [.int .i64 x.fn,.int .i64 x.pc,.sl 5 0 1 0 x.ls.length none]]),one (.row 116 3 false (s.map frD ++ [.agg [.int .i64 x.fn,.int .i64 x.pc,.sl 5 0 1 0 x.ls.length none]]))]) (by rw [hts,Nat.zero_add,hlen])) ?_
     refine Weak.trans (Weak.frzK (fun i=>Nat.beq i 3 || Nat.beq i 6) [] trivial) ?_
     refine Weak.trans (Weak.objs (os':=[one (.row 42 5 false [thD t]),one (.row 42 5 false [z29]),one .gone,one .gone,one .gone,rowI x.ls,one .gone,one (.row 116 3 false (RL s x 5))]) (by kernel_rfl)) ?_
     refine Weak.trans (Weak.shift 7 2 (by decide) (by simp) (bl rfl) (bl rfl) (fun j=>by cases j <;> rfl) (by simp [Fam.names,O.names,D.namesL,D.names,RL_names s x 5 2 rfl])) ?_
     refine Weak.trans (Weak.objs (os':=[one (.row 42 5 false [thD t]),one (.row 42 5 false [z29]),one (.row 116 3 false (RL s x 5)),one .gone,one .gone,rowI x.ls,one .gone,one .gone]) (congrArg (fun r=>([one (.row 42 5 false [thD t]),one (.row 42 5 false [z29]),one (.row 116 3 false r),one .gone,one .gone,rowI x.ls,one .gone,one .gone]:Objs)) (RL_ren s x 5 7 2 rfl))) ?_
     refine Weak.trans (Weak.shift 5 3 (by decide) (by simp) (bl rfl) (bl rfl) (fun j=>by cases j <;> rfl) (by simp [Fam.names,O.names,D.namesL,D.names,RL_names s x 5 3 rfl])) ?_
     refine Weak.trans (Weak.objs (os':=[one (.row 42 5 false [thD t]),one (.row 42 5 false [z29]),one (.row 116 3 false (RL s x 3)),rowI x.ls,one .gone,one .gone,one .gone,one .gone]) (congrArg (fun r=>([one (.row 42 5 false [thD t]),one (.row 42 5 false [z29]),one (.row 116 3 false r),rowI x.ls,one .gone,one .gone,one .gone,one .gone]:Objs)) (RL_ren' s x 5 3))) ?_
     refine Weak.backT 4 (by simp) (by first | rfl | kernel_rfl) (by simp [Fam.lt,O.lt,D.lt,D.ltL,RL_lt s x 3 4 rfl]) (bl rfl) tld (by kernel_rfl) (by kernel_rfl)
 ·rintro d os' ⟨rfl,a,b,rfl⟩
  refine ⟨_,_,Weak.trans (Weak.frzK (fun i=>Nat.blt i 2) [] trivial) (Weak.trans (Weak.objs (os':=[one .gone,one .gone,one (.row 116 3 false (RL s f 3)),rowI f.ls,one .gone,rowI t.sk]) rfl) (Weak.trans (Weak.shift 2 0 (by decide) (by simp) (by simp) (by simp) (fun j=>by cases j <;> rfl) (by simp [Fam.names,O.names,RL_names s f 3 0 rfl])) (Weak.trans (Weak.objs (os':=[one (.row 116 3 false (RL s f 3)),one .gone,one .gone,rowI f.ls,one .gone,rowI t.sk]) (congrArg (fun r=>([one (.row 116 3 false r),one .gone,one .gone,rowI f.ls,one .gone,rowI t.sk]:Objs)) (RL_ren s f 3 2 0 rfl))) (Weak.trans (Weak.shift 3 1 (by decide) (by simp) (by simp) (by simp) (fun j=>by cases j <;> rfl) (by simp [Fam.names,O.names,RL_names s f 3 1 rfl])) (Weak.trans (Weak.objs (os':=[one (.row 116 3 false (RL s f 1)),rowI f.ls,one .gone,one .gone,one .gone,rowI t.sk]) (congrArg (fun r=>([one (.row 116 3 false r),rowI f.ls,one .gone,one .gone,one .gone,rowI t.sk]:Objs)) (RL_ren' s f 3 1))) (Weak.trans (Weak.shift 5 2 (by decide) (by simp) (by simp) (by simp) (fun j=>by cases j <;> rfl) (by simp [Fam.names,O.names,RL_names s f 1 2 rfl])) (Weak.trans (Weak.objs (os':=[one (.row 116 3 false (RL s f 1)),rowI f.ls,rowI t.sk,one .gone,one .gone,one .gone]) (congrArg (fun r=>([one (.row 116 3 false r),rowI f.ls,rowI t.sk,one .gone,one .gone,one .gone]:Objs)) (RL_ren s f 1 5 2 rfl))) (Weak.trim 3 (by simp) (by simp [Fam.lt,O.lt,RL_lt s f 1 3 rfl]) (by simp))))))))),rfl,rfl⟩
theorem RL_map (s:List Fm) (f:Fm) (q n:Nat):D.mapIdL (lead [] n) (RL s f q) = RL s f (lead [] n q 0).1:=by
 rw [RL,mapIdL_append,mapIdL_pure _ _ (pureL_map (fun _=>rfl) _)]
 rfl
theorem RL_last (s:List Fm) (f:Fm) (q:Nat):(RL s f q)[s.length]? = some (.agg [.int .i64 f.fn,.int .i64 f.pc,.sl q 0 1 0 f.ls.length none]):=by
 have e:s.length = (s.map frD).length:=(List.length_map ..).symm
 rw [RL,e]
 simp
theorem set139 (t:Th) (ht:t.okB) (s:List Fm) (f:Fm) (hs:t.fr = s ++ [f]) (i:Nat) (hi:i < f.ls.length) (v:Int):Spec Tryz.prog 141 [thD t,.int .i64 i,.int .i64 v] [] (fun d os'=>d = thD { t with fr:=s ++ [⟨f.fn,f.pc,f.ls.set i (keep v)⟩] }∧os' = []):=by
 refine Spec.frz (post':=fun d=>d = thD { t with fr:=s ++ [⟨f.fn,f.pc,f.ls.set i (keep v)⟩] }) ?_
 have hl':t.fr.length = s.length+1:=by rw [hs]; simp
 have hb:=ht.1
 have e:(((t.fr.length:Nat):Int) - 1).toNat = s.length:=by omega
 have hget:(RL s f 3)[0+(((t.fr.length:Nat):Int) - 1).toNat]? = some (.agg [.int .i64 f.fn,.int .i64 f.pc,.sl 3 0 1 0 f.ls.length none]):=by
  rw [e,Nat.zero_add]; exact RL_last s f 3
 have hgl:f.ls[0+i]? = some (f.ls[i]):=by rw [Nat.zero_add]; exact List.getElem?_eq_getElem hi
 refine Spec.by Tryz.func141 rfl (by decide) (by decide +kernel) rfl ?_
 refine goA ?_
 refine Call.mk ((clone59L t ht s f hs).onto _ rfl) ?_
 rintro d os' ⟨d1,os1,⟨rfl,rfl⟩,rfl,rfl⟩
 refine goR ?_
 refine Pt.weak (Weak.objs (os':=[one (.row 42 5 false [thD t]),one (.row 42 5 false [z29]),one (.row 116 3 false (D.mapIdL (lead [] 2) (RL s f 1))),rowI f.ls,rowI t.sk,one (.row 42 5 false [.agg [.int .i64 t.st,.int .i64 t.on,.sl 2 0 3 0 t.fr.length none,.sl 4 0 1 0 t.sk.length none,.int .i64 t.code]])]) (by kernel_rfl)) ?_
 refine Pt.weak (Weak.objs (os':=[one (.row 42 5 false [thD t]),one (.row 42 5 false [z29]),one (.row 116 3 false (RL s f 3)),rowI f.ls,rowI t.sk,one (.row 42 5 false [.agg [.int .i64 t.st,.int .i64 t.on,.sl 2 0 3 0 t.fr.length none,.sl 4 0 1 0 t.sk.length none,.int .i64 t.code]])]) (congrArg (fun r=>([one (.row 42 5 false [thD t]),one (.row 42 5 false [z29]),one (.row 116 3 false r),rowI f.ls,rowI t.sk,one (.row 42 5 false [.agg [.int .i64 t.st,.int .i64 t.on,.sl 2 0 3 0 t.fr.length none,.sl 4 0 1 0 t.sk.length none,.int .i64 t.code]])]:Objs)) (RL_map s f 1 2))) ?_
 refine goA ?_
 refine Opt.of hget ?_
 refine goA ?_
 refine Call.mk (keep36 v _) ?_
 rintro d os' ⟨rfl,rfl⟩
 refine goA ?_
 refine And.intro (by (conv=>whnf); refine Opt.of hget ?_; (conv=>whnf); refine And.intro rfl ?_; refine Opt.mk ?_; (conv=>whnf)) ?_
 refine goA ?_
 refine Opt.of (get_map hgl) ?_
 refine goA ?_
 refine Ret.mk [.cell 6 42] rfl ?_; (refine goA ?_)
 have e4:(f.ls.map (D.int .i64)).set (0+i) (.int .i64 (keep v)) = (f.ls.set i (keep v)).map (D.int .i64):=by rw [Nat.zero_add,List.map_set]
 refine ⟨thD { t with fr:=s ++ [⟨f.fn,f.pc,f.ls.set i (keep v)⟩] },View.agg (.cons (.same _) (.cons (.same _) (.cons (View.slAll rfl (t:=116) (pr:=false) (es:=RL s f 3) rfl ?_ (by simp) ?_ (pureL_map (fun _=>rfl) _)) (.cons (View.slAll rfl rfl (by simp) (by simp) (ViewL.same _) (pureL_map (fun _=>rfl) _)) (.same _))))),rfl,rfl⟩
 ·rw [RL]; simp [hl']
 ·rw [RL,List.map_append]
  refine ViewL.append (.same _) (.cons (.agg (.cons (.same _) (.cons (.same _) (.cons (View.slAll rfl (t:=3) (pr:=true) (es:=(f.ls.map (D.int .i64)).set (0+i) (.int .i64 (keep v))) rfl (by simp) (by simp) ?_ (pureL_map (fun _=>rfl) _)) .nil)))) .nil)
  rw [e4]
  exact .same _
theorem pop52e (t:Th) (hs:t.sk = []):Spec Tryz.prog 214 [thD t] [] (fun d os'=>d = .tup [thD t,.int .i64 0,.bool false]∧os' = []):=by
 refine Spec.frz (post':=fun d=>d = .tup [thD t,.int .i64 0,.bool false]) ?_
 have hlen:(t.sk.map (D.int .i64)).length = 0:=by rw [hs]; rfl
 refine Spec.by Tryz.func214 rfl (by decide) (by decide +kernel) rfl ?_
 refine goA ?_
 refine Ret.mk [.cell 2 42,.tmp 3,.tmp 4] rfl ?_; (refine goA ?_)
 exact ⟨_,View.same _,rfl,rfl⟩
theorem pop133e (t:Th) (hs:t.sk = []):Spec Tryz.prog 136 [thD t] [] (fun d os'=>d = .tup [thD t,.int .i64 0,.bool false]∧os' = []):=by
 refine Spec.frz (post':=fun d=>d = .tup [thD t,.int .i64 0,.bool false]) ?_
 have hlen:(t.sk.map (D.int .i64)).length = 0:=by rw [hs]; rfl
 refine Spec.by Tryz.func136 rfl (by decide) (by decide +kernel) rfl ?_
 refine goA ?_
 refine Ret.mk [.cell 2 42,.tmp 3,.tmp 4] rfl ?_; (refine goA ?_)
 exact ⟨_,View.same _,rfl,rfl⟩
structure KT (g:Pg) (x:Th):Prop where
 fl:1≤x.fr.length∧x.fr.length≤8
 sl:x.sk.length≤16
 fr:∀ f ∈ x.fr,oddF g f = false
theorem KT.okB {g:Pg} (hg:GoodP g) {x:Th} (hx:KT g x):x.okB:=⟨by have:=hx.fl; omega,by have:=hx.sl; omega,fun f hf=>by have:=odd_ls hg (hx.fr f hf); omega⟩
theorem KT.push {g:Pg} {x:Th} (hx:KT g x) (v:Int):KT g (pushT x v).1:=by
 unfold pushT
 split
 ·exact hx
 ·exact ⟨hx.fl,by have:=hx.sl; simp; omega,hx.fr⟩
theorem KT.enter {g:Pg} {x:Th} (hx:KT g x) (f:Fm) (hf:oddF g f = false):KT g (enterT x f).1:=by
 unfold enterT
 split
 ·exact hx
 ·refine ⟨by have:=hx.fl; simp; omega,hx.sl,fun y hy=>?_⟩
  rcases List.mem_append.1 hy with hy | hy
  ·exact hx.fr y hy
  ·simp only [List.mem_singleton] at hy; subst hy; exact hf
theorem odd_inv {g:Pg} {f:Fm} (h:oddF g f = false):∃ (k pc:Nat) (u:Fu),f.fn = k∧f.pc = pc∧g.fu[k]? = some u∧pc≤u.code.length∧(f.ls.length:Int) = u.loc∧kept f.ls = true:=by
 unfold oddF at h
 split at h
 ·simp at h
 ·rename_i h0
  split at h
  ·simp at h
  ·rename_i u hu
   simp at h
   exact ⟨f.fn.toNat,f.pc.toNat,u,by omega,by omega,hu,by omega,by omega,h.2⟩
structure Rq where
 kd:Int
 a:Int
 v:Int
deriving DecidableEq
def rqD (q:Rq):D:=.agg [.int .i64 q.kd,.int .i64 q.a,.int .i64 q.v]
@[reducible] def mD (g:Pg) (t:Th) (a e:Int) (q:Rq):D:=.agg [.lst 2 false (g.fu.map fuD),.int .i64 g.mu,ints g.co,ints g.se,ints g.ch,.lst 1 false (g.cs.map ints),.int .i64 g.th,.int .i64 t.st,.int .i64 t.on,.lst 3 false (t.fr.map frD),ints t.sk,.int .i64 t.code,.int .i64 a,.int .i64 e,.int .i64 q.kd,.int .i64 q.a,.int .i64 q.v]
@[reducible] def mO (g:Pg) (t:Th) (a e:Int) (q:Rq):Fam:=one (.row 154 17 false [mD g t a e q])
def underE (e:Int) (b:Bool) (c:Int):Int:=if b = false∧e < 0 then c else e
def popM (t:Th):Th × Int × Bool:=match t.sk.getLast? with
 | none=>(t,0,false)
 | some v=>({ t with sk:=t.sk.dropLast },v,true)
theorem popM_nil {t:Th} (h:t.sk = []):popM t = (t,0,false):=by unfold popM; rw [h]; rfl
theorem popM_snoc {t:Th} {s:List Int} {v:Int} (h:t.sk = s ++ [v]):popM t = ({ t with sk:=s },v,true):=by unfold popM; rw [h]; simp
theorem pop52m (t:Th) (hl:t.sk.length≤1000000):Spec Tryz.prog 214 [thD t] [] (fun d os'=>d = .tup [thD (popM t).1,.int .i64 (popM t).2.1,.bool (popM t).2.2]∧os' = []):=by
 by_cases hk:t.sk = []
 ·rw [popM_nil hk]; exact pop52e t hk
 ·obtain ⟨l,n,hln⟩:∃ l n,t.sk = l ++ [n]:=⟨t.sk.dropLast,t.sk.getLast hk,(List.dropLast_concat_getLast hk).symm⟩
  rw [popM_snoc hln]
  exact pop52 t l n hln (by have:t.sk.length = l.length+1:=(by rw [hln]; simp); omega)
theorem mpop199 (g:Pg) (t:Th) (a e:Int) (q:Rq) (hl:t.sk.length≤1000000):Spec Tryz.prog 163 [.ptr 0 0 17 0 0] [mO g t a e q] (fun d os'=>∃ y,(d = .int .i64 (popM t).2.1∧y = mD g (popM t).1 a (underE e (popM t).2.2 1) q)∧os' = [one (.row 154 17 false [y])]):=by
 refine Spec.by Tryz.func163 rfl (by decide) (by decide +kernel) rfl ?_
 refine goA ?_
 refine Call.mk ((pop52m t hl).only _ rfl (by rintro d rfl; rfl)) ?_
 rintro d os' ⟨rfl,rfl⟩
 generalize popM t = p
 obtain ⟨t',v,b⟩:=p
 dsimp only
 refine goA ?_
 cases b with
 | true =>
  refine goA ?_
  refine Ret.trim 1 (by simp) rfl (bl rfl) ?_
  refine Ret.mk [.tmp 2] rfl ?_; (refine goA ?_)
  exact ⟨_,⟨rfl,by simp [underE]⟩,rfl⟩
 | false =>
  refine goA ?_
  refine Br.dec (fun h=>?_) (fun h=>?_)
  ·refine goA ?_
   refine Ret.trim 1 (by simp) rfl (bl rfl) ?_
   refine Ret.mk [.tmp 2] rfl ?_; (refine goA ?_)
   exact ⟨_,⟨rfl,by simp [underE,h]⟩,rfl⟩
  ·refine goA ?_
   refine Ret.trim 1 (by simp) rfl (bl rfl) ?_
   refine Ret.mk [.tmp 2] rfl ?_; (refine goA ?_)
   exact ⟨_,⟨rfl,by simp [underE,h]⟩,rfl⟩
def pushL (t:Th) (e:Int):List Int→Th × Int
 | []=>(t,e)
 | v :: l=>pushL (pushT t v).1 (underE e (pushT t v).2 2) l
theorem pushL_snoc (v:Int):∀ (l:List Int) (t:Th) (e:Int),pushL t e (l ++ [v]) = ((pushT (pushL t e l).1 v).1,underE (pushL t e l).2 (pushT (pushL t e l).1 v).2 2)
 | [],t,e=>rfl
 | x :: l,t,e=>by simp only [List.cons_append,pushL]; rw [pushL_snoc v l]
theorem pushT_sk (t:Th) (v:Int) (h:t.sk.length≤16):(pushT t v).1.sk.length≤16:=by
 unfold pushT
 split
 ·exact h
 ·simp; omega
theorem pushL_sk:∀ (l:List Int) (t:Th) (e:Int),t.sk.length≤16→(pushL t e l).1.sk.length≤16
 | [],t,e,h=>h
 | v :: l,t,e,h=>by simp only [pushL]; exact pushL_sk l _ _ (pushT_sk t v h)
theorem mpush168 (g:Pg) (t:Th) (a e:Int) (q:Rq) (l:List Int) (hsk:t.sk.length≤16) (hl:l.length≤1000000):Spec Tryz.prog 161 [.ptr 0 0 17 0 0,ints l] [mO g t a e q] (fun d os'=>∃ y,(d = .tup []∧y = mD g (pushL t e l).1 a (pushL t e l).2 q)∧os' = [one (.row 154 17 false [y])]):=by
 have hlm:(l.map (D.int .i64)).length = l.length:=List.length_map ..
 refine Spec.by Tryz.func161 rfl (by decide) (by decide +kernel) rfl ?_
 refine goA ?_
 refine Loop.inv (A:=Nat) (List.range 40) (fun i=>[(0,.ptr 0 0 17 0 0),(8,ints l),(9,.int .i64 ((l.map (D.int .i64)).length:Int)),(10,.int .i64 (i:Int))]) (fun i=>[mO g (pushL t e (l.take i)).1 a (pushL t e (l.take i)).2 q]) (fun i=>i≤l.length) (fun i=>l.length - i) 0 (Nat.zero_le _) ?_ ?_
 ·exact Weak.start' rfl rfl tld
 intro i hi
 refine goA ?_
 refine Br.dec (fun h=>?_) (fun h=>?_)
 ·have hil:i < l.length:=by omega
  have hget:l[i]? = some l[i]:=List.getElem?_eq_getElem hil
  have htk:l.take (i+1) = l.take i ++ [l[i]]:=by rw [List.take_add_one,hget]; rfl
  have hp:=pushL_sk (l.take i) t e hsk
  refine goA ?_
  refine Opt.of (get_map hget) ?_
  refine goA ?_
  refine Call.mk ((push40 (pushL t e (l.take i)).1 l[i] (by omega)).only _ rfl (by rintro d rfl; rfl)) ?_
  rintro d os' ⟨rfl,rfl⟩
  have hsn:=pushL_snoc l[i] (l.take i) t e
  rw [← htk] at hsn
  obtain ⟨u,b,hub⟩:∃ u b,pushT (pushL t e (l.take i)).1 l[i] = (u,b):=⟨_,_,rfl⟩
  rw [hub] at hsn ⊢
  dsimp only at hsn ⊢
  have fin:∀ e':Int,e' = underE (pushL t e (l.take i)).2 b 2→(one (.row 154 17 false [mD g u a e' q]):Fam) = mO g (pushL t e (l.take (i+1))).1 a (pushL t e (l.take (i+1))).2 q:=by
   intro e' he
   rw [hsn,he]
  cases b with
  | true =>
   refine goA ?_
   refine ⟨_,_,_,?_,⟨i+1,?_,rfl,rfl,rfl⟩,?_⟩
   ·omega
   ·omega
   ·refine Weak.backT 1 (by simp) ?_ (by kernel_rfl) (bl rfl) tld (by kernel_rfl) (by kernel_rfl)
    exact congrArg (fun r=>([r]:Objs)) (fin _ (by simp [underE]))
  | false =>
   refine goA ?_
   refine Br.dec (fun h2=>?_) (fun h2=>?_)
   ·refine goA ?_
    refine ⟨_,_,_,?_,⟨i+1,?_,rfl,rfl,rfl⟩,?_⟩
    ·omega
    ·omega
    ·refine Weak.backT 1 (by simp) ?_ (by kernel_rfl) (bl rfl) tld (by kernel_rfl) (by kernel_rfl)
     exact congrArg (fun r=>([r]:Objs)) (fin _ (by simp [underE,h2]))
   ·refine goA ?_
    refine ⟨_,_,_,?_,⟨i+1,?_,rfl,rfl,rfl⟩,?_⟩
    ·omega
    ·omega
    ·refine Weak.backT 1 (by simp) ?_ (by kernel_rfl) (bl rfl) tld (by kernel_rfl) (by kernel_rfl)
     exact congrArg (fun r=>([r]:Objs)) (fin _ (by simp [underE,h2]))
 ·have hil:i = l.length:=by omega
  subst hil
  refine goA ?_
  refine Ret.trim 1 (by simp) rfl (bl rfl) ?_
  refine Ret.mk [] rfl ⟨_,⟨rfl,?_⟩,rfl⟩
  rw [List.take_length]
@[reducible] def MP (g:Pg) (a:Int) (p:Th × Int) (q:Rq):D→Objs→Prop:=fun d os'=>∃ y,(d = .tup []∧y = mD g p.1 a p.2 q)∧os' = [one (.row 154 17 false [y])]
@[reducible] def popE (t:Th) (e:Int):Th × Int:=((popM t).1,underE e (popM t).2.2 1)
theorem popM_sk (t:Th):(popM t).1.sk.length≤t.sk.length:=by
 unfold popM
 split
 ·exact Nat.le_refl _
 ·simp
theorem popM_fr (t:Th):(popM t).1.fr = t.fr:=by
 unfold popM
 split <;> rfl
theorem c197 (g:Pg) (t:Th) (a e:Int) (q:Rq) (h:t.sk.length≤16):Spec Tryz.prog 160 [.ptr 0 0 17 0 0] [mO g t a e q] (MP g a (pushL t e [a]) q):=by
 refine Spec.by Tryz.func160 rfl (by decide) (by decide +kernel) rfl ?_
 refine goA ?_
 refine App.only false rfl rfl ?_
 refine goA ?_
 refine Call.mk ((mpush168 g t a e q [a] h (by simp)).cellAt 0 _ rfl (fun j hj=>one_pos _ hj) rfl rfl (by rintro d y ⟨rfl,rfl⟩; exact ⟨rfl,rfl⟩)) ?_; rintro d os' ⟨y,⟨rfl,rfl⟩,rfl⟩
 refine goA ?_
 refine Ret.trim 1 (by simp) rfl (bl rfl) ?_
 exact Ret.mk [] rfl (by (conv=>whnf); exact ⟨_,⟨rfl,rfl⟩,rfl⟩)
theorem c198 (g:Pg) (t:Th) (a e:Int) (q:Rq) (h:t.sk.length≤16):Spec Tryz.prog 162 [.ptr 0 0 17 0 0] [mO g t a e q] (MP g a (popE t e) q):=by
 refine Spec.by Tryz.func162 rfl (by decide) (by decide +kernel) rfl ?_
 refine goA ?_
 refine Call.mk ((mpop199 g t a e q (by omega)).cellAt 0 _ rfl (fun j hj=>one_pos _ hj) rfl rfl (by rintro d y ⟨rfl,rfl⟩; exact ⟨rfl,rfl⟩)) ?_; rintro d os' ⟨y,⟨rfl,rfl⟩,rfl⟩
 refine goA ?_
 refine Ret.trim 1 (by simp) rfl (bl rfl) ?_
 exact Ret.mk [] rfl (by (conv=>whnf); exact ⟨_,⟨rfl,rfl⟩,rfl⟩)
theorem c200 (g:Pg) (t:Th) (a e:Int) (q:Rq) (h:t.sk.length≤16):Spec Tryz.prog 164 [.ptr 0 0 17 0 0] [mO g t a e q] (MP g a (pushL (popE t e).1 (popE t e).2 [(popM t).2.1,(popM t).2.1]) q):=by
 have hp:=popM_sk t
 refine Spec.by Tryz.func164 rfl (by decide) (by decide +kernel) rfl ?_
 refine goA ?_
 refine Call.mk ((mpop199 g t a e q (by omega)).cellAt 0 _ rfl (fun j hj=>one_pos _ hj) rfl rfl (by rintro d y ⟨rfl,rfl⟩; exact ⟨rfl,rfl⟩)) ?_; rintro d os' ⟨y,⟨rfl,rfl⟩,rfl⟩
 refine goA ?_
 refine App.only false rfl rfl ?_
 refine goA ?_
 refine Call.mk ((mpush168 g (popM t).1 a (underE e (popM t).2.2 1) q [(popM t).2.1,(popM t).2.1] (by omega) (by simp)).cellAt 0 _ rfl (fun j hj=>one_pos _ hj) rfl rfl (by rintro d y ⟨rfl,rfl⟩; exact ⟨rfl,rfl⟩)) ?_; rintro d os' ⟨y,⟨rfl,rfl⟩,rfl⟩
 refine goA ?_
 refine Ret.trim 1 (by simp) rfl (bl rfl) ?_
 exact Ret.mk [] rfl (by (conv=>whnf); exact ⟨_,⟨rfl,rfl⟩,rfl⟩)
theorem c201 (n:Nat):Spec Tryz.prog 165 [.fn (.func n) [] []] [] (fun d os'=>d = .fn (.func 215) [] [.pel (.fn (.func n) [] []) 0]∧os' = []):=by
 refine Spec.frz (post':=fun d=>d = .fn (.func 215) [] [.pel (.fn (.func n) [] []) 0]) ?_
 refine Spec.by Tryz.func165 rfl (by decide) (by decide +kernel) rfl ?_
 refine goA ?_
 refine Ret.mk [.tmp 2] rfl ?_; (refine goA ?_)
 exact ⟨_,View.fn .nil (.cons (View.ptr rfl rfl rfl (.same _) rfl) .nil),rfl,rfl⟩
theorem c202 (x y:Int) (hx:-1073741824≤x∧x≤1073741824) (hy:-1073741824≤y∧y≤1073741824):Spec Tryz.prog 166 [.int .i64 x,.int .i64 y] [] (fun d os'=>d = .int .i64 (x+y)∧os' = []):=by
 refine Spec.by Tryz.func166 rfl (by decide) (by decide +kernel) rfl ?_
 refine goA ?_
 refine Ret.mk [.tmp _] rfl ?_; refine And.intro ?_ rfl
 rfl
theorem c203 (x y:Int) (hx:-1073741824≤x∧x≤1073741824) (hy:-1073741824≤y∧y≤1073741824):Spec Tryz.prog 167 [.int .i64 x,.int .i64 y] [] (fun d os'=>d = .int .i64 (x - y)∧os' = []):=by
 refine Spec.by Tryz.func167 rfl (by decide) (by decide +kernel) rfl ?_
 refine goA ?_
 refine Ret.mk [.tmp _] rfl ?_; refine And.intro ?_ rfl
 rfl
theorem c227 (n:Nat) (F:Int→Int→Int) (g:Pg) (t:Th) (a e:Int) (q:Rq) (h:t.sk.length≤16)
  (hF:Spec Tryz.prog n [.int .i64 (popM (popM t).1).2.1,.int .i64 (popM t).2.1] [] (fun d os'=>d = .int .i64 (F (popM (popM t).1).2.1 (popM t).2.1)∧os' = [])) :
  Spec Tryz.prog 215 [.ptr 0 0 17 0 0,.pel (.fn (.func n) [] []) 0] [mO g t a e q] (MP g a (pushL (popM (popM t).1).1 (underE (underE e (popM t).2.2 1) (popM (popM t).1).2.2 1) [F (popM (popM t).1).2.1 (popM t).2.1]) q):=by
 have hp:=popM_sk t
 have hp2:=popM_sk (popM t).1
 refine Spec.by Tryz.func215 rfl (by decide) (by decide +kernel) rfl ?_
 refine goA ?_
 refine Call.mk ((mpop199 g t a e q (by omega)).cellAt 0 _ rfl (fun j hj=>one_pos _ hj) rfl rfl (by rintro d y ⟨rfl,rfl⟩; exact ⟨rfl,rfl⟩)) ?_; rintro d os' ⟨y,⟨rfl,rfl⟩,rfl⟩
 refine goA ?_
 refine Call.mk ((mpop199 g (popM t).1 a (underE e (popM t).2.2 1) q (by omega)).cellAt 0 _ rfl (fun j hj=>one_pos _ hj) rfl rfl (by rintro d y ⟨rfl,rfl⟩; exact ⟨rfl,rfl⟩)) ?_; rintro d os' ⟨y,⟨rfl,rfl⟩,rfl⟩
 refine goA ?_
 refine Call.mk ((hF).only _ rfl (by rintro d rfl; rfl)) ?_; rintro d os' ⟨rfl,rfl⟩
 refine goA ?_
 refine App.only false rfl rfl ?_
 refine goA ?_
 refine Call.mk ((mpush168 g (popM (popM t).1).1 a (underE (underE e (popM t).2.2 1) (popM (popM t).1).2.2 1) q [F (popM (popM t).1).2.1 (popM t).2.1] (by omega) (by simp)).cellAt 0 _ rfl (fun j hj=>one_pos _ hj) rfl rfl (by rintro d y ⟨rfl,rfl⟩; exact ⟨rfl,rfl⟩)) ?_; rintro d os' ⟨y,⟨rfl,rfl⟩,rfl⟩
 refine goA ?_
 refine Ret.trim 1 (by simp) rfl (bl rfl) ?_
 exact Ret.mk [] rfl (by (conv=>whnf); exact ⟨_,⟨rfl,rfl⟩,rfl⟩)
theorem c204 (g:Pg) (t:Th) (a e:Int) (q:Rq) (h:t.sk.length≤16) (s:List Fm) (f:Fm) (hs:t.fr = s ++ [f]) (hl:s.length≤1000000) (i:Nat) (hi:a = i) (v:Int) (hv:f.ls[i]? = some v):Spec Tryz.prog 168 [.ptr 0 0 17 0 0] [mO g t a e q] (MP g a (pushL t e [v]) q):=by
 subst hi
 refine Spec.by Tryz.func168 rfl (by decide) (by decide +kernel) rfl ?_
 refine goA ?_
 refine Call.mk ((get140 t s f hs hl i v hv).only _ rfl (by rintro d rfl; rfl)) ?_; rintro d os' ⟨rfl,rfl⟩
 refine goA ?_
 refine App.only false rfl rfl ?_
 refine goA ?_
 refine Call.mk ((mpush168 g t i e q [v] h (by simp)).cellAt 0 _ rfl (fun j hj=>one_pos _ hj) rfl rfl (by rintro d y ⟨rfl,rfl⟩; exact ⟨rfl,rfl⟩)) ?_; rintro d os' ⟨y,⟨rfl,rfl⟩,rfl⟩
 refine goA ?_
 refine Ret.trim 1 (by simp) rfl (bl rfl) ?_
 exact Ret.mk [] rfl (by (conv=>whnf); exact ⟨_,⟨rfl,rfl⟩,rfl⟩)
theorem c205 (g:Pg) (t:Th) (a e:Int) (q:Rq) (h:t.sk.length≤16) (s:List Fm) (f:Fm) (hs:t.fr = s ++ [f]) (hl:s.length≤1000000) (hf:f.ls.length≤1000000) (i:Nat) (hi:a = i) (hil:i < f.ls.length):Spec Tryz.prog 170 [.ptr 0 0 17 0 0] [mO g t a e q] (MP g a ({ (popM t).1 with fr:=s ++ [⟨f.fn,f.pc,f.ls.set i (keep (popM t).2.1)⟩] },underE e (popM t).2.2 1) q):=by
 subst hi
 refine Spec.by Tryz.func170 rfl (by decide) (by decide +kernel) rfl ?_
 refine goA ?_
 refine Call.mk ((mpop199 g t i e q (by omega)).cellAt 0 _ rfl (fun j hj=>one_pos _ hj) rfl rfl (by rintro d y ⟨rfl,rfl⟩; exact ⟨rfl,rfl⟩)) ?_; rintro d os' ⟨y,⟨rfl,rfl⟩,rfl⟩
 refine goA ?_
 refine Call.mk ((set138 (popM t).1 s f (by rw [popM_fr]; exact hs) hl hf i hil (popM t).2.1).only _ rfl (by rintro d rfl; rfl)) ?_; rintro d os' ⟨rfl,rfl⟩
 refine goA ?_
 refine Ret.trim 1 (by simp) rfl (bl rfl) ?_
 exact Ret.mk [] rfl (by (conv=>whnf); exact ⟨_,⟨rfl,rfl⟩,rfl⟩)
theorem c206 (g:Pg) (t:Th) (a e:Int) (q:Rq) (s:List Fm) (f:Fm) (hs:t.fr = s ++ [f]) (hl:s.length≤1000000):Spec Tryz.prog 172 [.ptr 0 0 17 0 0] [mO g t a e q] (MP g a ({ t with fr:=s ++ [⟨f.fn,a,f.ls⟩] },e) q):=by
 refine Spec.by Tryz.func172 rfl (by decide) (by decide +kernel) rfl ?_
 refine goA ?_
 refine Call.mk ((jump136 t s f hs hl a).only _ rfl (by rintro d rfl; rfl)) ?_; rintro d os' ⟨rfl,rfl⟩
 refine goA ?_
 refine Ret.trim 1 (by simp) rfl (bl rfl) ?_
 exact Ret.mk [] rfl (by (conv=>whnf); exact ⟨_,⟨rfl,rfl⟩,rfl⟩)
theorem c207 (g:Pg) (t:Th) (a e:Int) (q:Rq) (h:t.sk.length≤16) (s:List Fm) (f:Fm) (hs:t.fr = s ++ [f]) (hl:s.length≤1000000):Spec Tryz.prog 173 [.ptr 0 0 17 0 0] [mO g t a e q] (MP g a (if (popM t).2.1 = 0 then { (popM t).1 with fr:=s ++ [⟨f.fn,a,f.ls⟩] } else (popM t).1,underE e (popM t).2.2 1) q):=by
 refine Spec.by Tryz.func173 rfl (by decide) (by decide +kernel) rfl ?_
 refine goA ?_
 refine Call.mk ((mpop199 g t a e q (by omega)).cellAt 0 _ rfl (fun j hj=>one_pos _ hj) rfl rfl (by rintro d y ⟨rfl,rfl⟩; exact ⟨rfl,rfl⟩)) ?_; rintro d os' ⟨y,⟨rfl,rfl⟩,rfl⟩
 refine goA ?_
 refine Br.dec (fun h0=>?_) (fun h0=>?_)
 ·refine goA ?_
  refine Call.mk ((jump136 (popM t).1 s f (by rw [popM_fr]; exact hs) hl a).only _ rfl (by rintro d rfl; rfl)) ?_; rintro d os' ⟨rfl,rfl⟩
  refine goA ?_
  refine Ret.trim 1 (by simp) rfl (bl rfl) ?_
  rw [if_pos h0]
  exact Ret.mk [] rfl (by (conv=>whnf); exact ⟨_,⟨rfl,rfl⟩,rfl⟩)
 ·refine goA ?_
  refine Ret.trim 1 (by simp) rfl (bl rfl) ?_
  rw [if_neg h0]
  exact Ret.mk [] rfl (by (conv=>whnf); exact ⟨_,⟨rfl,rfl⟩,rfl⟩)
theorem c208 (g:Pg) (t:Th) (a e:Int) (q:Rq) (k:Nat) (u:Fu) (ha:a = k) (hu:g.fu[k]? = some u) (h0:0≤u.loc∧u.loc≤100) (hl:t.fr.length≤1000000):Spec Tryz.prog 174 [.ptr 0 0 17 0 0] [mO g t a e q] (MP g a ((enterT t ⟨k,0,List.replicate u.loc.toNat 0⟩).1,if (enterT t ⟨k,0,List.replicate u.loc.toNat 0⟩).2 then e else 3) q):=by
 subst ha
 refine Spec.by Tryz.func174 rfl (by decide) (by decide +kernel) rfl ?_
 refine goA ?_
 refine Call.mk ((enter39 g t k u hu h0 (by omega)).only _ rfl (by rintro d rfl; rfl)) ?_; rintro d os' ⟨rfl,rfl⟩
 obtain ⟨t',b,hb⟩:∃ t' b,enterT t ⟨k,0,List.replicate u.loc.toNat 0⟩ = (t',b):=⟨_,_,rfl⟩
 rw [hb]
 cases b with
 | true =>
  refine goA ?_
  refine Ret.trim 1 (by simp) rfl (bl rfl) ?_
  exact Ret.mk [] rfl (by (conv=>whnf); exact ⟨_,⟨rfl,rfl⟩,rfl⟩)
 | false =>
  refine goA ?_
  refine Ret.trim 1 (by simp) rfl (bl rfl) ?_
  exact Ret.mk [] rfl (by (conv=>whnf); exact ⟨_,⟨rfl,rfl⟩,rfl⟩)
theorem c209 (g:Pg) (t:Th) (a e:Int) (q:Rq) (s:List Fm) (f:Fm) (hs:t.fr = s ++ [f]) (hl:s.length≤1000000):Spec Tryz.prog 175 [.ptr 0 0 17 0 0] [mO g t a e q] (MP g a ({ t with fr:=s },if s = [] then 0 else e) q):=by
 have hlm:(t.fr.map frD).length = s.length+1:=by rw [List.length_map,hs]; simp
 refine Spec.by Tryz.func175 rfl (by decide) (by decide +kernel) rfl ?_
 refine goA ?_
 refine Call.mk ((leave54 t s f hs hl).only _ rfl (by rintro d rfl; rfl)) ?_; rintro d os' ⟨rfl,rfl⟩
 by_cases h:s = []
 ·have hb:decide (0 < (((t.fr.map frD).length:Nat):Int) - 1) = false:=decide_eq_false (by rw [hlm,h]; simp)
  rw [hb,if_pos h]
  refine goA ?_
  refine Ret.trim 1 (by simp) rfl (bl rfl) ?_
  exact Ret.mk [] rfl (by (conv=>whnf); exact ⟨_,⟨rfl,rfl⟩,rfl⟩)
 ·have hb:decide (0 < (((t.fr.map frD).length:Nat):Int) - 1) = true:=decide_eq_true (by have:=List.length_pos_iff.2 h; omega)
  rw [hb,if_neg h]
  refine goA ?_
  refine Ret.trim 1 (by simp) rfl (bl rfl) ?_
  exact Ret.mk [] rfl (by (conv=>whnf); exact ⟨_,⟨rfl,rfl⟩,rfl⟩)
theorem c210 (g:Pg) (t:Th) (a e:Int) (q:Rq):Spec Tryz.prog 176 [.ptr 0 0 17 0 0] [mO g t a e q] (MP g a (t,0) q):=by
 refine Spec.by Tryz.func176 rfl (by decide) (by decide +kernel) rfl ?_
 refine goA ?_
 refine Ret.trim 1 (by simp) rfl (bl rfl) ?_
 exact Ret.mk [] rfl (by (conv=>whnf); exact ⟨_,⟨rfl,rfl⟩,rfl⟩)
theorem c211 (k:Int):Spec Tryz.prog 177 [.int .i64 k] [] (fun d os'=>d = .fn (.func 218) [] [.pel (.int .i64 k) 0]∧os' = []):=by
 refine Spec.frz (post':=fun d=>d = .fn (.func 218) [] [.pel (.int .i64 k) 0]) ?_
 refine Spec.by Tryz.func177 rfl (by decide) (by decide +kernel) rfl ?_
 refine goA ?_
 refine Ret.mk [.tmp 2] rfl ?_; (refine goA ?_)
 exact ⟨_,View.fn .nil (.cons (View.ptr rfl rfl rfl (.same _) rfl) .nil),rfl,rfl⟩
theorem c212 (k:Int):Spec Tryz.prog 178 [.int .i64 k] [] (fun d os'=>d = .fn (.func 219) [] [.pel (.int .i64 k) 0]∧os' = []):=by
 refine Spec.frz (post':=fun d=>d = .fn (.func 219) [] [.pel (.int .i64 k) 0]) ?_
 refine Spec.by Tryz.func178 rfl (by decide) (by decide +kernel) rfl ?_
 refine goA ?_
 refine Ret.mk [.tmp 2] rfl ?_; (refine goA ?_)
 exact ⟨_,View.fn .nil (.cons (View.ptr rfl rfl rfl (.same _) rfl) .nil),rfl,rfl⟩
theorem c228 (k:Int) (g:Pg) (t:Th) (a e:Int) (q:Rq):Spec Tryz.prog 218 [.ptr 0 0 17 0 0,.pel (.int .i64 k) 0] [mO g t a e q] (MP g a (t,e) ⟨k,a,0⟩):=by
 refine Spec.by Tryz.func218 rfl (by decide) (by decide +kernel) rfl ?_
 refine goA ?_
 refine Ret.trim 1 (by simp) rfl (bl rfl) ?_
 exact Ret.mk [] rfl (by (conv=>whnf); exact ⟨_,⟨rfl,rfl⟩,rfl⟩)
theorem c229 (k:Int) (g:Pg) (t:Th) (a e:Int) (q:Rq) (h:t.sk.length≤16):Spec Tryz.prog 219 [.ptr 0 0 17 0 0,.pel (.int .i64 k) 0] [mO g t a e q] (MP g a (popE t e) ⟨k,a,(popM t).2.1⟩):=by
 refine Spec.by Tryz.func219 rfl (by decide) (by decide +kernel) rfl ?_
 refine goA ?_
 refine Call.mk ((mpop199 g t a e q (by omega)).cellAt 0 _ rfl (fun j hj=>one_pos _ hj) rfl rfl (by rintro d y ⟨rfl,rfl⟩; exact ⟨rfl,rfl⟩)) ?_; rintro d os' ⟨y,⟨rfl,rfl⟩,rfl⟩
 refine goA ?_
 refine Ret.trim 1 (by simp) rfl (bl rfl) ?_
 exact Ret.mk [] rfl (by (conv=>whnf); exact ⟨_,⟨rfl,rfl⟩,rfl⟩)
@[reducible] def fnD (n:Nat):D:=.fn (.func n) [] []
@[reducible] def fnC (n:Nat) (d:D):D:=.fn (.func n) [] [.pel d 0]
def doesM:List (Int × D):=[(0,fnD 160),(1,fnD 162),(2,fnD 164),(3,fnC 215 (fnD 166)),(4,fnC 215 (fnD 167)),(5,fnD 168),(6,fnD 170),(7,fnD 172),(8,fnD 173),(9,fnD 174),(10,fnD 175),(26,fnD 176),
 (12,fnC 218 (.int .i64 2)),(11,fnC 218 (.int .i64 3)),(15,fnC 218 (.int .i64 6)),(16,fnC 218 (.int .i64 7)),(17,fnC 218 (.int .i64 8)),(18,fnC 218 (.int .i64 9)),(19,fnC 218 (.int .i64 10)),(20,fnC 218 (.int .i64 11)),(21,fnC 218 (.int .i64 12)),(23,fnC 218 (.int .i64 14)),(24,fnC 218 (.int .i64 15)),
 (13,fnC 219 (.int .i64 4)),(14,fnC 219 (.int .i64 5)),(25,fnC 219 (.int .i64 16)),(22,fnC 219 (.int .i64 13))]
theorem does162:Spec Tryz.prog 105 [] [] (fun d os'=>d = .mp 0 0∧os' = [one (.map doesM)]):=by
 refine Spec.by Tryz.func105 rfl (by decide) (by decide +kernel) rfl ?_
 refine goA ?_
 refine Call.mk ((c201 166).only _ rfl (by rintro d rfl; rfl)) ?_; rintro d os' ⟨rfl,rfl⟩
 refine goA ?_
 refine Call.mk ((c201 167).only _ rfl (by rintro d rfl; rfl)) ?_; rintro d os' ⟨rfl,rfl⟩
 refine goA ?_
 refine Call.mk ((c211 2).only _ rfl (by rintro d rfl; rfl)) ?_; rintro d os' ⟨rfl,rfl⟩
 refine goA ?_
 refine Call.mk ((c211 3).only _ rfl (by rintro d rfl; rfl)) ?_; rintro d os' ⟨rfl,rfl⟩
 refine goA ?_
 refine Call.mk ((c211 6).only _ rfl (by rintro d rfl; rfl)) ?_; rintro d os' ⟨rfl,rfl⟩
 refine goA ?_
 refine Call.mk ((c211 7).only _ rfl (by rintro d rfl; rfl)) ?_; rintro d os' ⟨rfl,rfl⟩
 refine goA ?_
 refine Call.mk ((c211 8).only _ rfl (by rintro d rfl; rfl)) ?_; rintro d os' ⟨rfl,rfl⟩
 refine goA ?_
 refine Call.mk ((c211 9).only _ rfl (by rintro d rfl; rfl)) ?_; rintro d os' ⟨rfl,rfl⟩
 refine goA ?_
 refine Call.mk ((c211 10).only _ rfl (by rintro d rfl; rfl)) ?_; rintro d os' ⟨rfl,rfl⟩
 refine goA ?_
 refine Call.mk ((c211 11).only _ rfl (by rintro d rfl; rfl)) ?_; rintro d os' ⟨rfl,rfl⟩
 refine goA ?_
 refine Call.mk ((c211 12).only _ rfl (by rintro d rfl; rfl)) ?_; rintro d os' ⟨rfl,rfl⟩
 refine goA ?_
 refine Call.mk ((c211 14).only _ rfl (by rintro d rfl; rfl)) ?_; rintro d os' ⟨rfl,rfl⟩
 refine goA ?_
 refine Call.mk ((c211 15).only _ rfl (by rintro d rfl; rfl)) ?_; rintro d os' ⟨rfl,rfl⟩
 refine goA ?_
 refine Call.mk ((c212 4).only _ rfl (by rintro d rfl; rfl)) ?_; rintro d os' ⟨rfl,rfl⟩
 refine goA ?_
 refine Call.mk ((c212 5).only _ rfl (by rintro d rfl; rfl)) ?_; rintro d os' ⟨rfl,rfl⟩
 refine goA ?_
 refine Call.mk ((c212 16).only _ rfl (by rintro d rfl; rfl)) ?_; rintro d os' ⟨rfl,rfl⟩
 refine goA ?_
 refine Call.mk ((c212 13).only _ rfl (by rintro d rfl; rfl)) ?_; rintro d os' ⟨rfl,rfl⟩
 refine goA ?_
 refine Ret.trim 1 (by simp) rfl (bl rfl) ?_
 refine Ret.mk [.tmp _] rfl ?_
 (conv=>whnf)
 exact ⟨rfl,rfl⟩
@[reducible] def nq:Rq:=⟨0,0,0⟩
@[reducible] def mk3 (p:Th × Int):Th × Int × Rq:=(p.1,p.2,nq)
def pop2 (t:Th):Th × Int × Int × Int:=((popM (popM t).1).1,underE (underE (-1) (popM t).2.2 1) (popM (popM t).1).2.2 1,(popM (popM t).1).2.1,(popM t).2.1)
def execM (g:Pg) (s:List Fm) (f:Fm) (t:Th) (op a:Int):Th × Int × Rq :=
 match op with
 | 0=>mk3 (pushL t (-1) [a])
 | 1=>mk3 (popE t (-1))
 | 2=>mk3 (pushL (popE t (-1)).1 (popE t (-1)).2 [(popM t).2.1,(popM t).2.1])
 | 3=>mk3 (pushL (pop2 t).1 (pop2 t).2.1 [(pop2 t).2.2.1+(pop2 t).2.2.2])
 | 4=>mk3 (pushL (pop2 t).1 (pop2 t).2.1 [(pop2 t).2.2.1 - (pop2 t).2.2.2])
 | 5=>mk3 (pushL t (-1) [f.ls.getD a.toNat 0])
 | 6=>mk3 ({ (popM t).1 with fr:=s ++ [⟨f.fn,f.pc,f.ls.set a.toNat (keep (popM t).2.1)⟩] },underE (-1) (popM t).2.2 1)
 | 7=>mk3 ({ t with fr:=s ++ [⟨f.fn,a,f.ls⟩] },-1)
 | 8=>mk3 (if (popM t).2.1 = 0 then { (popM t).1 with fr:=s ++ [⟨f.fn,a,f.ls⟩] } else (popM t).1,underE (-1) (popM t).2.2 1)
 | 9=>mk3 ((enterT t ⟨a,0,List.replicate ((g.fu[a.toNat]?.map Fu.loc).getD 0).toNat 0⟩).1,if (enterT t ⟨a,0,List.replicate ((g.fu[a.toNat]?.map Fu.loc).getD 0).toNat 0⟩).2 then -1 else 3)
 | 10=>mk3 ({ t with fr:=s },if s = [] then 0 else -1)
 | 26=>mk3 (t,0)
 | 12=>(t,-1,⟨2,a,0⟩)
 | 11=>(t,-1,⟨3,a,0⟩)
 | 15=>(t,-1,⟨6,a,0⟩)
 | 16=>(t,-1,⟨7,a,0⟩)
 | 17=>(t,-1,⟨8,a,0⟩)
 | 18=>(t,-1,⟨9,a,0⟩)
 | 19=>(t,-1,⟨10,a,0⟩)
 | 20=>(t,-1,⟨11,a,0⟩)
 | 21=>(t,-1,⟨12,a,0⟩)
 | 23=>(t,-1,⟨14,a,0⟩)
 | 24=>(t,-1,⟨15,a,0⟩)
 | 13=>((popE t (-1)).1,(popE t (-1)).2,⟨4,a,(popM t).2.1⟩)
 | 14=>((popE t (-1)).1,(popE t (-1)).2,⟨5,a,(popM t).2.1⟩)
 | 25=>((popE t (-1)).1,(popE t (-1)).2,⟨16,a,(popM t).2.1⟩)
 | 22=>((popE t (-1)).1,(popE t (-1)).2,⟨13,a,(popM t).2.1⟩)
 | _=>mk3 (t,-1)
@[reducible] def kept2 (v:Int):Prop:=-1073741824≤v∧v≤1073741824
theorem popM_v {t:Th} (h:∀ v ∈ t.sk,kept2 v):kept2 (popM t).2.1∧∀ v ∈ (popM t).1.sk,kept2 v:=by
 unfold popM
 split
 ·exact ⟨⟨by show (-1073741824:Int)≤0; decide,by show (0:Int)≤1073741824; decide⟩,h⟩
 ·rename_i v hv
  exact ⟨h v (List.mem_of_getLast? hv),fun x hx=>h x ((List.dropLast_sublist _).mem hx)⟩
structure XT (g:Pg) (s:List Fm) (f:Fm) (t:Th) (op a:Int):Prop where
 fr:t.fr = s ++ [f]
 sl:s.length≤100000
 sk:t.sk.length≤16
 kp:∀ v ∈ t.sk,kept2 v
 ls:f.ls.length≤1000000
 opr:0≤op∧op≤26
 lo:op = 5∨op = 6→0≤a∧a < f.ls.length
 fu:op = 9→0≤a∧a < g.fu.length
 gl:∀ u ∈ g.fu,0≤u.loc∧u.loc≤100
@[reducible] def XP (g:Pg) (a:Int) (r:Th × Int × Rq):D→Objs→Prop:=MP g a (r.1,r.2.1) r.2.2
theorem exec_fn (g:Pg) (s:List Fm) (f:Fm) (t:Th) (op a:Int) (h:XT g s f t op a) :
  (∃ n,lookM doesM op = some (fnD n)∧Spec Tryz.prog n [.ptr 0 0 17 0 0] [mO g t a (-1) nq] (XP g a (execM g s f t op a))) ∨
  (∃ n d,lookM doesM op = some (fnC n d)∧d.pure = true∧Spec Tryz.prog n [.ptr 0 0 17 0 0,.pel d 0] [mO g t a (-1) nq] (XP g a (execM g s f t op a))):=by
 obtain ⟨h1,h2,h3,h4,h5,h6,h7,h8,h9⟩:=h
 have hc:op = 0∨op = 1∨op = 2∨op = 3∨op = 4∨op = 5∨op = 6∨op = 7∨op = 8∨op = 9∨op = 10∨op = 11∨op = 12∨op = 13∨op = 14∨op = 15∨op = 16∨op = 17∨op = 18∨op = 19∨op = 20∨op = 21∨op = 22∨op = 23∨op = 24∨op = 25∨op = 26:=by omega
 have k1:=popM_v h4
 have k2:=popM_v k1.2
 rcases hc with rfl | rfl | rfl | rfl | rfl | rfl | rfl | rfl | rfl | rfl | rfl | rfl | rfl | rfl | rfl | rfl | rfl | rfl | rfl | rfl | rfl | rfl | rfl | rfl | rfl | rfl | rfl
 ·exact .inl ⟨_,rfl,c197 g t a (-1) nq h3⟩
 ·exact .inl ⟨_,rfl,c198 g t a (-1) nq h3⟩
 ·exact .inl ⟨_,rfl,c200 g t a (-1) nq h3⟩
 ·exact .inr ⟨_,_,rfl,rfl,c227 166 (· + ·) g t a (-1) nq h3 (c202 _ _ k2.1 k1.1)⟩
 ·exact .inr ⟨_,_,rfl,rfl,c227 167 (· - ·) g t a (-1) nq h3 (c203 _ _ k2.1 k1.1)⟩
 ·obtain ⟨a0,a1⟩:=h7 (.inl rfl)
  exact .inl ⟨_,rfl,c204 g t a (-1) nq h3 s f h1 (by omega) a.toNat (by omega) _ (by rw [List.getD_eq_getElem?_getD,List.getElem?_eq_getElem (by omega)]; rfl)⟩
 ·obtain ⟨a0,a1⟩:=h7 (.inr rfl)
  exact .inl ⟨_,rfl,c205 g t a (-1) nq h3 s f h1 (by omega) h5 a.toNat (by omega) (by omega)⟩
 ·exact .inl ⟨_,rfl,c206 g t a (-1) nq s f h1 (by omega)⟩
 ·exact .inl ⟨_,rfl,c207 g t a (-1) nq h3 s f h1 (by omega)⟩
 ·obtain ⟨a0,a1⟩:=h8 rfl
  obtain ⟨u,hu⟩:∃ u,g.fu[a.toNat]? = some u:=⟨_,List.getElem?_eq_getElem (by omega)⟩
  have hfl:t.fr.length≤100000+1:=by rw [h1]; simp; omega
  have:=c208 g t a (-1) nq a.toNat u (by omega) hu (h9 u (List.mem_of_getElem? hu)) (by omega)
  refine .inl ⟨_,rfl,?_⟩
  simp only [execM,hu,Option.map_some,Option.getD_some]
  rw [show ((a.toNat:Nat):Int) = a by omega] at this
  exact this
 ·exact .inl ⟨_,rfl,c209 g t a (-1) nq s f h1 (by omega)⟩
 ·exact .inr ⟨_,_,rfl,rfl,c228 3 g t a (-1) nq⟩
 ·exact .inr ⟨_,_,rfl,rfl,c228 2 g t a (-1) nq⟩
 ·exact .inr ⟨_,_,rfl,rfl,c229 4 g t a (-1) nq h3⟩
 ·exact .inr ⟨_,_,rfl,rfl,c229 5 g t a (-1) nq h3⟩
 ·exact .inr ⟨_,_,rfl,rfl,c228 6 g t a (-1) nq⟩
 ·exact .inr ⟨_,_,rfl,rfl,c228 7 g t a (-1) nq⟩
 ·exact .inr ⟨_,_,rfl,rfl,c228 8 g t a (-1) nq⟩
 ·exact .inr ⟨_,_,rfl,rfl,c228 9 g t a (-1) nq⟩
 ·exact .inr ⟨_,_,rfl,rfl,c228 10 g t a (-1) nq⟩
 ·exact .inr ⟨_,_,rfl,rfl,c228 11 g t a (-1) nq⟩
 ·exact .inr ⟨_,_,rfl,rfl,c228 12 g t a (-1) nq⟩
 ·exact .inr ⟨_,_,rfl,rfl,c229 13 g t a (-1) nq h3⟩
 ·exact .inr ⟨_,_,rfl,rfl,c228 14 g t a (-1) nq⟩
 ·exact .inr ⟨_,_,rfl,rfl,c228 15 g t a (-1) nq⟩
 ·exact .inr ⟨_,_,rfl,rfl,c229 16 g t a (-1) nq h3⟩
 ·exact .inl ⟨_,rfl,c210 g t a (-1) nq⟩
end Go.Proofs.YtkceciebmkklpaaGreat.V
