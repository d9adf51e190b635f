/- C4: a text of a symbolic executor that is proved sound, and contracts that are proved with it. -/
import Derived.Test.YtkceciebmkklpaaGreatVA
import Derived.Test.YtkceciebmkklpaaGreatVB
import Derived.Test.YtkceciebmkklpaaGreatVT
import Derived.Test.YtkceciebmkklpaaGreatVC
import Derived.Test.YtkceciebmkklpaaGreatC0
import Derived.Test.YtkceciebmkklpaaGreatC1
import Derived.Test.YtkceciebmkklpaaGreatC2
import Derived.Test.YtkceciebmkklpaaGreatC3
import Derived.ChangeArms
import Derived.ChangeSlices
import Derived.ChangeShapes
import Derived.WideShapes
import Derived.SizedLaws
import Derived.Carry
import Derived.OpenShut
set_option linter.unusedVariables false
set_option linter.unusedSimpArgs false
namespace Go.Proofs.YtkceciebmkklpaaGreat.V
open Go Go.Proofs
set_option maxRecDepth 100000
set_option maxHeartbeats 40000000
def stepF (C:Cr) (b:Int) (t:Nat):Int:=if (thAt C t).st = 1∧(thAt C t).on≤C.now∧(b < 0∨(thAt C t).on < (thAt C b.toNat).on) then (t:Int) else b
def firstK (C:Cr) (k:Nat):Int:=(List.range k).foldl (stepF C) (-1)
theorem firstK_succ (C:Cr) (k:Nat):firstK C (k+1) = stepF C (firstK C k) k:=by
 unfold firstK
 rw [List.range_succ,List.foldl_append]
 rfl
theorem firstK_at (C:Cr):∀ k,firstK C k = -1∨∃ u:Nat,firstK C k = (u:Int)∧u < k∧(thAt C u).st = 1∧(thAt C u).on≤C.now
 | 0=>.inl rfl
 | k+1=>by
  rw [firstK_succ]
  unfold stepF
  split
  ·rename_i h
   exact .inr ⟨k,rfl,by omega,h.1,h.2.1⟩
  ·rcases firstK_at C k with h | ⟨u,h1,h2,h3⟩
   ·exact .inl h
   ·exact .inr ⟨u,h1,by omega,h3⟩
def upTh (C:Cr) (u:Nat):Cr:=putT C u { thAt C u with st:=0,on:=0 }
def tickW:Nat→Cr→List Int→Cr × List Int
 | 0,C,l=>(C,l)
 | n+1,C,l=>if firstK C C.th.length < 0 then (C,l) else tickW n (upTh C (firstK C C.th.length).toNat) (l ++ [firstK C C.th.length])
def ns (C:Cr):Nat:=C.th.countP (fun f=>decide (f.st = 1))
def mn (n:Int):Int:=if 1073741824 < n then 1073741824 else n
def tick0 (C:Cr) (n:Int):Cr:=if 0 < mn n then { C with now:=keep (C.now+mn n) } else C
def tickC (C:Cr) (n:Int):Cr × List Int:=tickW C.th.length (tick0 C n) []
theorem ns_put (C:Cr) (t:Nat) (f:Th) (ht:t < C.th.length):ns (putT C t f)+(if (thAt C t).st = 1 then 1 else 0) = ns C+(if f.st = 1 then 1 else 0):=by
 have e:thAt C t = C.th[t]:=thAt_lt ht
 unfold ns putT
 dsimp only
 rw [List.countP_set ht,e]
 have hp:(if (decide (C.th[t].st = 1)) = true then 1 else 0)≤C.th.countP (fun f=>decide (f.st = 1)):=by
  split
  ·rename_i h; exact List.countP_pos_iff.2 ⟨_,List.getElem_mem ht,h⟩
  ·omega
 simp only [decide_eq_true_eq] at hp ⊢
 omega
theorem ns_up {C:Cr} {u:Nat} (hu:u < C.th.length) (h1:(thAt C u).st = 1):ns (upTh C u)+1 = ns C:=by
 have:=ns_put C u { thAt C u with st:=0,on:=0 } hu
 rw [if_pos h1,if_neg (show ¬ (0:Int) = 1 by decide)] at this
 exact this
theorem tickW_end {C:Cr} (h:firstK C C.th.length < 0) (n:Nat) (l:List Int):tickW n C l = (C,l):=by
 cases n with
 | zero=>rfl
 | succ n=>rw [tickW,if_pos h]
theorem up_ci {g:Pg} {C:Cr} (h:CI g C) {u:Nat} (hu:u < C.th.length) (h1:(thAt C u).st = 1):CI g (upTh C u):=by
 refine ⟨h.z.th rfl (putT_len _ _ _),rk_put h.rk (need0 (.inr (.inl h1))) (need0 (.inl rfl)),fun f hf=>?_,fun k hk=>?_⟩
 ·rcases mem_put hf with hf | rfl
  ·exact h.th _ hf
  ·exact thI_rest0 (h.at u) (by omega)
 ·have hk2:(thAt (putT C u { thAt C u with st:=0,on:=0 }) k).st = 2:=hk
  have hku:k ≠ u:=by
   rintro rfl
   rw [thAt_eq hu] at hk2
   have:(0:Int) = 2:=hk2
   omega
  rw [thAt_ne hku] at hk2
  obtain ⟨v,e1,e2,e3,e4⟩:=h.jn k hk2
  refine ⟨v,by show (thAt (putT C u _) k).on = _; rw [thAt_ne hku]; exact e1,by show v < (putT C u _).th.length; rw [putT_len]; exact e2,e3,?_⟩
  show (thAt (putT C u _) v).st ≠ 9
  rw [thAt_put]
  split
  ·show (0:Int) ≠ 9; decide
  ·exact e4
theorem tickW_ci {g:Pg}:∀ (n:Nat) (C:Cr) (l:List Int),CI g C→CI g (tickW n C l).1
 | 0,C,l,h=>h
 | n+1,C,l,h=>by
  rw [tickW]
  split
  ·exact h
  ·rename_i h0
   rcases firstK_at C C.th.length with e | ⟨u,e,hu,h1,_⟩
   ·rw [e] at h0; exact absurd (by decide) h0
   ·rw [e,Int.toNat_natCast]
    exact tickW_ci n _ _ (up_ci h hu h1)
theorem tick0_ci {g:Pg} {C:Cr} (h:CI g C) (n:Int):CI g (tick0 C n):=by
 unfold tick0
 split
 ·rename_i hp
  have:=keep_range (C.now+mn n)
  have hn:=h.z.now
  have h0:0≤keep (C.now+mn n):=by
   unfold keep
   rw [if_neg (by omega)]
   split <;> omega
  exact ⟨⟨h.z.t1,h.z.tl,⟨h0,this.2⟩,h.z.L,h.z.ow,h.z.co,h.z.bu,h.z.sq,h.z.rq,h.z.ev,h.z.bc⟩,rk_same h.rk rfl (fun r hr=>by
   have hc:r = 0∨r = 1∨r = 2∨r = 3∨r = 4:=by omega
   rcases hc with rfl | rfl | rfl | rfl | rfl <;> rfl),h.th,h.jn⟩
 ·exact h
theorem tickC_ci {g:Pg} {C:Cr} (h:CI g C) (n:Int):CI g (tickC C n).1:=tickW_ci _ _ _ (tick0_ci h n)
def SlR (C:Cr) (a b:Int):Prop:=(thAt C a.toNat).on < (thAt C b.toNat).on∨((thAt C a.toNat).on = (thAt C b.toNat).on∧a < b)
structure SlS (C:Cr) (S:List Int):Prop where
 mem:∀ v,v ∈ S ↔ ∃ k:Nat,v = k∧k < C.th.length∧(thAt C k).st = 1
 srt:S.Pairwise (SlR C)
theorem firstK_min (C:Cr) (v:Nat) (h1:(thAt C v).st = 1) (hn:(thAt C v).on≤C.now):∀ k,v < k→∃ u:Nat,firstK C k = (u:Int)∧((thAt C u).on < (thAt C v).on∨((thAt C u).on = (thAt C v).on∧u≤v))
 | 0,h=>absurd h (by omega)
 | k+1,h=>by
  rw [firstK_succ]
  unfold stepF
  by_cases hv:v = k
  ·subst hv
   split
   ·exact ⟨v,rfl,.inr ⟨rfl,Nat.le_refl _⟩⟩
   ·rename_i hc
    rcases firstK_at C v with e | ⟨u,e,hu,_,_⟩
    ·exact absurd ⟨h1,hn,.inl (by rw [e]; decide)⟩ hc
    ·rw [e,Int.toNat_natCast] at hc
     refine ⟨u,e,?_⟩
     have:¬ (thAt C v).on < (thAt C u).on:=fun hh=>hc ⟨h1,hn,.inr hh⟩
     omega
  ·obtain ⟨u,e,hu⟩:=firstK_min C v h1 hn k (by omega)
   rw [e,Int.toNat_natCast]
   split
   ·rename_i hc
    refine ⟨k,rfl,?_⟩
    have h2:=hc.2.2
    omega
   ·exact ⟨u,rfl,hu⟩
theorem SlS.nil {C:Cr} (h:SlS C []):firstK C C.th.length = -1:=by
 rcases firstK_at C C.th.length with e | ⟨u,e,hu,h1,_⟩
 ·exact e
 ·exact absurd ((h.mem u).2 ⟨u,rfl,hu,h1⟩) (by simp)
theorem SlS.pos {C:Cr} {h:Int} {S:List Int} (hs:SlS C (h :: S)) (hn:(thAt C h.toNat).on≤C.now):firstK C C.th.length = h:=by
 obtain ⟨k,rfl,hk,h1⟩:=(hs.mem h).1 (by simp)
 rw [Int.toNat_natCast] at hn
 obtain ⟨u,e,hu⟩:=firstK_min C k h1 hn _ hk
 rcases firstK_at C C.th.length with e' | ⟨u',e',hu',h1',_⟩
 ·rw [e'] at e; exact absurd e (by omega)
 ·rw [e'] at e
  obtain rfl:u' = u:=by omega
  rw [e']
  by_cases hku:u' = k
  ·rw [hku]
  ·have hm:=(hs.mem u').2 ⟨u',rfl,hu',h1'⟩
   rw [List.mem_cons] at hm
   rcases hm with hm | hm
   ·omega
   ·have hr:=List.rel_of_pairwise_cons hs.srt hm
    unfold SlR at hr
    rw [Int.toNat_natCast,Int.toNat_natCast] at hr
    omega
theorem SlS.le {C:Cr} {h:Int} {S:List Int} (hs:SlS C (h :: S)) {v:Int} (hv:v ∈ h :: S):(thAt C h.toNat).on≤(thAt C v.toNat).on:=by
 rw [List.mem_cons] at hv
 rcases hv with rfl | hv
 ·exact Int.le_refl _
 ·have hr:=List.rel_of_pairwise_cons hs.srt hv
  unfold SlR at hr
  omega
theorem SlS.neg {C:Cr} {h:Int} {S:List Int} (hs:SlS C (h :: S)) (hn:¬ (thAt C h.toNat).on≤C.now):firstK C C.th.length = -1:=by
 rcases firstK_at C C.th.length with e | ⟨u,e,hu,h1,h2⟩
 ·exact e
 ·have:=hs.le ((hs.mem u).2 ⟨u,rfl,hu,h1⟩)
  rw [Int.toNat_natCast] at this
  omega
theorem SlS.tail {C:Cr} {h:Int} {S:List Int} (hs:SlS C (h :: S)):SlS (upTh C h.toNat) S:=by
 obtain ⟨k,rfl,hk,h1⟩:=(hs.mem h).1 (by simp)
 rw [Int.toNat_natCast]
 have hne:∀ v ∈ S,v ≠ (k:Int):=by
  rintro v hv rfl
  have hr:=List.rel_of_pairwise_cons hs.srt hv
  unfold SlR at hr
  omega
 refine ⟨fun v=>⟨fun hv=>?_,fun hv=>?_⟩,?_⟩
 ·obtain ⟨j,rfl,hj,hj1⟩:=(hs.mem v).1 (by simp [hv])
  refine ⟨j,rfl,?_,?_⟩
  ·show j < (putT C k _).th.length
   rw [putT_len]; exact hj
  ·show (thAt (putT C k _) j).st = 1
   rw [thAt_ne (by have:=hne _ hv; omega)]; exact hj1
 ·obtain ⟨j,rfl,hj,hj1⟩:=hv
  have hj':j < (putT C k { thAt C k with st:=0,on:=0 }).th.length:=hj
  rw [putT_len] at hj'
  have hjk:j ≠ k:=by
   rintro rfl
   have hz:(thAt (putT C j { thAt C j with st:=0,on:=0 }) j).st = 1:=hj1
   rw [thAt_eq hk] at hz
   have:(0:Int) = 1:=hz
   omega
  have hj1':(thAt (putT C k { thAt C k with st:=0,on:=0 }) j).st = 1:=hj1
  rw [thAt_ne hjk] at hj1'
  have:=(hs.mem (j:Int)).2 ⟨j,rfl,hj',hj1'⟩
  rw [List.mem_cons] at this
  rcases this with h | h
  ·omega
  ·exact h
 ·have hp:=(List.pairwise_cons.1 hs.srt).2
  refine List.Pairwise.imp_of_mem ?_ hp
  intro a b ha hb hr
  obtain ⟨a',rfl,_,_⟩:=(hs.mem a).1 (by simp [ha])
  obtain ⟨b',rfl,_,_⟩:=(hs.mem b).1 (by simp [hb])
  have ea:thAt (upTh C k) a' = thAt C a':=thAt_ne (by have:=hne _ ha; omega)
  have eb:thAt (upTh C k) b' = thAt C b':=thAt_ne (by have:=hne _ hb; omega)
  unfold SlR at hr ⊢
  rw [Int.toNat_natCast,Int.toNat_natCast] at hr ⊢
  rw [ea,eb]
  exact hr
theorem SlS.len {C:Cr}:∀ {S:List Int},SlS C S→S.length = ns C:=by
 intro S
 induction S generalizing C with
 | nil =>
  intro h
  have:¬ 0 < ns C:=by
   intro h0
   obtain ⟨f,hf,hp⟩:=List.countP_pos_iff.1 h0
   obtain ⟨k,hk,rfl⟩:=List.getElem_of_mem hf
   exact absurd ((h.mem k).2 ⟨k,rfl,hk,by rw [thAt_lt hk]; exact of_decide_eq_true hp⟩) (by simp)
  show 0 = ns C
  omega
 | cons v S ih =>
  intro h
  obtain ⟨k,e,hk,h1⟩:=(h.mem v).1 (by simp)
  have:=ih h.tail
  rw [e,Int.toNat_natCast] at this
  have h2:=ns_up hk h1
  rw [List.length_cons]
  omega
theorem SlS.ins {C:Cr} {A B:List Int} {x:Int} (hs:(A ++ B).Pairwise (SlR C)) (hB:∀ b ∈ B,(thAt C x.toNat).on < (thAt C b.toNat).on) (hA:∀ a,A.getLast? = some a→¬ (thAt C x.toNat).on < (thAt C a.toNat).on) (hx:∀ a ∈ A,a < x):(A ++ x :: B).Pairwise (SlR C):=by
 rw [List.pairwise_append] at hs ⊢
 obtain ⟨h1,h2,h3⟩:=hs
 have hAl:∀ a ∈ A,(thAt C a.toNat).on≤(thAt C x.toNat).on:=by
  intro a ha
  rcases List.eq_nil_or_concat A with rfl | ⟨A',z,rfl⟩
  ·cases ha
  ·have hz:=hA z (by simp)
   rw [List.concat_eq_append] at ha h1
   rw [List.mem_append,List.mem_singleton] at ha
   rcases ha with ha | rfl
   ·have:=(List.pairwise_append.1 h1).2.2 a ha z (by simp)
    unfold SlR at this
    omega
   ·omega
 refine ⟨h1,List.pairwise_cons.2 ⟨fun b hb=>.inl (hB b hb),h2⟩,fun a ha b hb=>?_⟩
 rw [List.mem_cons] at hb
 rcases hb with rfl | hb
 ·have:=hAl a ha
  have:=hx a ha
  unfold SlR
  omega
 ·exact h3 a ha b hb
def SlM (x y:Xs):Prop:=y.C.now = x.C.now∧∀ k,(thAt y.C k).st = 1→thAt y.C k = thAt x.C k∨x.C.now < (thAt y.C k).on
theorem SlM.trans {x y z:Xs} (h:SlM x y) (h2:SlM y z):SlM x z:=⟨h2.1.trans h.1,fun k hk=>by
 rcases h2.2 k hk with e | e
 ·rw [e] at hk
  rcases h.2 k hk with e2 | e2
  ·exact .inl (e.trans e2)
  ·exact .inr (by rw [e]; exact e2)
 ·exact .inr (by rw [← h.1]; exact e)⟩
theorem tick63 {C:Cr} (hl:C.th.length≤100) (hn:-1073741824≤C.now∧C.now≤1073741824) (n:Int) (hN:-9223372036854775808≤n∧n≤9223372036854775807):Spec Tryz.prog 63 [coreV C,.int .i64 n] [] (fun d os'=>d = .tup [coreV (tickC C n).1,ints (tickC C n).2]∧os' = []):=by
 refine Spec.frz (post':=fun d=>d = .tup [coreV (tickC C n).1,ints (tickC C n).2]) ?_
 obtain ⟨R,hR⟩:∃ R,tickC C n = R:=⟨_,rfl⟩
 have hR':=hR
 unfold tickC at hR'
 have htl:(tick0 C n).th.length = C.th.length:=by unfold tick0; split <;> rfl
 rw [hR]
 refine Spec.by Tryz.func63 rfl (by decide) (by decide +kernel) rfl ?_
 refine goA ?_
 apply cutG (A:=Unit) (n0:=0) (fun _=>[(2,.ptr 0 0 10 0 0),(4,.ptr 1 0 10 0 0)]) (fun _=>[one (.row 30 10 false [coreV (tick0 C n)]),one (.row 30 10 false [z30])]) (fun _=>True)
 ·intro key
  refine Br.dec (fun h0=>?_) (fun h0=>?_)
  ·have e:tick0 C n = { C with now:=keep (C.now+1073741824) }:=by
    unfold tick0 mn
    rw [if_pos h0,if_pos (by decide)]
   rw [e] at key
   refine goA ?_
   refine Call.mk (keep36 _ _) ?_
   rintro d os' ⟨rfl,rfl⟩
   refine goR ?_
   refine Pt.weak (Weak.on [(2,.ptr 0 0 10 0 0),(4,.ptr 1 0 10 0 0)] [one (.row 30 10 false [coreV { C with now:=keep (C.now+1073741824) }]),one (.row 30 10 false [z30])]) ?_
   exact key () trivial
  ·refine goA ?_
   refine Br.dec (fun h1=>?_) (fun h1=>?_)
   ·have e:tick0 C n = { C with now:=keep (C.now+n) }:=by
     unfold tick0 mn
     rw [if_neg h0,if_pos h1]
    rw [e] at key
    refine goA ?_
    refine Call.mk (keep36 _ _) ?_
    rintro d os' ⟨rfl,rfl⟩
    refine goR ?_
    refine Pt.weak (Weak.on [(2,.ptr 0 0 10 0 0),(4,.ptr 1 0 10 0 0)] [one (.row 30 10 false [coreV { C with now:=keep (C.now+n) }]),one (.row 30 10 false [z30])]) ?_
    exact key () trivial
   ·have e:tick0 C n = C:=by
     unfold tick0 mn
     rw [if_neg h0,if_neg h1]
    rw [e] at key
    refine goR ?_
    refine Pt.weak (Weak.on [(2,.ptr 0 0 10 0 0),(4,.ptr 1 0 10 0 0)] [one (.row 30 10 false [coreV C]),one (.row 30 10 false [z30])]) ?_
    exact key () trivial
 ·intro _ _
  generalize tick0 C n = C0 at hR' htl ⊢
  have hns:ns C0≤C.th.length:=by have:ns C0≤C0.th.length:=List.countP_le_length; omega
  refine goA ?_
  refine Loop.inv (A:=Cr × List Int × Nat) (List.range 78) (fun a=>[(2,.ptr 0 0 10 0 0),(4,.ptr 1 0 10 0 0),(6,.sl 2 0 1 0 a.2.1.length none)]) (fun a=>[one (.row 30 10 false [coreV a.1]),one (.row 30 10 false [z30]),rowI a.2.1]) (fun a=>tickW a.2.2 a.1 a.2.1 = R∧ns a.1≤a.2.2∧a.1.th.length = C.th.length∧a.2.1.length+ns a.1≤1000) (fun a=>ns a.1) (C0,[],C.th.length) ⟨hR',hns,htl,by show 0+ns C0≤1000; omega⟩ ?_ ?_
  ·refine Weak.trans (Weak.nilrow 6 rfl 3 1 true) ?_
   exact Weak.start' rfl rfl tld
  rintro ⟨D0,l,k⟩ ⟨hk,hnk,hDl,hll⟩
  dsimp only at hk hnk hDl hll ⊢
  have hlm:(l.map (D.int .i64)).length = l.length:=List.length_map ..
  have htm:(D0.th.map thD).length = D0.th.length:=List.length_map ..
  refine goA ?_
  refine Loop.inv (A:=Nat × Int) (List.range 78) (fun a=>[(2,.ptr 0 0 10 0 0),(4,.ptr 1 0 10 0 0),(6,.sl 2 0 1 0 l.length none),(7,.int .i64 a.2),(8,.int .i64 (a.1:Int))]) (fun a=>[one (.row 30 10 false [coreV D0]),one (.row 30 10 false [z30]),rowI l]) (fun a=>a.1≤D0.th.length∧a.2 = firstK D0 a.1) (fun a=>D0.th.length - a.1) (0,-1) ⟨Nat.zero_le _,rfl⟩ ?_ ?_
  ·exact Weak.start' rfl rfl tld
  rintro ⟨i,b⟩ ⟨hi,hb⟩
  dsimp only at hi hb ⊢
  refine goA ?_
  refine Br.dec (fun h0=>?_) (fun h0=>?_)
  ·have hlt:i < D0.th.length:=by omega
   have hget:(D0.th.map thD)[i]? = some (thD (thAt D0 i)):=by rw [thAt_lt hlt]; exact get_map (List.getElem?_eq_getElem hlt)
   have hs:=firstK_succ D0 i
   rw [← hb] at hs
   unfold stepF at hs
   have hba:=firstK_at D0 i
   rw [← hb] at hba
   refine goA ?_
   refine Opt.of hget ?_
   refine goA ?_
   refine Br.dec (fun h1=>?_) (fun h1=>?_)
   ·refine goA ?_
    refine Br.dec (fun h2=>?_) (fun h2=>?_)
    ·refine goA ?_
     refine Br.dec (fun h3=>?_) (fun h3=>?_)
     ·rw [if_pos ⟨h1,h2,.inl h3⟩] at hs
      refine goA ?_
      refine ⟨_,_,_,?_,⟨(i+1,(i:Int)),?_,rfl,rfl,rfl⟩,?_⟩
      ·show D0.th.length - (i+1) < D0.th.length - i; omega
      ·exact ⟨hlt,hs.symm⟩
      ·refine Weak.backT 3 (by simp) (by first | rfl | kernel_rfl) (by kernel_rfl) (bl rfl) tld (by kernel_rfl) (by kernel_rfl)
     ·obtain ⟨u,hu,hui,_,_⟩:=hba.resolve_left (by omega)
      have hgu:(D0.th.map thD)[u]? = some (thD (thAt D0 u)):=by rw [thAt_lt (by omega)]; exact get_map (List.getElem?_eq_getElem (by omega))
      rw [hu] at hs h3 ⊢
      rw [Int.toNat_natCast] at hs
      refine goA ?_
      refine Opt.of hgu ?_
      refine goA ?_
      refine Br.dec (fun h4=>?_) (fun h4=>?_)
      ·rw [if_pos ⟨h1,h2,.inr h4⟩] at hs
       refine goA ?_
       refine ⟨_,_,_,?_,⟨(i+1,(i:Int)),?_,rfl,rfl,rfl⟩,?_⟩
       ·show D0.th.length - (i+1) < D0.th.length - i; omega
       ·exact ⟨hlt,hs.symm⟩
       ·refine Weak.backT 3 (by simp) (by first | rfl | kernel_rfl) (by kernel_rfl) (bl rfl) tld (by kernel_rfl) (by kernel_rfl)
      ·rw [if_neg (fun h=>by rcases h.2.2 with h | h; exact h3 h; exact h4 h)] at hs
       refine goA ?_
       refine ⟨_,_,_,?_,⟨(i+1,(u:Int)),?_,rfl,rfl,rfl⟩,?_⟩
       ·show D0.th.length - (i+1) < D0.th.length - i; omega
       ·exact ⟨hlt,hs.symm⟩
       ·refine Weak.backT 3 (by simp) (by first | rfl | kernel_rfl) (by kernel_rfl) (bl rfl) tld (by kernel_rfl) (by kernel_rfl)
    ·rw [if_neg (fun h=>h2 h.2.1)] at hs
     refine goA ?_
     refine ⟨_,_,_,?_,⟨(i+1,b),?_,rfl,rfl,rfl⟩,?_⟩
     ·show D0.th.length - (i+1) < D0.th.length - i; omega
     ·exact ⟨hlt,hs.symm⟩
     ·refine Weak.backT 3 (by simp) (by first | rfl | kernel_rfl) (by kernel_rfl) (bl rfl) tld (by kernel_rfl) (by kernel_rfl)
   ·rw [if_neg (fun h=>h1 h.1)] at hs
    refine goA ?_
    refine ⟨_,_,_,?_,⟨(i+1,b),?_,rfl,rfl,rfl⟩,?_⟩
    ·show D0.th.length - (i+1) < D0.th.length - i; omega
    ·exact ⟨hlt,hs.symm⟩
    ·refine Weak.backT 3 (by simp) (by first | rfl | kernel_rfl) (by kernel_rfl) (bl rfl) tld (by kernel_rfl) (by kernel_rfl)
  ·have hie:i = D0.th.length:=by omega
   rw [hie] at hb
   refine goA ?_
   refine Br.dec (fun h1=>?_) (fun h1=>?_)
   ·rw [tickW_end (by omega)] at hk
    subst hk
    refine goA ?_
    refine Ret.mk [.cell 4 30,.tmp 5] rfl ?_; (refine goA ?_)
    exact ⟨_,View.tup (.cons (.same _) (.cons (View.slAll (f:=false) rfl rfl hlm (by simp) (ViewL.same _) (pureL_map (fun _=>rfl) _)) .nil)),rfl,rfl⟩
   ·obtain ⟨u,hu,hul,hu1,_⟩:=(firstK_at D0 D0.th.length).resolve_left (by omega)
    have hnu:=ns_up hul hu1
    have hgu:(D0.th.map thD)[u]? = some (thD (thAt D0 u)):=by rw [thAt_lt hul]; exact get_map (List.getElem?_eq_getElem hul)
    obtain ⟨k',rfl⟩:∃ k',k = k'+1:=⟨k - 1,by omega⟩
    rw [tickW,if_neg (by omega),hu,Int.toNat_natCast] at hk
    rw [hb,hu]
    have hw:=with95 D0 u hul { thAt D0 u with st:=0,on:=0 } (by omega)
    refine goA ?_
    refine Opt.of hgu ?_
    refine goA ?_
    refine Call.mk (hw.only _ rfl (by rintro d rfl; rfl)) ?_
    rintro d os' ⟨rfl,rfl⟩
    have hdl:(upTh D0 u).th.length = C.th.length:=(putT_len _ _ _).trans hDl
    refine goA ?_
    refine App.only false rfl rfl ?_
    refine goA ?_
    refine ⟨_,_,_,?_,⟨(upTh D0 u,l ++ [(u:Int)],k'),?_,rfl,rfl,rfl⟩,?_⟩
    ·show ns (upTh D0 u) < ns D0; omega
    ·exact ⟨hk,by show ns (upTh D0 u)≤k'; omega,hdl,by show (l ++ [(u:Int)]).length+ns (upTh D0 u)≤1000; rw [List.length_append,List.length_singleton]; omega⟩
    ·refine Weak.trans (Weak.shift 4 2 (by decide) (by simp) (bl rfl) (bl rfl) (fun j=>by cases j <;> rfl) rfl) ?_
     refine Weak.backT 3 (by simp) ?_ (by kernel_rfl) (bl rfl) tld (by kernel_rfl) (by kernel_rfl)
     exact congrArg (fun r=>([one (.row 30 10 false [coreV (upTh D0 u)]),one (.row 30 10 false [z30]),one (.row 3 1 true r)]:Objs)) (map_snoc _ _)
theorem new96 (p:Pg) (f:Nat) (u:Fu) (hu:p.fu[f]? = some u) (h0:0≤u.loc∧u.loc≤100):Spec Tryz.prog 62 [pgD p,.int .i64 f] [] (fun d os'=>d = thD ⟨0,0,[⟨f,0,List.replicate u.loc.toNat 0⟩],[],0⟩∧os' = []):=by
 refine Spec.frz (post':=fun d=>d = thD ⟨0,0,[⟨f,0,List.replicate u.loc.toNat 0⟩],[],0⟩) ?_
 refine Spec.by Tryz.func62 rfl (by decide) (by decide +kernel) rfl ?_
 refine goA ?_
 refine Call.mk ((frame111f p f u hu h0).only _ rfl (by rintro d rfl; rfl)) ?_; rintro d os' ⟨rfl,rfl⟩
 refine goA ?_
 refine App.only false rfl rfl ?_
 refine goA ?_
 refine Ret.mk [.cell 4 42] rfl ?_; (refine goA ?_)
 exact ⟨thD ⟨0,0,[⟨f,0,List.replicate u.loc.toNat 0⟩],[],0⟩,View.agg (.cons (.same _) (.cons (.same _) (.cons (.same _) (.cons (.nils _ _) (.same _))))),rfl,rfl⟩
@[reducible] def vmP (l:List (Int × Int)):Pg:=⟨[⟨0,l⟩],0,[],[],[],[],1⟩
def t0:Th:=⟨0,0,[⟨0,0,[]⟩],[],0⟩
theorem vm_good {l:List (Int × Int)} (h:l.length≤24) (hl:∀ x ∈ l,inOk 1 (vmP l) 0 l.length x):GoodP (vmP l):=by
 refine ⟨⟨by simp,by simp,by simp,by simp,by simp,by simp⟩,?_,by simp,by simp,by simp,by simp,by simp⟩
 intro f hf
 simp only [vmP,List.mem_singleton] at hf
 subst hf
 exact ⟨⟨by show (0:Int)≤0; omega,by show (0:Int)≤3; omega⟩,h,hl⟩
@[reducible] def vmR (l:List (Int × Int)):D:=.agg [.lst 2 false [.agg [.int .i64 0,.lst 2 false (l.map inD)]],.int .i64 0,.nils,.nils,.nils,.nils,.int .i64 1]
theorem vmV (F:Nat→Bool) (os:Objs) (l:List (Int × Int)):View F os (vmR l) (pgD (vmP l)) :=
 View.agg (.cons (.same _) (.cons (.same _) (.cons (.nils _ _) (.cons (.nils _ _) (.cons (.nils _ _) (.cons (.nils _ _) (.same _)))))))
@[reducible] def emp (n:Nat):List (List Int):=List.replicate n []
@[reducible] def chVn (n:Nat):D:=.agg [.int .i64 0,.nils,.nils,.nils,lists (emp n),.nils,.nils,.nils,lists (emp n),lists (emp n)]
theorem new61 (n:Nat) (h:n≤1000):Spec Tryz.prog 61 [.int .i64 n] [] (fun d os'=>d = chVn n∧os' = []):=by
 refine Spec.frz (post':=fun d=>d = chVn n) ?_
 refine Spec.by Tryz.func61 rfl (by decide) (by decide +kernel) rfl ?_
 refine goA ?_
 repeat (refine erC ?_)
 refine goA ?_
 refine Ret.mk [.cell 2 30] rfl ?_; (refine goA ?_)
 exact ⟨_,View.agg (.cons (.same _) (.cons (.same _) (.cons (.same _) (.cons (.same _) (.cons (View.slAll (f:=false) rfl rfl (List.length_replicate ..) (by simp) (nilsV n) (pureL_rows _)) (.cons (.same _) (.cons (.same _) (.cons (.same _) (.cons (View.slAll (f:=false) rfl rfl (List.length_replicate ..) (by simp) (nilsV n) (pureL_rows _)) (.cons (View.slAll (f:=false) rfl rfl (List.length_replicate ..) (by simp) (nilsV n) (pureL_rows _)) .nil)))))))))),rfl,rfl⟩
def newC (g:Pg):Cr:=⟨0,[newT g 0],newS g.mu.toNat g.co.length g.se,emp g.ch.length,emp g.ch.length,emp g.ch.length⟩
theorem new18 {g:Pg} (hg:GoodP g):Spec Tryz.prog 18 [pgD g] [] (fun d os'=>d = coreV (newC g)∧os' = []):=by
 have hmu:=hg.sz.mu
 have hco:=hg.sz.co
 have hse:=hg.sz.se
 have hch:=hg.sz.ch
 have hfu:=hg.sz.fu
 have h60:=new169 g.mu.toNat (g.co.map (D.int .i64)).length g.se (by omega) (by rw [List.length_map]; omega) (by omega)
 have h61:=new61 (g.ch.map (D.int .i64)).length (by rw [List.length_map]; omega)
 rw [show ((g.mu.toNat:Nat):Int) = g.mu from by omega] at h60
 obtain ⟨u,hu⟩:∃ u,g.fu[0]? = some u:=⟨_,List.getElem?_eq_getElem (by omega)⟩
 have hgu:=hg.fu u (List.mem_of_getElem? hu)
 have h62:=new96 g 0 u hu (by omega)
 have e:=(newT_okT g 0 u hu hgu.1).1
 rw [← e] at h62
 refine Spec.frz (post':=fun d=>d = coreV (newC g)) ?_
 refine Spec.by Tryz.func18 rfl (by decide) (by decide +kernel) rfl ?_
 refine goA ?_
 refine Call.mk ((h60).only _ rfl (by rintro d rfl; rfl)) ?_; rintro d os' ⟨rfl,rfl⟩
 refine goA ?_
 refine Call.mk ((h61).only _ rfl (by rintro d rfl; rfl)) ?_; rintro d os' ⟨rfl,rfl⟩
 refine goA ?_
 refine Call.mk ((h62).only _ rfl (by rintro d rfl; rfl)) ?_; rintro d os' ⟨rfl,rfl⟩
 refine goA ?_
 refine App.only false rfl rfl ?_
 refine goA ?_
 refine Ret.mk [.cell 2 30] rfl ?_; (refine goA ?_)
 refine ⟨_,.same _,rfl,?_⟩
 rw [List.length_map,List.length_map]
 rfl
def outW (t:Nat) (C:Cr) (v:Int):Bool:=decide (v = t) || !decide ((thAt C v.toNat).st = 0)
@[reducible] def tsD (g:Pg) (t:Nat) (y:Xs):D:=.agg [.lst 2 false (g.fu.map fuD),.int .i64 g.mu,ints g.co,ints g.se,ints g.ch,.lst 1 false (g.cs.map ints),.int .i64 g.th,.int .i64 y.C.now,.sl 9 0 5 0 y.C.th.length none,.sl 3 0 1 0 g.mu.toNat none,.sl 4 0 1 0 g.se.length none,.sl 10 0 1 0 y.C.bu.length none,.sl 5 0 1 0 g.mu.toNat none,.sl 6 0 1 0 g.co.length none,.sl 7 0 1 0 g.se.length none,.sl 11 0 1 0 y.C.sq.length none,.sl 12 0 1 0 y.C.rq.length none,.int .i64 t,.sl 13 0 3 0 y.ev.length none,.sl 0 0 1 0 y.wp.length none]
@[reducible] def tsO (g:Pg) (t:Nat) (y:Xs):Objs:=one (.row 3 1 false [.int .i64 t]) :: one (.row 103 1 false [.ptr 8 0 20 0 0]) :: rowI y.C.L.ow :: rowI y.C.L.co :: rowC y.C.L.lk :: rowC y.C.L.wq :: rowC y.C.L.dq :: one (.row 105 20 false [tsD g t y]) :: rowT y.C.th :: rowC y.C.bu :: rowC y.C.sq :: rowC y.C.rq :: [rowE y.ev]
theorem is66 (g:Pg) (t:Nat) (y:Xs) (v:Int) (h0:0≤v) (hv:v.toNat < y.C.th.length) (W:List Int):Spec Tryz.prog 66 [.int .i64 v,.ptr 1 0 1 0 0,.ptr 2 0 1 0 0] (rowI W :: tsO g t y) (fun d os'=>d = .bool (outW t y.C v)∧os' = rowI W :: tsO g t y):=by
 have hm:(y.C.th.map thD).length = y.C.th.length:=List.length_map ..
 have hg:=th_at hv
 unfold outW
 by_cases h:v = (t:Int)
 ·rw [decide_eq_true h]
  refine Spec.by Tryz.func66 rfl (by decide) (by decide +kernel) rfl ?_
  refine goA ?_
  exact Ret.mk [.tmp _] rfl ⟨rfl,rfl⟩
 ·rw [decide_eq_false h]
  refine Spec.by Tryz.func66 rfl (by decide) (by decide +kernel) rfl ?_
  refine goA ?_
  refine Opt.of hg ?_
  refine goA ?_
  exact Ret.mk [.tmp _] rfl ⟨rfl,rfl⟩
theorem step22e {g:Pg} {C:Cr} (hl:C.th.length≤100) (t:Int):(t < 0∨(C.th.length:Int)≤t→Spec Tryz.prog 22 [pgD g,coreV C,.int .i64 t] [] (fun d os'=>d = .tup [coreV C,evs [],ints [],.int .i64 1]∧os' = [])) ∧
  (¬ t < 0→¬ (C.th.length:Int)≤t→¬ (thAt C t.toNat).st = 0→Spec Tryz.prog 22 [pgD g,coreV C,.int .i64 t] [] (fun d os'=>d = .tup [coreV C,evs [],ints [],.int .i64 10]∧os' = [])):=by
 have hm:(C.th.map thD).length = C.th.length:=List.length_map ..
 refine ⟨fun h=>?_,fun h1 h2 h3=>?_⟩
 ·refine Spec.frz (post':=fun d=>d = .tup [coreV C,evs [],ints [],.int .i64 1]) ?_
  refine Spec.by Tryz.func22 rfl (by decide) (by decide +kernel) rfl ?_
  refine goA ?_
  refine Br.dec (fun h1=>?_) (fun h1=>?_)
  ·refine goA ?_
   refine Ret.mk [.cell 6 30,.tmp 7,.tmp 8,.tmp 9] rfl ?_; (refine goA ?_)
   exact ⟨_,View.tup (.cons (.same _) (.cons (View.nils _ _) (.cons (View.nils _ _) (.cons (.same _) .nil)))),rfl,rfl⟩
  ·refine goA ?_
   refine Ret.mk [.cell 6 30,.tmp 7,.tmp 8,.tmp 9] rfl ?_; (refine goA ?_)
   exact ⟨_,View.tup (.cons (.same _) (.cons (View.nils _ _) (.cons (View.nils _ _) (.cons (.same _) .nil)))),rfl,rfl⟩
 ·have hg:=th_at (C:=C) (t:=t.toNat) (by omega)
  rw [Nat.zero_add] at hg
  refine Spec.frz (post':=fun d=>d = .tup [coreV C,evs [],ints [],.int .i64 10]) ?_
  refine Spec.by Tryz.func22 rfl (by decide) (by decide +kernel) rfl ?_
  refine goA ?_
  refine Opt.of hg ?_
  refine goA ?_
  refine Ret.mk [.cell 6 30,.tmp 7,.tmp 8,.tmp 9] rfl ?_; (refine goA ?_)
  exact ⟨_,View.tup (.cons (.same _) (.cons (View.nils _ _) (.cons (View.nils _ _) (.cons (.same _) .nil)))),rfl,rfl⟩
@[reducible] def plS (g:Pg) (t:Nat) (C:Cr) (sn wk:D):D:=.agg [.lst 2 false (g.fu.map fuD),.int .i64 g.mu,ints g.co,ints g.se,ints g.ch,.lst 1 false (g.cs.map ints),.int .i64 g.th,.int .i64 C.now,.sl 6 0 5 0 C.th.length none,.sl 7 0 1 0 g.mu.toNat none,.sl 8 0 1 0 g.se.length none,.sl 10 0 1 0 C.bu.length none,.sl 11 0 1 0 g.mu.toNat none,.sl 12 0 1 0 g.co.length none,.sl 13 0 1 0 g.se.length none,.sl 14 0 1 0 C.sq.length none,.sl 15 0 1 0 C.rq.length none,.int .i64 t,sn,wk]
@[reducible] def stO (g:Pg) (t:Nat) (C0 C:Cr) (sn wk:D) (r:Objs):Objs:=one (.row 26 7 false [pgD g]) :: one (.row 30 10 false [coreV C0]) :: one (.row 3 1 false [.int .i64 t]) :: one (.row 30 10 false [z30]) :: one .gone :: one .gone :: rowT C.th :: rowI C.L.ow :: rowI C.L.co :: one .gone :: rowC C.bu :: rowC C.L.lk :: rowC C.L.wq :: rowC C.L.dq :: rowC C.sq :: rowC C.rq :: one (.row 105 20 false [plS g t C sn wk]) :: one (.row 103 1 false [.ptr 16 0 20 0 0]) :: r
theorem stO_put {g:Pg} {t:Nat} {C0 C:Cr} {sn wk:D} {r:Objs} {f:Th}:(stO g t C0 C sn wk r).put 6 0 (.row 42 5 true ((C.th.map thD).set (0+t) (thD f))) = stO g t C0 (putT C t f) sn wk r:=by
 rw [th_put]
 have e:plS g t C sn wk = plS g t (putT C t f) sn wk:=by
  show D.agg _ = D.agg _
  simp [putT]
 show [_,_,_,_,_,_,_,_,_,_,_,_,_,_,_,_,one (.row 105 20 false [plS g t C sn wk]),_] ++ r = _
 rw [e]
 rfl
theorem nil_sn {g:Pg} {t n:Nat} {C:Cr}:NilL n [plS g t C .nils .nils] [plS g t C (.sl n 0 3 0 0 none) .nils] :=
 .cons (.agg (.cons (.same _ _) (.cons (.same _ _) (.cons (.same _ _) (.cons (.same _ _) (.cons (.same _ _) (.cons (.same _ _) (.cons (.same _ _) (.cons (.same _ _) (.cons (.same _ _) (.cons (.same _ _) (.cons (.same _ _) (.cons (.same _ _) (.cons (.same _ _) (.cons (.same _ _) (.cons (.same _ _) (.cons (.same _ _) (.cons (.same _ _) (.cons (.same _ _) (.cons (.nils _ _) (.same _ _))))))))))))))))))))) (.same _ _)
theorem nil_wk {g:Pg} {t n:Nat} {C:Cr} {sn:D}:NilL n [plS g t C sn .nils] [plS g t C sn (.sl n 0 1 0 0 none)] :=
 .cons (.agg (.cons (.same _ _) (.cons (.same _ _) (.cons (.same _ _) (.cons (.same _ _) (.cons (.same _ _) (.cons (.same _ _) (.cons (.same _ _) (.cons (.same _ _) (.cons (.same _ _) (.cons (.same _ _) (.cons (.same _ _) (.cons (.same _ _) (.cons (.same _ _) (.cons (.same _ _) (.cons (.same _ _) (.cons (.same _ _) (.cons (.same _ _) (.cons (.same _ _) (.cons (.same _ _) (.cons (.nils _ _) (.same _ _)))))))))))))))))))))) (.same _ _)
@[reducible] def plF (g:Pg) (t:Nat) (y:Xs):D:=.agg [.lst 2 false (g.fu.map fuD),.int .i64 g.mu,ints g.co,ints g.se,ints g.ch,.lst 1 false (g.cs.map ints),.int .i64 g.th,.int .i64 y.C.now,.sl 23 0 5 0 y.C.th.length none,.sl 7 0 1 0 g.mu.toNat none,.sl 8 0 1 0 g.se.length none,.sl 10 0 1 0 y.C.bu.length none,.sl 11 0 1 0 g.mu.toNat none,.sl 12 0 1 0 g.co.length none,.sl 13 0 1 0 g.se.length none,.sl 14 0 1 0 y.C.sq.length none,.sl 15 0 1 0 y.C.rq.length none,.int .i64 t,.sl 24 0 3 0 y.ev.length none,.sl 25 0 1 0 y.wp.length none]
@[reducible] def stW (g:Pg) (t:Nat) (C0:Cr) (y:Xs) (f:Th) (q:Rq) (W:List Int):Objs:=one (.row 26 7 false [pgD g]) :: one (.row 30 10 false [coreV C0]) :: one (.row 3 1 false [.int .i64 t]) :: one (.row 30 10 false [z30]) :: one .gone :: one .gone :: one .gone :: rowI y.C.L.ow :: rowI y.C.L.co :: one .gone :: rowC y.C.bu :: rowC y.C.L.lk :: rowC y.C.L.wq :: rowC y.C.L.dq :: rowC y.C.sq :: rowC y.C.rq :: one (.row 105 20 false [plF g t y]) :: one (.row 103 1 false [.ptr 16 0 20 0 0]) :: one (.row 42 5 false [thD f]) :: one (.row 107 3 false [rqD q]) :: one .gone :: one .gone :: one (.map meetsM) :: rowT y.C.th :: rowE y.ev :: [rowI W]
@[reducible] def stF (g:Pg) (t:Nat) (C0:Cr) (y:Xs) (f:Th) (q:Rq):Objs:=stW g t C0 y f q y.wp
theorem del_st {g:Pg} {t:Nat} {C0:Cr} {y:Xs} {f:Th} {q:Rq} (hwl:y.wp.length≤1000000) (hwp:∀ v ∈ y.wp,0≤v∧v.toNat < y.C.th.length):Spec Tryz.prog 67 [.sl 25 0 1 0 y.wp.length none,.fn (.func 66) [] [.ptr 2 0 1 0 0,.ptr 17 0 1 0 0]] (stF g t C0 y f q) (fun d os'=>d = .sl 25 0 1 0 (delL (outW t y.C) y.wp).length none∧os' = stW g t C0 y f q (delL (outW t y.C) y.wp ++ zeros (y.wp.length - (delL (outW t y.C) y.wp).length))):=by
 have hdel:=del67 (g:=66) (a:=[]) (b:=[.ptr 1 0 1 0 0,.ptr 2 0 1 0 0]) (q:=outW t y.C) (l:=y.wp) (r:=tsO g t y) (fun W v hv=>is66 g t y v (hwp v hv).1 (hwp v hv).2 W) hwl
 refine (hdel.frame (stF g t C0 y f q) [(25,0),(2,0),(17,0),(7,0),(8,0),(11,0),(12,0),(13,0),(16,0),(23,0),(10,0),(14,0),(15,0),(24,0)] rfl (by decide) (allQ_get0 (Q:=fun k p=>_) ⟨⟨bl rfl,rfl,rfl,fun j hj=>one_pos _ hj⟩,⟨bl rfl,rfl,rfl,fun j hj=>one_pos _ hj⟩,⟨bl rfl,rfl,rfl,fun j hj=>one_pos _ hj⟩,⟨bl rfl,rfl,rfl,fun j hj=>one_pos _ hj⟩,⟨bl rfl,rfl,rfl,fun j hj=>one_pos _ hj⟩,⟨bl rfl,rfl,rfl,fun j hj=>one_pos _ hj⟩,⟨bl rfl,rfl,rfl,fun j hj=>one_pos _ hj⟩,⟨bl rfl,rfl,rfl,fun j hj=>one_pos _ hj⟩,⟨bl rfl,rfl,rfl,fun j hj=>one_pos _ hj⟩,⟨bl rfl,rfl,rfl,fun j hj=>one_pos _ hj⟩,⟨bl rfl,rfl,rfl,fun j hj=>one_pos _ hj⟩,⟨bl rfl,rfl,rfl,fun j hj=>one_pos _ hj⟩,⟨bl rfl,rfl,rfl,fun j hj=>one_pos _ hj⟩,⟨bl rfl,rfl,rfl,fun j hj=>one_pos _ hj⟩,trivial⟩) rfl).mono ?_
 rintro d os' ⟨d1,os1,⟨rfl,rfl⟩,rfl,rfl⟩
 exact ⟨rfl,rfl⟩
theorem step22a {g:Pg} (hgp:GoodP g) {C:Cr} (hz:LkZ g.mu.toNat g.co.length g.se.length C.L) (hb:ClB C) {t:Nat} (ht:t < C.th.length) (h0:(thAt C t).st = 0) (hgt:GoodT g (thAt C t)) (hm0:MI g t (begX g C t)) (hq:RqOk g (stepT g (thAt C t)).2) (hk:(stepT g (thAt C t)).2.kd ≠ 1→(thAt (begX g C t).C t).st = 0)
  (hyz:LkZ g.mu.toNat g.co.length g.se.length (meetX g (begX g C t) t (stepT g (thAt C t)).2).C.L) (hwl:(meetX g (begX g C t) t (stepT g (thAt C t)).2).wp.length≤1000000)
  (hwp:∀ v ∈ (meetX g (begX g C t) t (stepT g (thAt C t)).2).wp,0≤v∧v.toNat < (meetX g (begX g C t) t (stepT g (thAt C t)).2).C.th.length) :
  Spec Tryz.prog 22 [pgD g,coreV C,.int .i64 t] [] (fun d os'=>d = .tup [coreV (meetX g (begX g C t) t (stepT g (thAt C t)).2).C,evs (meetX g (begX g C t) t (stepT g (thAt C t)).2).ev,ints (delL (outW t (meetX g (begX g C t) t (stepT g (thAt C t)).2).C) (meetX g (begX g C t) t (stepT g (thAt C t)).2).wp),.int .i64 0]∧os' = []):=by
 have hm:(C.th.map thD).length = C.th.length:=List.length_map ..
 have hg0:=th_at ht
 have hg:=hg0
 rw [Nat.zero_add] at hg
 have htl:=hb.th
 have hcl:=clone28 hb
 unfold clD slR at hcl
 rw [hz.ow,hz.co,hz.lk,hz.wq,hz.dq] at hcl
 have hs:=step97 g hgp (thAt C t) hgt
 have hfn:=meet_fn hgp hm0 hq hk
 obtain ⟨⟨f',q⟩,hT⟩:∃ r,stepT g (thAt C t) = r:=⟨_,rfl⟩
 unfold begX at hfn hwp hwl hyz ⊢
 rw [hT] at hs hfn hwp hwl hyz ⊢
 dsimp only at hs hfn hwp hwl hyz ⊢
 obtain ⟨C0,hx0C⟩:∃ C0,putT C t f' = C0:=⟨_,rfl⟩
 rw [hx0C] at hfn hwp hwl hyz ⊢
 refine Spec.frz (post':=fun d=>d = .tup [coreV (meetX g ⟨C0,[],[],[]⟩ t q).C,evs (meetX g ⟨C0,[],[],[]⟩ t q).ev,ints (delL (outW t (meetX g ⟨C0,[],[],[]⟩ t q).C) (meetX g ⟨C0,[],[],[]⟩ t q).wp),.int .i64 0]) ?_
 refine Spec.by Tryz.func22 rfl (by decide) (by decide +kernel) rfl ?_
 refine goA ?_
 refine Opt.of hg ?_
 refine goA ?_
 refine Call.mk (hcl.onto _ rfl) ?_
 rintro d os' ⟨d0,os0,⟨rfl,rfl⟩,rfl,rfl⟩
 refine goA ?_
 refine Opt.of hg0 ?_
 refine goA ?_
 refine Call.mk ((hs).only _ rfl (by rintro d rfl; rfl)) ?_; rintro d os' ⟨rfl,rfl⟩
 refine goA ?_
 refine And.intro ?_ ?_
 ·conv=>whnf
  refine Opt.of hg0 ?_
  conv=>whnf
 refine goA ?_
 refine And.intro ?_ ?_
 ·conv=>whnf
  refine Opt.of hg0 ?_
  conv=>whnf
 refine goR ?_
 refine Pt.weak (Weak.on [(3,.ptr 0 0 7 0 0),(4,.ptr 1 0 10 0 0),(5,.ptr 2 0 1 0 0),(6,.ptr 3 0 10 0 0),(10,.ptr 17 0 1 0 0),(11,.ptr 18 0 5 0 0),(12,.ptr 19 0 3 0 0)] (stO g t C C .nils .nils [one (.row 42 5 false [thD f']),one (.row 107 3 false [rqD q])])) ?_
 refine goA ?_
 refine Opt.of hg0 ?_
 refine goR ?_
 refine Pt.weak (Weak.on [(3,.ptr 0 0 7 0 0),(4,.ptr 1 0 10 0 0),(5,.ptr 2 0 1 0 0),(6,.ptr 3 0 10 0 0),(10,.ptr 17 0 1 0 0),(11,.ptr 18 0 5 0 0),(12,.ptr 19 0 3 0 0)] ((stO g t C C .nils .nils [one (.row 42 5 false [thD f']),one (.row 107 3 false [rqD q])]).put 6 0 (.row 42 5 true ((C.th.map thD).set (0+t) (thD f'))))) ?_
 rw [stO_put,hx0C]
 refine Pt.weak (Weak.nilO 16 20 rfl (ty:=105) (sz:=20) (es:=[plS g t C0 .nils .nils]) rfl [plS g t C0 (.sl 20 0 3 0 0 none) .nils] rfl nil_sn 84 3 true) ?_
 refine Pt.weak (Weak.nilO 16 21 rfl (ty:=105) (sz:=20) (es:=[plS g t C0 (.sl 20 0 3 0 0 none) .nils]) rfl [plS g t C0 (.sl 20 0 3 0 0 none) (.sl 21 0 1 0 0 none)] rfl nil_wk 3 1 true) ?_
 refine goA ?_
 refine Call.mk (meets65' _) ?_
 rintro d os' ⟨rfl,rfl⟩
 refine goA ?_
 apply cutG (A:=Unit) (n0:=0) (fun _=>[(5,.ptr 2 0 1 0 0),(6,.ptr 3 0 10 0 0),(10,.ptr 17 0 1 0 0)]) (fun _=>stF g t C (meetX g ⟨C0,[],[],[]⟩ t q) f' q) (fun _=>True)
 ·intro key
  refine Or.elim hfn ?_ ?_
  ·rintro ⟨n,hl,hsp⟩
   refine Fnd.got hl ?_
   refine goA ?_
   refine Call.mk (hsp.frame _ [(7,0),(8,0),(11,0),(12,0),(13,0),(16,0),(6,0),(10,0),(14,0),(15,0),(20,0),(21,0)] rfl (by decide) (allQ_get0 (Q:=fun k p=>_) ⟨⟨bl rfl,rfl,rfl,fun j hj=>one_pos _ hj⟩,⟨bl rfl,rfl,rfl,fun j hj=>one_pos _ hj⟩,⟨bl rfl,rfl,rfl,fun j hj=>one_pos _ hj⟩,⟨bl rfl,rfl,rfl,fun j hj=>one_pos _ hj⟩,⟨bl rfl,rfl,rfl,fun j hj=>one_pos _ hj⟩,⟨bl rfl,rfl,rfl,fun j hj=>one_pos _ hj⟩,⟨bl rfl,rfl,rfl,fun j hj=>one_pos _ hj⟩,⟨bl rfl,rfl,rfl,fun j hj=>one_pos _ hj⟩,⟨bl rfl,rfl,rfl,fun j hj=>one_pos _ hj⟩,⟨bl rfl,rfl,rfl,fun j hj=>one_pos _ hj⟩,⟨bl rfl,rfl,rfl,fun j hj=>one_pos _ hj⟩,⟨bl rfl,rfl,rfl,fun j hj=>one_pos _ hj⟩,trivial⟩) rfl) ?_
   rintro d os' ⟨d1,os1,⟨rfl,rfl⟩,rfl,rfl⟩
   refine goR ?_
   refine Pt.weak (Weak.on [(5,.ptr 2 0 1 0 0),(6,.ptr 3 0 10 0 0),(10,.ptr 17 0 1 0 0)] (stF g t C (meetX g ⟨C0,[],[],[]⟩ t q) f' q)) ?_
   exact key () trivial
  ·rintro ⟨hkd,hl,hmx⟩
   have hst:stF g t C ⟨C0,[],[],[]⟩ f' q = stF g t C (meetX g ⟨C0,[],[],[]⟩ t q) f' q:=by rw [hmx]
   refine Fnd.not hl ?_
   refine goR ?_
   ((with_reducible refine Pt.go ?_); conv=>whnf)
   refine goR ?_
   refine Pt.weak (Weak.on [(5,.ptr 2 0 1 0 0),(6,.ptr 3 0 10 0 0),(10,.ptr 17 0 1 0 0)] (stO g t C C0 (.sl 20 0 3 0 0 none) (.sl 21 0 1 0 0 none) [one (.row 42 5 false [thD f']),one (.row 107 3 false [rqD q]),one (.row 84 3 true []),one (.row 3 1 true []),one (.map meetsM)])) ?_
   refine Pt.weak (Weak.trans Weak.gone (Weak.trans Weak.gone Weak.gone)) ?_
   refine Pt.weak (Weak.move 6 23 (by decide) (by simp) (bl rfl) (bl rfl) (fun j=>by cases j <;> rfl) rfl rfl) ?_
   refine Pt.weak (Weak.move 20 24 (by decide) (by simp) (bl rfl) (bl rfl) (fun j=>by cases j <;> rfl) rfl rfl) ?_
   refine Pt.weak (Weak.move 21 25 (by decide) (by simp) (bl rfl) (bl rfl) (fun j=>by cases j <;> rfl) rfl rfl) ?_
   refine Pt.weak (Weak.on [(5,.ptr 2 0 1 0 0),(6,.ptr 3 0 10 0 0),(10,.ptr 17 0 1 0 0)] (stF g t C ⟨C0,[],[],[]⟩ f' q)) ?_
   refine Pt.weak (Weak.objs hst) ?_
   exact key () trivial
 ·intro _ _
  clear hfn hs hcl
  generalize meetX g ⟨C0,[],[],[]⟩ t q = y at hwp hwl hyz ⊢
  have hwm:(y.wp.map (D.int .i64)).length = y.wp.length:=List.length_map ..
  refine goA ?_
  have hdl:=del_st (g:=g) (t:=t) (C0:=C) (f:=f') (q:=q) hwl hwp
  refine Call.mk hdl ?_
  rintro d os' ⟨rfl,rfl⟩
  refine goA ?_
  have hzz:((delL (outW t y.C) y.wp ++ zeros (y.wp.length - (delL (outW t y.C) y.wp).length)).map (D.int .i64)).length = (delL (outW t y.C) y.wp).length+(y.wp.length - (delL (outW t y.C) y.wp).length):=by rw [List.length_map,List.length_append,zeros,List.length_replicate]
  refine Ret.mk [.cell 6 30,.tmp 7,.tmp 8,.tmp 9] rfl ?_; (refine goA ?_)
  exact ⟨_,View.tup (.cons (.agg (.cons (.same _) (.cons (View.slAll (f:=false) rfl rfl (by simp) (by simp) (ViewL.same _) (pureTh _))
   (.cons (View.slAll (f:=false) rfl rfl (by simp [hyz.ow]) (by simp) (ViewL.same _) (pureL_map (fun _=>rfl) _))
   (.cons (View.slAll (f:=false) rfl rfl (by simp [hyz.co]) (by simp) (ViewL.same _) (pureL_map (fun _=>rfl) _))
   (.cons (View.slAll (f:=false) rfl rfl (by simp) (by simp) (ViewL.same _) (pureL_rows _))
   (.cons (View.slAll (f:=false) rfl rfl (by simp [hyz.lk]) (by simp) (ViewL.same _) (pureL_rows _))
   (.cons (View.slAll (f:=false) rfl rfl (by simp [hyz.wq]) (by simp) (ViewL.same _) (pureL_rows _))
   (.cons (View.slAll (f:=false) rfl rfl (by simp [hyz.dq]) (by simp) (ViewL.same _) (pureL_rows _))
   (.cons (View.slAll (f:=false) rfl rfl (by simp) (by simp) (ViewL.same _) (pureL_rows _))
   (.cons (View.slAll (f:=false) rfl rfl (by simp) (by simp) (ViewL.same _) (pureL_rows _)) .nil)))))))))))
   (.cons (View.slAll (f:=false) rfl rfl (by simp) (by simp) (ViewL.same _) (pureL_map (fun _=>rfl) _))
   (.cons (View.sl (f:=false) rfl rfl (by rw [hzz]; omega) (by simp) (take_front hzz) (pureL_map (fun _=>rfl) _))
   (.cons (.same _) .nil)))),rfl,rfl⟩
theorem CI.clB {g:Pg} (hg:GoodP g) {C:Cr} (h:CI g C):ClB C:=by
 have h8:=g_th8 hg h.z
 have hs:=hg.sz
 have hmu:=hs.mu
 have hco:=hs.co
 have hse:=hs.se
 have hch:=hs.ch
 have hL:=h.z.L
 have h1:=hL.ow
 have h2:=hL.co
 have h3:=hL.lk
 have h4:=hL.wq
 have h5:=hL.dq
 have h6:=h.z.bu
 have h7:=h.z.sq
 have h9:=h.z.rq
 have htot:=h.rk.tot (g_cs4 hg) h8
 have hm:=sumL_evens C.sq
 have hR:∀ (R:List (List Int)),sumL R≤1000→∀ q ∈ R,q.length≤1000:=fun R hR q hq=>by have:=sumL_mem hq; omega
 exact ⟨by omega,fun f hf=>thI_ok hg (h.th f hf),by omega,by omega,⟨by omega,fun q hq=>by have:=h.z.bc q hq; omega⟩,⟨by omega,hR _ (by omega)⟩,⟨by omega,hR _ (by omega)⟩,⟨by omega,hR _ (by omega)⟩,⟨by omega,hR _ (by omega)⟩,⟨by omega,hR _ (by omega)⟩⟩
theorem wok_eq {t:Nat} {y:Xs} (h:WF t y):delL (outW t y.C) y.wp = y.wk.filter (fun k=>decide (k ≠ (t:Int)) && decide ((thAt y.C k.toNat).st = 0)):=by
 rw [h.wp]
 unfold delL
 rw [List.filter_filter]
 refine List.filter_congr (fun v hv=>?_)
 unfold outW rdyB
 by_cases h1:v = (t:Int)
 ·simp [h1]
 ·by_cases h2:(thAt y.C v.toNat).st = 0 <;> simp [h1,h2]
theorem step22 {g:Pg} (hg:GoodP g) {C:Cr} (h:CI g C) (t:Int):Spec Tryz.prog 22 [pgD g,coreV C,.int .i64 t] [] (fun d os'=>d = .tup [coreV (stepC g C t).1,evs (stepC g C t).2.1,ints (stepC g C t).2.2.1,.int .i64 (stepC g C t).2.2.2]∧os' = []):=by
 have h8:=g_th8 hg h.z
 obtain ⟨e1,e2⟩:=step22e (g:=g) (C:=C) (by omega) t
 unfold stepC
 by_cases ht:t < 0∨(C.th.length:Int)≤t
 ·rw [if_pos ht]; exact e1 ht
 ·rw [if_neg ht]
  by_cases h0:(thAt C t.toNat).st = 0
  ·rw [if_neg (fun h=>h h0)]
   obtain ⟨u,rfl⟩:∃ u:Nat,t = (u:Int):=⟨t.toNat,by omega⟩
   rw [Int.toNat_natCast] at h0 ⊢
   have hul:u < C.th.length:=by omega
   obtain ⟨b1,b2,b3,b4⟩:=beg_all hg h hul h0
   have hq:=rq_ok hg (thI_ready (h.at u) h0)
   have hwf:=meet_wf hg b1 hq b2 b3
   have hs:=step22a hg h.z.L (h.clB hg) hul h0 (thI_ready (h.at u) h0) b1 hq b2 b4.z.L (by have:=b4.xb.wp; omega) (fun v hv=>by
    rw [hwf.wp] at hv
    have:=hwf.wk v (List.mem_filter.1 hv).1
    exact ⟨this.1,this.2.1⟩)
   rw [wok_eq hwf] at hs
   exact hs
  ·rw [if_pos h0]; exact e2 (by omega) (by omega) h0
theorem qAt_emp (n k:Nat):qAt (emp n) k = []:=by
 unfold qAt emp
 rw [List.getD_eq_getElem?_getD,List.getElem?_replicate]
 split <;> rfl
theorem newC_ci {g:Pg} (hg:GoodP g):CI g (newC g):=by
 have hfu:=hg.sz.fu
 have hgt:=newT_good hg (a:=0) (by omega)
 have hrow:∀ r k,qAt (rws (newC g) r) k = []:=by
  intro r k
  rcases r with _ | _ | _ | _ | _
  ·exact qAt_emp _ _
  ·exact qAt_emp _ _
  ·exact qAt_emp _ _
  ·show qAt ((emp g.ch.length).map evens) k = []
   rw [qAt_evens,qAt_emp]; rfl
  ·exact qAt_emp _ _
 have h0:∀ k,(thAt (newC g) k).st = 0∨(thAt (newC g) k).st = 9:=by
  intro k
  rcases k with _ | k
  ·exact .inl rfl
  ·exact .inr rfl
 refine ⟨⟨Nat.le_refl _,hg.th.1,⟨by show (0:Int)≤0; omega,by show (0:Int)≤1073741824; omega⟩,⟨List.length_replicate ..,rfl,List.length_replicate ..,List.length_replicate ..,List.length_replicate ..⟩,fun v hv=>?_,fun v hv=>?_,List.length_replicate ..,List.length_replicate ..,List.length_replicate ..,fun q hq=>?_,fun q hq=>?_⟩,⟨fun r k v hr hv=>?_,fun t ht=>?_⟩,fun f hf=>?_,fun k hk=>?_⟩
 ·rw [List.eq_of_mem_replicate hv]; omega
 ·have:=hg.se v hv; omega
 ·rw [List.eq_of_mem_replicate hq]; rfl
 ·rw [List.eq_of_mem_replicate hq]; exact Nat.zero_le _
 ·rw [hrow] at hv; cases hv
 ·rw [if_neg (by simp)]
  have hn:need g (thAt (newC g) t) = 0:=need0 (by rcases h0 t with h | h <;> simp [h])
  rw [hn]
  have hz:∀ r,cntL (rws (newC g) r) (t:Int) = 0:=fun r=>by
   refine cntL_none (fun q hq hm=>?_)
   obtain ⟨k,rfl,_⟩:=qAt_of_mem hq
   rw [hrow] at hm; cases hm
  unfold V.cnt
  rw [hz,hz,hz,hz,hz]
 ·have:f = newT g 0:=List.mem_singleton.1 hf
  rw [this]; exact thI_good hgt
 ·rcases h0 k with h | h <;> omega
theorem new85p (nm nw:Nat) (se:List Int) (h1:nm≤1000) (h2:nw≤1000) (h3:se.length≤1000):Spec Tryz.prog 85 [.int .i64 nm,.int .i64 nw,ints se] [] (fun d os'=>d = lkVn (newS nm nw se)∧os' = []):=by
 refine Spec.frz (post':=fun d=>d = lkVn (newS nm nw se)) ?_
 refine (new66 nm nw se h1 h2 h3).mono ?_
 rintro d os' ⟨rfl,rfl⟩
 exact ⟨_,View.agg (.cons (.same _) (.cons (.same _) (.cons (View.slAll (f:=false) rfl rfl (by simp [newS]) (by simp) (ViewL.same _) (pureL_map (fun _=>rfl) _)) (.cons (View.slAll (f:=false) rfl rfl (by simp [newS]) (by simp) (ViewL.same _) (pureL_map (fun _=>rfl) _)) (.cons (.same _) (.cons (View.slAll (f:=false) rfl rfl (by simp [newS]) (by simp) (ViewL.same _) (pureL_rows _)) (.cons (View.slAll (f:=false) rfl rfl (by simp [newS]) (by simp) (ViewL.same _) (pureL_rows _)) (.cons (View.slAll (f:=false) rfl rfl (by simp [newS]) (by simp) (ViewL.same _) (pureL_rows _)) (.cons (.same _) (.cons (.same _) .nil)))))))))),rfl,rfl⟩
theorem new86 (n:Nat) (h:n≤1000):Spec Tryz.prog 86 [.int .i64 n] [] (fun d os'=>d = chVn n∧os' = []):=by
 refine Spec.frz (post':=fun d=>d = chVn n) ?_
 refine Spec.by Tryz.func86 rfl (by decide) (by decide +kernel) rfl ?_
 refine goA ?_
 repeat (refine erC ?_)
 refine goA ?_
 refine Ret.mk [.cell 2 30] rfl ?_; (refine goA ?_)
 exact ⟨_,View.agg (.cons (.same _) (.cons (.same _) (.cons (.same _) (.cons (.same _) (.cons (View.slAll (f:=false) rfl rfl (List.length_replicate ..) (by simp) (nilsV n) (pureL_rows _)) (.cons (.same _) (.cons (.same _) (.cons (.same _) (.cons (View.slAll (f:=false) rfl rfl (List.length_replicate ..) (by simp) (nilsV n) (pureL_rows _)) (.cons (View.slAll (f:=false) rfl rfl (List.length_replicate ..) (by simp) (nilsV n) (pureL_rows _)) .nil)))))))))),rfl,rfl⟩
theorem new44 {g:Pg} (hg:GoodP g):Spec Tryz.prog 44 [pgD g] [] (fun d os'=>d = coreV (newC g)∧os' = []):=by
 have hmu:=hg.sz.mu
 have hco:=hg.sz.co
 have hse:=hg.sz.se
 have hch:=hg.sz.ch
 have hfu:=hg.sz.fu
 have h60:=new85p g.mu.toNat (g.co.map (D.int .i64)).length g.se (by omega) (by rw [List.length_map]; omega) (by omega)
 have h61:=new86 (g.ch.map (D.int .i64)).length (by rw [List.length_map]; omega)
 rw [show ((g.mu.toNat:Nat):Int) = g.mu from by omega] at h60
 obtain ⟨u,hu⟩:∃ u,g.fu[0]? = some u:=⟨_,List.getElem?_eq_getElem (by omega)⟩
 have hgu:=hg.fu u (List.mem_of_getElem? hu)
 have h62:=new38 g 0 u hu (by omega)
 have e:=(newT_okT g 0 u hu hgu.1).1
 rw [← e] at h62
 refine Spec.frz (post':=fun d=>d = coreV (newC g)) ?_
 refine Spec.by Tryz.func44 rfl (by decide) (by decide +kernel) rfl ?_
 refine goA ?_
 refine Call.mk ((h60).only _ rfl (by rintro d rfl; rfl)) ?_; rintro d os' ⟨rfl,rfl⟩
 refine goA ?_
 refine Call.mk ((h61).only _ rfl (by rintro d rfl; rfl)) ?_; rintro d os' ⟨rfl,rfl⟩
 refine goA ?_
 refine Call.mk ((h62).only _ rfl (by rintro d rfl; rfl)) ?_; rintro d os' ⟨rfl,rfl⟩
 refine goA ?_
 refine App.only false rfl rfl ?_
 refine goA ?_
 refine Ret.mk [.cell 2 30] rfl ?_; (refine goA ?_)
 refine ⟨_,.same _,rfl,?_⟩
 rw [List.length_map,List.length_map]
 rfl
def lvP:List (Int × Int):=[(0,5),(25,0),(26,0)]
theorem lv_good:GoodP (vmP lvP):=by
 refine vm_good (by decide) ?_
 intro x hx
 simp only [lvP,List.mem_cons,List.not_mem_nil,or_false] at hx
 rcases hx with rfl | rfl | rfl <;> (unfold inOk; dsimp only; simp)
def lvR:Nat→Cr × List Ev
 | 0=>(newC (vmP lvP),[])
 | i+1=>((stepC (vmP lvP) (lvR i).1 0).1,(lvR i).2 ++ (stepC (vmP lvP) (lvR i).1 0).2.1)
theorem lv_ci:∀ i,CI (vmP lvP) (lvR i).1
 | 0=>newC_ci lv_good
 | i+1=>stepC_ci lv_good (lv_ci i) 0
theorem lv_e:∀ i < 3,(stepC (vmP lvP) (lvR i).1 0).2.2.2 = 0:=by decide +kernel
theorem lv_l:∀ i < 3,(lvR i).2.length≤10∧(stepC (vmP lvP) (lvR i).1 0).2.1.length≤10:=by decide +kernel
theorem lv_end:overK (lvR 3).1 = true∧(lvR 3).2 = [(0,0,5),(2,0,0)]:=by decide +kernel
theorem lives23:Spec Tryz.prog 23 [] [] (fun d os'=>d = .bool true∧os' = []):=by
 refine Spec.frz (post':=fun d=>d = .bool true) ?_
 refine Spec.by Tryz.func23 rfl (by decide) (by decide +kernel) rfl ?_
 refine goA ?_
 refine App.only false rfl rfl ?_
 refine goA ?_
 refine App.only false rfl rfl ?_
 refine goR ?_
 refine Pt.weak (Weak.on [(0,.bool false),(1,.ptr 0 0 7 0 0)] [one (.row 26 7 false [vmR lvP])]) ?_
 refine Pt.weak (Weak.frzO (fun _=>false) [(0,.bool false),(1,.ptr 0 0 7 0 0)] 0 (ty:=26) (sz:=7) (es:=[vmR lvP]) rfl rfl [pgD (vmP lvP)] rfl (.cons (vmV _ _ lvP) .nil) ⟨View.same _,View.same _,trivial⟩) ?_
 refine goA ?_
 refine Call.mk (((new44 lv_good)).only _ rfl (by rintro d rfl; rfl)) ?_; rintro d os' ⟨rfl,rfl⟩
 refine goA ?_
 refine Loop.inv (A:=Nat × Nat) (List.range 45) (fun i=>[(0,.bool false),(1,.ptr 0 0 7 0 0),(2,.ptr 1 0 10 0 0),(3,.sl 2 0 3 0 i.2 none),(4,.int .i64 (i.1:Int))]) (fun i=>[one (.row 26 7 false [pgD (vmP lvP)]),one (.row 30 10 false [coreV (lvR i.1).1]),rowE (lvR i.1).2]) (fun i=>i.1≤3∧i.2 = (lvR i.1).2.length) (fun i=>3 - i.1) (0,0) ⟨Nat.zero_le _,rfl⟩ ?_ ?_
 ·refine Weak.trans (Weak.nilrow 3 rfl 84 3 true) ?_
  exact Weak.start' rfl rfl tld
 rintro ⟨i,n⟩ ⟨hi,hn⟩
 dsimp only at hi hn ⊢
 have hci:=lv_ci i
 have hst:=step22 lv_good hci 0
 have hl8:=g_th8 lv_good hci.z
 have hem:((lvR i).2.map evD).length = (lvR i).2.length:=List.length_map ..
 refine goA ?_
 refine Br.dec (fun h0=>?_) (fun h0=>?_)
 ·have hi3:i < 3:=by omega
  have he:=lv_e i hi3
  obtain ⟨hl1,hl2⟩:=lv_l i hi3
  rw [he] at hst
  have hem2:((stepC (vmP lvP) (lvR i).1 0).2.1.map evD).length = (stepC (vmP lvP) (lvR i).1 0).2.1.length:=List.length_map ..
  refine goA ?_
  refine Call.mk ((hst).only _ rfl (by rintro d rfl; rfl)) ?_; rintro d os' ⟨rfl,rfl⟩
  refine goA ?_
  refine ⟨_,_,_,?_,⟨(i+1,n+((stepC (vmP lvP) (lvR i).1 0).2.1.map evD).length),?_,rfl,rfl,rfl⟩,?_⟩
  ·show 3 - (i+1) < 3 - i; omega
  ·exact ⟨hi3,by show _ = ((lvR i).2 ++ (stepC (vmP lvP) (lvR i).1 0).2.1).length; rw [List.length_append,hem2,hn]⟩
  ·refine Weak.trans (Weak.shift 4 2 (by decide) (by simp) (bl rfl) (bl rfl) (fun j=>by cases j <;> rfl) rfl) ?_
   refine Weak.backT 3 (by simp) ?_ (by kernel_rfl) (bl rfl) tld (by kernel_rfl) (by kernel_rfl)
   exact congrArg (fun r=>([one (.row 26 7 false [pgD (vmP lvP)]),one (.row 30 10 false [coreV (lvR (i+1)).1]),one (.row 84 3 true r)]:Objs)) (List.map_append (l₁:=(lvR i).2) (l₂:=(stepC (vmP lvP) (lvR i).1 0).2.1) (f:=evD)).symm
 ·have hi3:i = 3:=by omega
  subst hi3
  subst hn
  obtain ⟨e1,e2⟩:=lv_end
  refine goR ?_
  refine Pt.weak (Weak.frzK (fun i=>Nat.beq i 2) [(0,.bool false),(2,.ptr 1 0 10 0 0),(3,evs (lvR 3).2)] ⟨View.same _,View.same _,View.slAll (f:=false) rfl rfl hem (by simp) (ViewL.same _) (pureL_map (fun _=>rfl) _),trivial⟩) ?_
  refine goA ?_
  refine Call.mk ((over53 (lvR 3).1 (by omega)).only _ rfl (by rintro d rfl; rfl)) ?_; rintro d os' ⟨rfl,rfl⟩
  rw [e1,e2]
  refine goA ?_
  refine App.only false rfl rfl ?_
  refine goA ?_
  refine Call.mk ((same34 [(0,0,5),(2,0,0)] (by decide)).only _ rfl (by rintro d rfl; rfl)) ?_; rintro d os' ⟨rfl,rfl⟩
  refine goA ?_
  refine Ret.mk [.tmp 0] rfl ?_; (refine goA ?_)
  exact ⟨_,.same _,rfl,rfl⟩
theorem tickW_now:∀ (n:Nat) (C:Cr) (l:List Int),(tickW n C l).1.now = C.now∧(tickW n C l).1.th.length = C.th.length
 | 0,C,l=>⟨rfl,rfl⟩
 | n+1,C,l=>by
  rw [tickW]
  split
  ·exact ⟨rfl,rfl⟩
  ·obtain ⟨h1,h2⟩:=tickW_now n (upTh C (firstK C C.th.length).toNat) (l ++ [firstK C C.th.length])
   exact ⟨h1,h2.trans (putT_len _ _ _)⟩
theorem ns_le (C:Cr):ns C≤C.th.length:=List.countP_le_length
theorem ofK_mem {C:Cr} {s:Int} (v:Int):v ∈ ofK C [s] ↔ ∃ k:Nat,v = k∧k < C.th.length∧(thAt C k).st = s:=by
 unfold ofK ofS ofi
 rw [List.mem_map]
 constructor
 ·rintro ⟨k,hk,rfl⟩
  rw [List.mem_filter] at hk
  have hl:=List.mem_range.1 hk.1
  refine ⟨k,rfl,hl,?_⟩
  have h2:=hk.2
  rw [thAt_lt hl]
  rw [List.getD_eq_getElem?_getD,List.getElem?_eq_getElem hl] at h2
  simpa using h2
 ·rintro ⟨k,rfl,hk,h1⟩
  refine ⟨k,List.mem_filter.2 ⟨List.mem_range.2 hk,?_⟩,rfl⟩
  rw [thAt_lt hk] at h1
  rw [List.getD_eq_getElem?_getD,List.getElem?_eq_getElem hk]
  simpa using h1
theorem row_getZ {W:List Int} {i:Nat} {v z:Int} (h:W[i]? = some v) (hz:z = (i:Int)):(W.map (D.int .i64))[0+z.toNat]? = some (.int .i64 v):=by subst hz; rw [Int.toNat_natCast,Nat.zero_add]; exact get_map h
theorem set_rowZ {W:List Int} {z x:Int} {i:Nat} (h:z = (i:Int)):(W.map (D.int .i64)).set (0+z.toNat) (.int .i64 x) = (W.set i x).map (D.int .i64):=by subst h; rw [Int.toNat_natCast,Nat.zero_add,List.map_set]
theorem row_get2 {W:List Int} {z z' x v:Int} {i i':Nat} (hz':z' = (i':Int)) (h:(W.set i' x)[i]? = some v) (hz:z = (i:Int)):((W.map (D.int .i64)).set (0+z'.toNat) (.int .i64 x))[0+z.toNat]? = some (.int .i64 v):=by rw [set_rowZ hz']; exact row_getZ h hz
def CmpC (g:Nat) (a b:List D) (lt:Int→Int→Bool) (l:List Int) (r:Objs):Prop:=∀ (W:List Int) (x y:Int),x ∈ l→y ∈ l→Spec Tryz.prog g (a ++ ([.int .i64 x,.int .i64 y] ++ b)) (rowI W :: r) (fun d os'=>(∃ z,d = .int .i64 z∧decide (z < 0) = lt x y)∧os' = rowI W :: r)
structure SrtI (R:Int→Int→Prop) (l:List Int) (i:Nat) (W:List Int):Prop where
 len:W.length = l.length
 wd:W.drop i = l.drop i
 mem:∀ v,v ∈ W.take i ↔ v ∈ l.take i
 srt:(W.take i).Pairwise R
def InsR (R:Int→Int→Prop) (lt:Int→Int→Bool) (l:List Int):Prop:=∀ (A B:List Int) (x:Int) (i:Nat),i < l.length→l[i]? = some x→(∀ v,v ∈ A ++ B ↔ v ∈ l.take i)→(A ++ B).Pairwise R→(∀ b ∈ B,lt x b = true)→(∀ a,A.getLast? = some a→lt x a = false)→(A ++ x :: B).Pairwise R
structure SwpI (R:Int→Int→Prop) (lt:Int→Int→Bool) (l:List Int) (i j:Nat) (W:List Int):Prop where
 ex:∃ (A B:List Int) (x:Int),W = A ++ x :: (B ++ l.drop (i+1))∧A.length = j∧(A ++ B).length = i∧l[i]? = some x∧(∀ v,v ∈ A ++ B ↔ v ∈ l.take i)∧(A ++ B).Pairwise R∧(∀ b ∈ B,lt x b = true)
theorem SrtI.start {R:Int→Int→Prop} {l:List Int} (h:0 < l.length):SrtI R l 1 l:=by
 cases l with
 | nil=>simp at h
 | cons x l=>exact ⟨rfl,rfl,fun v=>Iff.rfl,by simp⟩
theorem SrtI.swp {R:Int→Int→Prop} {lt:Int→Int→Bool} {l:List Int} {i:Nat} {W:List Int} (h:SrtI R l i W) (hi:i < l.length):SwpI R lt l i i W:=by
 refine ⟨W.take i,[],l[i],?_,?_,?_,List.getElem?_eq_getElem hi,?_,?_,by simp⟩
 ·rw [List.nil_append,← List.drop_eq_getElem_cons hi,← h.wd,List.take_append_drop]
 ·rw [List.length_take,h.len]; omega
 ·rw [List.append_nil,List.length_take,h.len]; omega
 ·rw [List.append_nil]; exact h.mem
 ·rw [List.append_nil]; exact h.srt
theorem SwpI.done {R:Int→Int→Prop} {lt:Int→Int→Bool} {l:List Int} {i j:Nat} {W:List Int} (hR:InsR R lt l) (h:SwpI R lt l i j W) (hi:i < l.length) (hd:j = 0∨∃ k u v,j = k+1∧W[k]? = some u∧W[j]? = some v∧lt v u = false):SrtI R l (i+1) W:=by
 obtain ⟨A,B,x,hW,hA,hAB,hx,hm,hs,hB⟩:=h.ex
 subst hW
 have hlast:∀ a,A.getLast? = some a→lt x a = false:=by
  intro a ha
  rcases hd with h0 | ⟨k,u,v,hk,hu,hv,hlt⟩
  ·rw [h0] at hA
   rw [List.eq_nil_of_length_eq_zero hA] at ha
   cases ha
  ·have e1:v = x:=by
    rw [List.getElem?_append_right (by omega),hA,Nat.sub_self] at hv
    simpa using hv.symm
   have e2:u = a:=by
    rw [List.getElem?_append_left (by omega)] at hu
    rw [List.getLast?_eq_getElem?,hA,hk,Nat.add_sub_cancel,hu] at ha
    simpa using ha
   rw [e1,e2] at hlt
   exact hlt
 have hp:=hR A B x i hi hx hm hs hB hlast
 rw [List.length_append] at hAB
 have hlen:(A ++ x :: B).length = i+1:=by rw [List.length_append,List.length_cons]; omega
 have ht:(A ++ x :: (B ++ l.drop (i+1))).take (i+1) = A ++ x :: B:=by
  rw [show A ++ x :: (B ++ l.drop (i+1)) = (A ++ x :: B) ++ l.drop (i+1) by simp,List.take_left' hlen]
 have hdr:(A ++ x :: (B ++ l.drop (i+1))).drop (i+1) = l.drop (i+1):=by
  rw [show A ++ x :: (B ++ l.drop (i+1)) = (A ++ x :: B) ++ l.drop (i+1) by simp,List.drop_left' hlen]
 refine ⟨?_,hdr,fun v=>?_,by rw [ht]; exact hp⟩
 ·rw [List.length_append,List.length_cons,List.length_append,List.length_drop]; omega
 ·rw [ht,List.take_add_one,hx]
  have:=hm v
  rw [List.mem_append] at this
  rw [List.mem_append,List.mem_cons,List.mem_append,← this]
  simp only [Option.toList,List.mem_singleton]
  constructor
  ·rintro (h | h | h)
   ·exact .inl (.inl h)
   ·exact .inr h
   ·exact .inl (.inr h)
  ·rintro ((h | h) | h)
   ·exact .inl h
   ·exact .inr (.inr h)
   ·exact .inr (.inl h)
theorem SwpI.step {R:Int→Int→Prop} {lt:Int→Int→Bool} {l:List Int} {i k:Nat} {W:List Int} (h:SwpI R lt l i (k+1) W) {u v:Int} (hu:W[k]? = some u) (hv:W[k+1]? = some v) (hlt:lt v u = true):SwpI R lt l i k ((W.set (k+1) u).set k v):=by
 obtain ⟨A,B,x,hW,hA,hAB,hx,hm,hs,hB⟩:=h.ex
 subst hW
 rcases List.eq_nil_or_concat A with rfl | ⟨A',z,rfl⟩
 ·simp at hA
 ·rw [List.concat_eq_append] at *
  have hA':A'.length = k:=by simpa using hA
  have e1:v = x:=by
   rw [List.getElem?_append_right (by omega),hA,Nat.sub_self] at hv
   simpa using hv.symm
  have e2:u = z:=by
   rw [List.append_assoc,List.getElem?_append_right (by omega),hA',Nat.sub_self] at hu
   simpa using hu.symm
  subst e1 e2
  refine ⟨A',u :: B,v,?_,hA',?_,hx,?_,?_,?_⟩
  ·rw [List.append_assoc,List.set_append_right _ _ (by omega),hA',show k+1 - k = 1 from by omega,List.set_append_right _ _ (by omega),hA',Nat.sub_self]
   rfl
  ·simpa using hAB
  ·intro w; rw [← hm w]; simp
  ·simpa using hs
  ·intro b hb
   rcases List.mem_cons.1 hb with rfl | hb
   ·exact hlt
   ·exact hB b hb
theorem SwpI.at {R:Int→Int→Prop} {lt:Int→Int→Bool} {l:List Int} {i j:Nat} {W:List Int} (h:SwpI R lt l i j W) (hi:i < l.length):W.length = l.length∧j≤i∧∀ v ∈ W,v ∈ l:=by
 obtain ⟨A,B,x,hW,hA,hAB,hx,hm,hs,hB⟩:=h.ex
 subst hW
 rw [List.length_append] at hAB
 refine ⟨by rw [List.length_append,List.length_cons,List.length_append,List.length_drop]; omega,by omega,fun v hv=>?_⟩
 rw [List.mem_append,List.mem_cons,List.mem_append] at hv
 rcases hv with hv | rfl | hv | hv
 ·exact List.mem_of_mem_take ((hm v).1 (List.mem_append.2 (.inl hv)))
 ·exact List.mem_of_getElem? hx
 ·exact List.mem_of_mem_take ((hm v).1 (List.mem_append.2 (.inr hv)))
 ·exact List.mem_of_mem_drop hv
theorem ins235 {g:Nat} {a b:List D} {lt:Int→Int→Bool} {R:Int→Int→Prop} {l:List Int} {r:Objs} (hc:CmpC g a b lt l r) (hR:InsR R lt l) (hl:l.length≤1000000) (hp:0 < l.length):Spec Tryz.prog 235 [.sl 0 0 1 0 l.length none,.int .i64 0,.int .i64 l.length,.fn (.func g) a b] (rowI l :: r) (fun d os'=>∃ S,d = .tup []∧os' = rowI S :: r∧SrtI R l l.length S):=by
 refine Spec.by Tryz.func235 rfl (by decide) (by decide +kernel) rfl ?_
 refine goA ?_
 refine Loop.inv (A:=Nat × List Int) (List.range 53) (fun c=>[(0,.sl 0 0 1 0 l.length none),(1,.int .i64 0),(2,.int .i64 l.length),(3,.fn (.func g) a b),(8,.int .i64 (c.1:Int))]) (fun c=>rowI c.2 :: r) (fun c=>c.1≤l.length∧SrtI R l c.1 c.2) (fun c=>l.length - c.1) (1,l) ⟨hp,SrtI.start hp⟩ ?_ ?_
 ·exact Weak.start' rfl rfl tld
 rintro ⟨i,W0⟩ ⟨hi,hI⟩
 dsimp only at hi hI ⊢
 refine goA ?_
 refine Br.dec (fun h0=>?_) (fun h0=>?_)
 ·have hil:i < l.length:=by omega
  refine goA ?_
  refine Loop.inv (A:=Nat × List Int) (List.range 53) (fun c=>[(0,.sl 0 0 1 0 l.length none),(1,.int .i64 0),(2,.int .i64 l.length),(3,.fn (.func g) a b),(8,.int .i64 (i:Int)),(9,.int .i64 (c.1:Int))]) (fun c=>rowI c.2 :: r) (fun c=>SwpI R lt l i c.1 c.2) (fun c=>c.1) (i,W0) (hI.swp hil) ?_ ?_
  ·exact Weak.start' rfl rfl tld
  rintro ⟨j,W⟩ hS
  dsimp only at hS ⊢
  obtain ⟨hWl,hji,hWm⟩:=hS.at hil
  have hwm:(W.map (D.int .i64)).length = W.length:=List.length_map ..
  cases j with
  | zero =>
   refine goA ?_
   refine ⟨_,_,_,?_,⟨(i+1,W),?_,rfl,rfl,rfl⟩,?_⟩
   ·show l.length - (i+1) < l.length - i; omega
   ·exact ⟨hil,hS.done hR hil (.inl rfl)⟩
   ·exact Weak.back rfl tld (by kernel_rfl) (by kernel_rfl)
  | succ k =>
   obtain ⟨v,hv⟩:∃ v,W[k+1]? = some v:=⟨_,List.getElem?_eq_getElem (by omega)⟩
   obtain ⟨u,hu⟩:∃ u,W[k]? = some u:=⟨_,List.getElem?_eq_getElem (by omega)⟩
   have hcs:=hc W v u (hWm v (List.mem_of_getElem? hv)) (hWm u (List.mem_of_getElem? hu))
   refine goA ?_
   refine Opt.of (row_getZ hv rfl) ?_
   refine goA ?_
   refine Opt.of (row_getZ hu (by omega)) ?_
   refine goA ?_
   rw [forceL_eq]
   refine Call.mk hcs ?_
   rintro d os' ⟨⟨z,rfl,hz⟩,rfl⟩
   refine goA ?_
   refine Br.dec (fun h1=>?_) (fun h1=>?_)
   ·have hlt:lt v u = true:=by rw [← hz]; exact decide_eq_true h1
    refine goA ?_
    refine Opt.of (row_getZ hu (by omega)) ?_
    refine goA ?_
    refine Opt.of (row_getZ hv rfl) ?_
    refine goA ?_
    refine Opt.of (row_getZ hv rfl) ?_
    refine goA ?_
    refine Opt.of (row_get2 (i:=k) (i':=k+1) (v:=u) rfl (by rw [List.getElem?_set_ne (by omega)]; exact hu) (by omega)) ?_
    refine goA ?_
    refine ⟨_,_,_,?_,⟨(k,(W.set (k+1) u).set k v),?_,rfl,rfl,rfl⟩,?_⟩
    ·show k < k+1; omega
    ·exact hS.step hu hv hlt
    ·refine Weak.back ?_ tld (by kernel_rfl) (by kernel_rfl)
     show one (.row 3 1 true (((W.map (D.int .i64)).set (0+(((k+1:Nat):Int)).toNat) (.int .i64 u)).set (0+(((k+1:Nat):Int) - 1).toNat) (.int .i64 v))) :: r = one (.row 3 1 true (((W.set (k+1) u).set k v).map (D.int .i64))) :: r
     rw [set_rowZ (i:=k+1) rfl,set_rowZ (i:=k) (by omega)]
   ·have hlt:lt v u = false:=by rw [← hz]; exact decide_eq_false h1
    refine goA ?_
    refine ⟨_,_,_,?_,⟨(i+1,W),?_,rfl,rfl,rfl⟩,?_⟩
    ·show l.length - (i+1) < l.length - i; omega
    ·exact ⟨hil,hS.done hR hil (.inr ⟨k,u,v,rfl,hu,hv,hlt⟩)⟩
    ·exact Weak.back rfl tld (by kernel_rfl) (by kernel_rfl)
 ·obtain rfl:i = l.length:=by omega
  refine goA ?_
  exact Ret.mk [] rfl ⟨W0,rfl,rfl,hI⟩
theorem ins235z {g:Nat} {a b:List D} {R:Int→Int→Prop} {r:Objs}:Spec Tryz.prog 235 [.sl 0 0 1 0 0 none,.int .i64 0,.int .i64 0,.fn (.func g) a b] (rowI [] :: r) (fun d os'=>∃ S,d = .tup []∧os' = rowI S :: r∧SrtI R [] 0 S):=by
 refine Spec.by Tryz.func235 rfl (by decide) (by decide +kernel) rfl ?_
 refine goA ?_
 refine Loop.inv (A:=Unit) (List.range 53) (fun _=>[(0,.sl 0 0 1 0 0 none),(1,.int .i64 0),(2,.int .i64 0),(3,.fn (.func g) a b),(8,.int .i64 1)]) (fun _=>rowI [] :: r) (fun _=>True) (fun _=>0) () trivial ?_ ?_
 ·exact Weak.start' rfl rfl tld
 rintro ⟨⟩ _
 refine goA ?_
 exact Ret.mk [] rfl ⟨[],rfl,rfl,⟨rfl,rfl,fun v=>Iff.rfl,.nil⟩⟩
theorem ins235a {g:Nat} {a b:List D} {lt:Int→Int→Bool} {R:Int→Int→Prop} {l:List Int} {r:Objs} (hc:CmpC g a b lt l r) (hR:InsR R lt l) (hl:l.length≤1000000):Spec Tryz.prog 235 [.sl 0 0 1 0 l.length none,.int .i64 0,.int .i64 l.length,.fn (.func g) a b] (rowI l :: r) (fun d os'=>∃ S,d = .tup []∧os' = rowI S :: r∧SrtI R l l.length S):=by
 cases l with
 | nil=>exact ins235z
 | cons x l=>exact ins235 hc hR hl (by simp)
theorem stable210 {g:Nat} {a b:List D} {lt:Int→Int→Bool} {R:Int→Int→Prop} {l:List Int} {r:Objs} (hc:CmpC g a b lt l r) (hR:InsR R lt l) (hl:l.length < 20):Spec Tryz.prog 210 [.sl 0 0 1 0 l.length none,.int .i64 l.length,.fn (.func g) a b] (rowI l :: r) (fun d os'=>∃ S,d = .tup []∧os' = rowI S :: r∧SrtI R l l.length S):=by
 have hs:=ins235a hc hR (by omega)
 refine Spec.by Tryz.func210 rfl (by decide) (by decide +kernel) rfl ?_
 refine goA ?_
 refine Loop.inv (A:=Unit) (List.range 63) (fun _=>[(0,.sl 0 0 1 0 l.length none),(1,.int .i64 l.length),(2,.fn (.func g) a b),(6,.int .i64 20),(7,.int .i64 0),(8,.int .i64 20)]) (fun _=>rowI l :: r) (fun _=>True) (fun _=>0) () trivial ?_ ?_
 ·exact Weak.start' rfl rfl tld
 rintro ⟨⟩ _
 refine goA ?_
 refine Call.mk hs ?_
 rintro d os' ⟨S,rfl,rfl,hS⟩
 refine goA ?_
 refine Loop.inv (A:=Unit) (List.range 63) (fun _=>[(0,.sl 0 0 1 0 l.length none),(1,.int .i64 l.length),(2,.fn (.func g) a b),(6,.int .i64 20)]) (fun _=>rowI S :: r) (fun _=>True) (fun _=>0) () trivial ?_ ?_
 ·exact Weak.start' rfl rfl tld
 rintro ⟨⟩ _
 refine goA ?_
 exact Ret.mk [] rfl ⟨S,rfl,rfl,hS⟩
theorem sort152 {g:Nat} {a b:List D} {lt:Int→Int→Bool} {R:Int→Int→Prop} {l:List Int} {r:Objs} (hc:CmpC g a b lt l r) (hR:InsR R lt l) (hl:l.length < 20):Spec Tryz.prog 152 [.sl 0 0 1 0 l.length none,.fn (.func g) a b] (rowI l :: r) (fun d os'=>∃ S,d = .tup []∧os' = rowI S :: r∧SrtI R l l.length S):=by
 have hs:=stable210 hc hR hl
 refine Spec.by Tryz.func152 rfl (by decide) (by decide +kernel) rfl ?_
 refine goA ?_
 refine Call.mk hs ?_
 rintro d os' ⟨S,rfl,rfl,hS⟩
 refine goA ?_
 exact Ret.mk [] rfl ⟨S,rfl,rfl,hS⟩
def slLt (C:Cr) (x y:Int):Bool:=decide (cmpI (thAt C x.toNat).on (thAt C y.toNat).on < 0)
theorem slLt_iff (C:Cr) (x y:Int):slLt C x y = true ↔ (thAt C x.toNat).on < (thAt C y.toNat).on:=by
 unfold slLt cmpI
 rw [decide_eq_true_eq]
 split
 ·omega
 ·split <;> omega
theorem ofi_pw (T:List Th) (q:Th→Bool) (i:Nat):(ofi T q i).Pairwise (· < ·):=by
 unfold ofi
 rw [List.pairwise_map]
 refine List.Pairwise.imp (fun h=>Int.ofNat_lt.2 h) (List.Pairwise.filter _ List.pairwise_lt_range)
theorem slR_ins (C:Cr):InsR (SlR C) (slLt C) (ofK C [1]):=by
 intro A B x i hi hx hm hp hB hA
 refine SlS.ins hp (fun b hb=>(slLt_iff C x b).1 (hB b hb)) (fun a ha h=>?_) (fun a ha=>?_)
 ·have:=hA a ha
  rw [(slLt_iff C x a).2 h] at this
  cases this
 ·have ht:=(hm a).1 (List.mem_append.2 (.inl ha))
  have hpw:=ofi_pw C.th (fun x=>decide (x.st ∈ [1])) C.th.length
  obtain ⟨j,hj,e⟩:=List.getElem_of_mem ht
  rw [List.length_take] at hj
  rw [List.getElem_take] at e
  have:=List.pairwise_iff_getElem.1 hpw j i (by have:(ofK C [1]).length = (ofi C.th (fun x=>decide (x.st ∈ [1])) C.th.length).length:=rfl; omega) hi (by omega)
  have hxe:(ofK C [1])[i] = x:=by rw [List.getElem?_eq_getElem hi] at hx; cases hx; rfl
  have e2:(ofi C.th (fun x=>decide (x.st ∈ [1])) C.th.length)[i]'hi = x:=hxe
  have e1:(ofi C.th (fun x=>decide (x.st ∈ [1])) C.th.length)[j]'(by have:(ofK C [1]).length = (ofi C.th (fun x=>decide (x.st ∈ [1])) C.th.length).length:=rfl; omega) = a:=e
  rw [e1,e2] at this
  exact this
@[reducible] def cl1 (C:Cr):Objs:=[one (.row 30 10 false [coreV C])]
theorem cmp153 (C:Cr):CmpC 153 [] [.ptr 1 0 10 0 0] (slLt C) (ofK C [1]) (cl1 C):=by
 intro W x y hx hy
 have hm:(C.th.map thD).length = C.th.length:=List.length_map ..
 obtain ⟨i,rfl,hi,_⟩:=(ofK_mem x).1 hx
 obtain ⟨j,rfl,hj,_⟩:=(ofK_mem y).1 hy
 have hgi:=th_at0 hi
 have hgj:=th_at0 hj
 show Spec Tryz.prog 153 [.int .i64 i,.int .i64 j,.ptr 1 0 10 0 0] (rowI W :: cl1 C) _
 refine Spec.by Tryz.func153 rfl (by decide) (by decide +kernel) rfl ?_
 refine goA ?_
 refine Opt.of hgi ?_
 refine goA ?_
 refine Opt.of hgj ?_
 refine goA ?_
 refine Call.mk ((cmp154 (thAt C i).on (thAt C j).on).only _ rfl (by rintro d rfl; rfl)) ?_; rintro d os' ⟨rfl,rfl⟩
 refine goA ?_
 refine Ret.mk [.tmp _] rfl ⟨⟨_,rfl,?_⟩,rfl⟩
 unfold slLt
 rw [Int.toNat_natCast,Int.toNat_natCast]
theorem srt_sls {C:Cr} {S:List Int} (h:SrtI (SlR C) (ofK C [1]) (ofK C [1]).length S):SlS C S:=by
 have h1:S.take (ofK C [1]).length = S:=List.take_of_length_le (by have:=h.len; omega)
 have h2:=h.mem
 have h3:=h.srt
 rw [h1] at h2 h3
 rw [List.take_length] at h2
 exact ⟨fun v=>(h2 v).trans (ofK_mem v),h3⟩
theorem sort96 (C:Cr) (hl:C.th.length < 20):Spec Tryz.prog 152 [.sl 1 0 1 0 (ofK C [1]).length none,.fn (.func 153) [] [.ptr 0 0 10 0 0]] [one (.row 30 10 false [coreV C]),rowI (ofK C [1])] (fun d os'=>∃ S,(d = .tup []∧os' = [one (.row 30 10 false [coreV C]),rowI S])∧SlS C S∧S.length = (ofK C [1]).length):=by
 have hs:=sort152 (cmp153 C) (slR_ins C) (by have:=ofK_len C [1]; omega)
 refine (hs.frame [one (.row 30 10 false [coreV C]),rowI (ofK C [1])] [(1,0),(0,0)] rfl (by decide) (allQ_get0 (Q:=fun k p=>_) ⟨⟨bl rfl,rfl,rfl,fun j hj=>one_pos _ hj⟩,⟨bl rfl,rfl,rfl,fun j hj=>one_pos _ hj⟩,trivial⟩) rfl).mono ?_
 rintro d os' ⟨d1,os1,⟨S,rfl,rfl,hS⟩,rfl,rfl⟩
 exact ⟨S,⟨rfl,rfl⟩,srt_sls hS,hS.len⟩
theorem sleepers96w (C:Cr) (hl:C.th.length < 20):Spec Tryz.prog 96 [coreV C] [] (fun d os'=>∃ S,(d = .sl 0 0 1 0 S.length none∧os' = [rowI S])∧SlS C S):=by
 refine Spec.by Tryz.func96 rfl (by decide) (by decide +kernel) rfl ?_
 refine goA ?_
 refine App.only false rfl rfl ?_
 refine goA ?_
 refine Call.mk ((in98 [1]).only _ rfl (by rintro d rfl; rfl)) ?_; rintro d os' ⟨rfl,rfl⟩
 refine goA ?_
 refine Call.mk ((of97w C [1] (by simp) (by omega)).onto _ rfl) ?_
 rintro d os' ⟨d0,os0,⟨rfl,rfl⟩,rfl,rfl⟩
 refine goR ?_
 refine Pt.weak (Weak.on [(1,.ptr 0 0 10 0 0),(3,.sl 1 0 1 0 (ofK C [1]).length none)] [one (.row 30 10 false [coreV C]),rowI (ofK C [1])]) ?_
 refine goA ?_
 refine Call.mk (sort96 C hl) ?_
 rintro d os' ⟨S,⟨rfl,rfl⟩,hS,hSl⟩
 refine goA ?_
 refine Ret.weak (Weak.only [(2,.sl 1 0 1 0 (ofK C [1]).length none)] [one (.row 30 10 false [coreV C]),rowI S] (by kernel_rfl) tld) ?_
 refine Ret.weak (Weak.dropAt 0 (bl rfl)) ?_
 refine Ret.weak (Weak.shift 1 0 (by decide) (by simp) (bl rfl) (bl rfl) (fun j=>by cases j <;> rfl) rfl) ?_
 refine Ret.trim 1 (by simp) rfl (bl rfl) ?_
 exact Ret.mk [.tmp 2] rfl ⟨S,⟨by rw [hSl]; rfl,rfl⟩,hS⟩
@[reducible] def tcD (C:Cr) (k:Nat):D:=.agg [.int .i64 C.now,.sl k 0 5 0 C.th.length none,ints C.L.ow,ints C.L.co,lists C.bu,lists C.L.lk,lists C.L.wq,lists C.L.dq,lists C.sq,lists C.rq]
@[reducible] def tcL (C:Cr) (N k:Nat):D:=.agg [.int .i64 C.now,.sl k 0 5 0 N none,ints C.L.ow,ints C.L.co,lists C.bu,lists C.L.lk,lists C.L.wq,lists C.L.dq,lists C.sq,lists C.rq]
theorem tcD_view {F:Nat→Bool} {os:Objs} {C:Cr} {k:Nat} (hF:F k = true) (hat:os.at k 0 = .row 42 5 true (C.th.map thD)):View F os (tcD C k) (coreV C) :=
 .agg (.cons (.same _) (.cons (View.slAll (f:=false) hF hat (by simp) (by simp) (ViewL.same _) (pureTh _)) (.cons (.same _) (.cons (.same _) (.cons (.same _) (.cons (.same _) (.cons (.same _) (.cons (.same _) (.cons (.same _) (.cons (.same _) .nil))))))))))
theorem tcL_view {F:Nat→Bool} {os:Objs} {C:Cr} {N k:Nat} (hN:C.th.length = N) (hF:F k = true) (hat:os.at k 0 = .row 42 5 true (C.th.map thD)):View F os (tcL C N k) (coreV C):=by
 subst hN
 exact tcD_view hF hat
theorem clone28t {C:Cr} (h:ClB C):Spec Tryz.prog 28 [coreV C] [] (fun d os'=>d = tcD C 0∧os' = [rowT C.th]):=by
 refine Spec.weak (clone28 h) ?_
 rintro d os' ⟨rfl,rfl⟩
 refine ⟨[(0,tcD C 0)],[rowT C.th],?_,rfl,rfl⟩
 refine Weak.trans (Weak.frzK (fun i=>Nat.blt 2 i) [(0,tcD C 2)] ⟨.agg (.cons (.same _) (.cons (.same _)
  (.cons (View.slAll (f:=false) rfl rfl (by simp) (by simp) (ViewL.same _) (pureL_map (fun _=>rfl) _))
  (.cons (View.slAll (f:=false) rfl rfl (by simp) (by simp) (ViewL.same _) (pureL_map (fun _=>rfl) _))
  (.cons (View.slAll (f:=false) rfl rfl (by simp) (by simp) (ViewL.same _) (pureL_rows _))
  (.cons (View.slAll (f:=false) rfl rfl (by simp) (by simp) (ViewL.same _) (pureL_rows _))
  (.cons (View.slAll (f:=false) rfl rfl (by simp) (by simp) (ViewL.same _) (pureL_rows _))
  (.cons (View.slAll (f:=false) rfl rfl (by simp) (by simp) (ViewL.same _) (pureL_rows _))
  (.cons (View.slAll (f:=false) rfl rfl (by simp) (by simp) (ViewL.same _) (pureL_rows _))
  (.cons (View.slAll (f:=false) rfl rfl (by simp) (by simp) (ViewL.same _) (pureL_rows _)) .nil)))))))))),trivial⟩) ?_
 refine Weak.trans (Weak.only [(0,tcD C 2)] (one .gone :: one .gone :: rowT C.th :: one .gone :: one .gone :: one .gone :: [one .gone,one .gone,one .gone,one .gone,one .gone,one .gone]) (by kernel_rfl) tld) ?_
 refine Weak.trans (Weak.shift 2 0 (by decide) (by simp) (bl rfl) (bl rfl) (fun j=>by cases j <;> rfl) rfl) ?_
 exact Weak.fin 1
theorem th_sets (T:List Th) (k:Nat) (x:D) (f:Th):((T.map thD).set (0+((k:Int)).toNat) x).set (0+((k:Int)).toNat) (thD f) = (T.set k f).map thD:=by rw [Int.toNat_natCast,Nat.zero_add,List.set_set,List.map_set]
theorem mapT (q:List Int) (v:Int):q.map (D.int .i64) ++ [.int .i64 v] = (q ++ [v]).map (D.int .i64):=by rw [List.map_append]; rfl
@[reducible] def upN (n:Int):Int:=if 1073741824 < (if n < 0 then 0 else n) then 1073741824 else (if n < 0 then 0 else n)
theorem tick_now {C:Cr} (h:0≤C.now∧C.now≤1073741824) (n:Int):{ C with now:=keep (C.now+upN n) } = tick0 C n:=by
 unfold tick0 mn upN
 by_cases h0:n < 0
 ·rw [if_pos h0,if_neg (by omega),if_neg (show ¬ 1073741824 < n by omega),if_neg (by omega)]
  have:keep (C.now+0) = C.now:=((keep_id _).2 (by omega)).symm.trans (by omega)
  rw [this]
 ·rw [if_neg h0]
  by_cases h1:1073741824 < n
  ·rw [if_pos h1,if_pos (by decide)]
  ·rw [if_neg h1]
   by_cases h2:0 < n
   ·rw [if_pos h2]
   ·rw [if_neg h2]
    have:keep (C.now+n) = C.now:=((keep_id _).2 (by omega)).symm.trans (by omega)
    rw [this]
theorem tick57 {g:Pg} (hg:GoodP g) {C:Cr} (h:CI g C) (n:Int):Spec Tryz.prog 57 [coreV C,.int .i64 n] [] (fun d os'=>d = .tup [coreV (tickC C n).1,ints (tickC C n).2]∧os' = []):=by
 have h8:=g_th8 hg h.z
 have hnow:=h.z.now
 have hcl:=clone28t (h.clB hg)
 refine Spec.frz (post':=fun d=>d = .tup [coreV (tickC C n).1,ints (tickC C n).2]) ?_
 obtain ⟨R,hR⟩:∃ R,tickC C n = R:=⟨_,rfl⟩
 have hR':=hR
 unfold tickC at hR'
 have htl:(tick0 C n).th.length = C.th.length:=by unfold tick0; split <;> rfl
 have hth:(tick0 C n).th = C.th:=by unfold tick0; split <;> rfl
 rw [hR]
 refine Spec.by Tryz.func57 rfl (by decide) (by decide +kernel) rfl ?_
 refine goA ?_
 refine Call.mk (hcl.onto _ rfl) ?_
 rintro d os' ⟨d1,os1,⟨rfl,rfl⟩,rfl,rfl⟩
 refine goR ?_
 refine Pt.weak (Weak.on [(1,.int .i64 n),(2,.ptr 0 0 10 0 0),(4,.ptr 1 0 10 0 0)] [one (.row 30 10 false [tcD C 2]),one (.row 30 10 false [z30]),rowT C.th]) ?_
 refine goA ?_
 refine Call.mk (keep35 _ _) ?_
 rintro d os' ⟨rfl,rfl⟩
 have hc0:=tick_now hnow n
 obtain ⟨C0,hC0⟩:∃ C0,tick0 C n = C0:=⟨_,rfl⟩
 rw [hC0] at hc0 hR' htl hth
 have hcd:tcL C0 C.th.length 2 = .agg [.int .i64 (keep (C.now+upN n)),.sl 2 0 5 0 C.th.length none,ints C.L.ow,ints C.L.co,lists C.bu,lists C.L.lk,lists C.L.wq,lists C.L.dq,lists C.sq,lists C.rq]:=by rw [← hc0]
 refine goR ?_
 refine Pt.weak (Weak.on [(2,.ptr 0 0 10 0 0),(4,.ptr 1 0 10 0 0)] [one (.row 30 10 false [.agg [.int .i64 (keep (C.now+upN n)),.sl 2 0 5 0 C.th.length none,ints C.L.ow,ints C.L.co,lists C.bu,lists C.L.lk,lists C.L.wq,lists C.L.dq,lists C.sq,lists C.rq]]),one (.row 30 10 false [z30]),rowT C.th]) ?_
 rw [← hcd,← hth]
 refine goA ?_
 refine Call.mk ((sleepers96w C0 (by omega)).fresh (.cons (tcL_view rfl rfl rfl) .nil) rfl (by rintro d os' ⟨S,⟨rfl,rfl⟩,_⟩; exact ⟨rfl,own_row1 _⟩)) ?_
 rintro d os' ⟨d1,os1,⟨S,⟨rfl,rfl⟩,hS⟩,rfl,rfl⟩
 have hSm:∀ v ∈ S,∃ k:Nat,v = (k:Int)∧k < C.th.length:=fun v hv=>by
  obtain ⟨k,h1,h2,_⟩:=(hS.mem v).1 hv
  exact ⟨k,h1,by rw [← htl]; exact h2⟩
 have hSl:S.length≤C.th.length:=by rw [hS.len,← htl]; exact ns_le C0
 have hSlm:(S.map (D.int .i64)).length = S.length:=List.length_map ..
 refine goA ?_
 refine Loop.inv (A:=Nat × Cr × List Int) (List.range 52) (fun a=>[(2,.ptr 0 0 10 0 0),(4,.ptr 1 0 10 0 0),(6,.sl 4 0 1 0 a.2.2.length none),(20,.sl 3 0 1 0 S.length none),(21,.int .i64 S.length),(22,.int .i64 (a.1:Int))]) (fun a=>[one (.row 30 10 false [tcL a.2.1 C0.th.length 2]),one (.row 30 10 false [z30]),rowT a.2.1.th,rowI S,rowI a.2.2]) (fun a=>a.1≤S.length∧a.2.1.th.length = C0.th.length∧a.2.2.length≤a.1∧((SlS a.2.1 (S.drop a.1)∧∃ k,S.length - a.1≤k∧tickW k a.2.1 a.2.2 = R)∨((a.2.1,a.2.2) = R∧∀ v ∈ S.drop a.1,a.2.1.now < (thAt a.2.1 v.toNat).on))) (fun a=>S.length - a.1) (0,C0,[]) ⟨Nat.zero_le _,rfl,Nat.le_refl _,.inl ⟨hS,C.th.length,by show S.length - 0≤_; omega,hR'⟩⟩ ?_ ?_
 ·refine Weak.trans (Weak.nilrow 6 rfl 3 1 true) ?_
  refine Weak.trans (Weak.on [(2,.ptr 0 0 10 0 0),(4,.ptr 1 0 10 0 0),(6,.sl 4 0 1 0 0 none),(20,.sl 3 0 1 0 S.length none),(21,.int .i64 S.length),(22,.int .i64 0)] [one (.row 30 10 false [tcL C0 C0.th.length 2]),one (.row 30 10 false [z30]),rowT C0.th,rowI S,rowI []]) ?_
  exact Weak.start' rfl rfl tld
 rintro ⟨i,E,l⟩ ⟨hi,hEl,hli,hI⟩
 dsimp only at hi hEl hli hI ⊢
 have hlm:(l.map (D.int .i64)).length = l.length:=List.length_map ..
 have hEm:(E.th.map thD).length = C0.th.length:=by rw [List.length_map]; exact hEl
 refine goA ?_
 refine Br.dec (fun h0=>?_) (fun h0=>?_)
 ·have hil:i < S.length:=by omega
  have hget:S[i]? = some S[i]:=List.getElem?_eq_getElem hil
  obtain ⟨k,hke,hk⟩:=hSm _ (List.getElem_mem hil)
  have hdrop:=List.drop_eq_getElem_cons hil
  rw [hke] at hget hdrop
  rw [hdrop] at hI
  have hgk:=th_at (C:=E) (t:=k) (by omega)
  refine goA ?_
  refine Opt.of (row_get0 hget) ?_
  refine goA ?_
  refine Opt.of hgk ?_
  refine goA ?_
  refine Br.dec (fun h1=>?_) (fun h1=>?_)
  ·have hI1:SlS E ((k:Int) :: S.drop (i+1))∧∃ m,S.length - i≤m∧tickW m E l = R:=by
    rcases hI with hI | ⟨_,hI⟩
    ·exact hI
    ·have:=hI (k:Int) (by simp)
     rw [Int.toNat_natCast] at this
     omega
   obtain ⟨hs,m,hm,ht⟩:=hI1
   obtain ⟨m,rfl⟩:∃ j,m = j+1:=⟨m - 1,by omega⟩
   have hfk:=hs.pos (by rw [Int.toNat_natCast]; exact h1)
   rw [tickW,hfk,if_neg (by omega),Int.toNat_natCast] at ht
   have hst:=hs.tail
   rw [Int.toNat_natCast] at hst
   refine goA ?_
   refine Opt.of hgk ?_
   refine goA ?_
   refine Opt.of (show ((E.th.map thD).set (0+((k:Int)).toNat) _)[0+((k:Int)).toNat]? = some _ by rw [Nat.zero_add,Int.toNat_natCast]; exact List.getElem?_set_self (by omega)) ?_
   refine goA ?_
   refine App.only false rfl rfl ?_
   refine goA ?_
   refine ⟨_,_,_,?_,⟨(i+1,upTh E k,l ++ [(k:Int)]),?_,rfl,rfl,rfl⟩,?_⟩
   ·show S.length - (i+1) < S.length - i; omega
   ·exact ⟨hil,(putT_len _ _ _).trans hEl,by show (l ++ [(k:Int)]).length≤i+1; rw [List.length_append,List.length_singleton]; omega,.inl ⟨hst,m,by show S.length - (i+1)≤m; omega,ht⟩⟩
   ·refine Weak.trans (Weak.on [(2,.ptr 0 0 10 0 0),(4,.ptr 1 0 10 0 0),(6,.sl 5 0 1 0 (l.length+1) none),(20,.sl 3 0 1 0 S.length none),(21,.int .i64 S.length),(22,.int .i64 ((i:Int)+1))] [one (.row 30 10 false [tcL E C0.th.length 2]),one (.row 30 10 false [z30]),one (.row 42 5 true (((E.th.map thD).set (0+((k:Int)).toNat) (thD { thAt E k with st:=0 })).set (0+((k:Int)).toNat) (thD { thAt E k with st:=0,on:=0 }))),rowI S,one .gone,one (.row 3 1 true (l.map (D.int .i64) ++ [.int .i64 k]))]) ?_
    rw [th_sets,mapT l k,show l.length+1 = (l ++ [(k:Int)]).length by rw [List.length_append]; rfl]
    refine Weak.trans (Weak.shift 5 4 (by decide) (by simp) (bl rfl) (bl rfl) (fun j=>by cases j <;> rfl) rfl) ?_
    refine Weak.backT 5 (by simp) (by first | rfl | kernel_rfl) (by kernel_rfl) (bl rfl) tld (by kernel_rfl) (by kernel_rfl)
  ·refine goA ?_
   refine ⟨_,_,_,?_,⟨(i+1,E,l),?_,rfl,rfl,rfl⟩,?_⟩
   ·show S.length - (i+1) < S.length - i; omega
   ·refine ⟨hil,hEl,by show l.length≤i+1; omega,.inr ?_⟩
    rcases hI with ⟨hs,m,hm,ht⟩ | ⟨hr,hI⟩
    ·have hfk:=hs.neg (by rw [Int.toNat_natCast]; exact h1)
     rw [tickW_end (by rw [hfk]; decide)] at ht
     refine ⟨ht,fun v hv=>?_⟩
     have:=hs.le (List.mem_cons_of_mem _ hv)
     rw [Int.toNat_natCast] at this
     show E.now < (thAt E v.toNat).on
     omega
    ·exact ⟨hr,fun v hv=>hI v (List.mem_cons_of_mem _ hv)⟩
   ·refine Weak.backT 5 (by simp) (by first | rfl | kernel_rfl) (by kernel_rfl) (bl rfl) tld (by kernel_rfl) (by kernel_rfl)
 ·have hie:i = S.length:=by omega
  have hER:(E,l) = R:=by
   rcases hI with ⟨hs,m,hm,ht⟩ | ⟨hr,_⟩
   ·rw [hie,List.drop_length] at hs
    rw [tickW_end (by rw [hs.nil]; decide)] at ht
    exact ht
   ·exact hr
  rw [← hER]
  refine goA ?_
  refine Ret.mk [.cell 4 30,.tmp 5] rfl ?_; (refine goA ?_)
  exact ⟨_,View.tup (.cons (tcL_view (C:=E) hEl rfl rfl) (.cons (View.slAll (f:=false) rfl rfl hlm (by simp) (ViewL.same _) (pureL_map (fun _=>rfl) _)) .nil)),rfl,rfl⟩
theorem step_evl {g:Pg} (hg:GoodP g) {C:Cr} (h:CI g C) (t:Int):(stepC g C t).2.1.length≤108:=by
 unfold stepC
 split
 ·exact Nat.zero_le _
 rename_i h1
 split
 ·exact Nat.zero_le _
 rename_i h2
 obtain ⟨b1,b2,b3,b4⟩:=beg_all hg h (t:=t.toNat) (by omega) (Classical.not_not.1 h2)
 have:=b4.xb.ev
 show (meetX g (begX g C t.toNat) t.toNat (stepT g (thAt C t.toNat)).2).ev.length≤108
 omega
end Go.Proofs.YtkceciebmkklpaaGreat.V
section
namespace Go.Proofs.YtkceciebmkklpaaGreat.V
open Go Go.RowKit Go.ChangeShapes Go.WideShapes
def Opens {α:Type} (P:Program) (t:TypeId) (enc:α→D) (J:α→Prop):Prop :=
 ∀ {H:Type} (en:TypeId × Value→H) (w:World) (base:Nat) (sp:Nat→Bool) (held:Bool) (fuel:Nat) (cs:List Value) (x:DataW H × List MemPlace),
  DataW.trod en P w base sp held fuel t cs = some x→(x.1.weights P t).all (·≤reachBytes) = true →
  ∃ a v,rep bot (heapIm w) (enc a) v∧enc a ≠ .junk∧v.cells.toList = cs∧(∀ c ∈ cs,c.oneCell' = true)∧J a
theorem opens_int {P:Program} {t:TypeId} (ht:P.underlying t = some (.int .i64)):Opens P t (D.int .i64) (fun n=>-9223372036854775808≤n∧n≤9223372036854775807):=fun en w base sp held fuel cs x h _=>by
 obtain ⟨n,rfl,rfl,hw⟩:=DataW.trod_int ht h
 refine ⟨n,.int .i64 n,by rw [rep],by simp,rfl,by simp [Value.oneCell'],?_⟩
 simp [Lit.wf,IntKind.min,IntKind.max,IntKind.signed,IntKind.bits] at hw
 omega
theorem exists_list {α:Type} (n:Nat) (Q:Nat→α→Prop) (h:∀ i,i < n→∃ a,Q i a):∃ xs:List α,xs.length = n∧∀ i a,xs[i]? = some a→Q i a:=by
 induction n with
 | zero=>exact ⟨[],rfl,fun i a hi=>by simp at hi⟩
 | succ n ih =>
  obtain ⟨xs,hl,hx⟩:=ih (fun i hi=>h i (by omega))
  obtain ⟨a,ha⟩:=h n (by omega)
  refine ⟨xs ++ [a],by simp [hl],fun i b hi=>?_⟩
  by_cases hlt:i < n
  ·rw [List.getElem?_append_left (by omega)] at hi; exact hx i b hi
  ·have hle:i = n:=by
    have:=(List.getElem?_eq_some_iff.1 hi).1
    simp at this; omega
   subst hle
   rw [List.getElem?_append_right (by omega),hl] at hi
   simp at hi
   exact hi ▸ ha
theorem weights_at {H:Type} {P:Program} {e:TypeId}:∀ {l:List (DataW H)} {d:DataW H},d ∈ l→(DataW.weightsAll P e l).all (·≤reachBytes) = true→(d.weights P e).all (·≤reachBytes) = true
 | y :: r,d,hd,h=>by
  rw [DataW.weightsAll,List.all_append,Bool.and_eq_true] at h
  rcases List.mem_cons.1 hd with rfl | hd
  ·exact h.1
  ·exact weights_at hd h.2
theorem repL_of {ρ:Pl} {I:Im}:∀ (ds:List D) (vs:List Value),ds.length = vs.length→(∀ (i:Nat) d v,ds[i]? = some d→vs[i]? = some v→rep ρ I d v)→repL ρ I ds vs
 | [],[],_,_=>repL_nil.2 rfl
 | [],_ :: _,h,_=>by simp at h
 | _ :: _,[],h,_=>by simp at h
 | d :: ds,v :: vs,hl,h=>repL_cons.2 ⟨v,vs,rfl,h 0 d v rfl rfl,repL_of ds vs (by simpa using hl) (fun i d' v' h1 h2=>h (i+1) d' v' (by simpa using h1) (by simpa using h2))⟩
theorem flat_get {sz:Nat}:∀ {us:List Value},(∀ u ∈ us,u.cells.size = sz)→∀ {j:Nat} {c:Value},(flat us)[j]? = some c→∃ u,us[j / sz]? = some u∧u.cells.toList[j % sz]? = some c∧0 < sz
 | [],_,j,c,h=>by simp [flat] at h
 | u :: us,hu,j,c,h=>by
  rw [flat_cons] at h
  have hs:u.cells.toList.length = sz:=by simpa using hu u (by simp)
  by_cases hj:j < sz
  ·rw [List.getElem?_append_left (by omega)] at h
   exact ⟨u,by rw [Nat.div_eq_of_lt hj]; rfl,by rw [Nat.mod_eq_of_lt hj]; exact h,by omega⟩
  ·rw [List.getElem?_append_right (by omega),hs] at h
   obtain ⟨u',h1,h2,h3⟩:=flat_get (fun u hu'=>hu u (List.mem_cons_of_mem _ hu')) h
   refine ⟨u',?_,?_,h3⟩
   ·rw [show j / sz = (j - sz) / sz+1 by
     rw [show j = (j - sz)+sz by omega,Nat.add_div_right _ h3]; simp]
    simpa using h1
   ·rw [← h2]; congr 1
    conv=>lhs; rw [show j = (j - sz)+sz by omega]
    simp
theorem prefix_of {cs l:List Value} (h:∀ (j:Nat) c,cs[j]? = some c→l[j]? = some c):cs <+: l:=by
 have hl:cs.length≤l.length:=by
  rcases Nat.eq_zero_or_pos cs.length with h0 | h0
  ·omega
  ·have:=h (cs.length - 1) _ (List.getElem?_eq_getElem (by omega))
   have:=(List.getElem?_eq_some_iff.1 this).1
   omega
 have:cs = l.take cs.length:=by
  apply List.ext_getElem?
  intro j
  by_cases hj:j < cs.length
  ·rw [List.getElem?_take,if_pos hj,h j _ (List.getElem?_eq_getElem hj),List.getElem?_eq_getElem hj]
  ·rw [List.getElem?_eq_none (by omega),List.getElem?_take,if_neg hj]
 rw [this]; exact List.take_prefix _ _
theorem opens_slice {α:Type} {P:Program} {t e:TypeId} {enc:α→D} {J:α→Prop} {sz:Nat} (ht:P.underlying t = some (.slice e)) (he:Opens P e enc J) (hsz:P.cellsOf e = sz) (h0:0 < sz) :
  Opens P t (fun xs:List α=>D.lst sz false (xs.map enc)) (fun xs=>xs.length≤maxLen∧xs.length * P.bytesOf e≤140737488351232∧∀ x ∈ xs,J x):=fun en w base sp held fuel cs x h hwt=>by
 rcases DataW.trod_slice ht h with ⟨rfl,rfl⟩ | ⟨a,len,cap,elems,rest,n,rfl,rfl,rfl,hb,hl,hm,hlen,hel,_,_⟩
 ·refine ⟨[],.slice none 0 0,?_,by simp,rfl,by simp [Value.oneCell'],by simp [maxLen],by simp,by simp⟩
  rw [rep]
  exact ⟨none,0,[],rfl,by simp,by simp [maxLen],by simp,repL_nil.2 rfl,by simp,.inl rfl⟩
 ·rw [DataW.weights,ht] at hwt
  simp only [List.all_cons,List.all_append,Bool.and_eq_true,decide_eq_true_eq,List.length_map] at hwt
  obtain ⟨hw0,hw1,_⟩:=hwt
  obtain ⟨xs,hxl,hx⟩:=exists_list len (fun i (p:α × Value)=>rep bot (heapIm w) (enc p.1) p.2∧Value.fine p.2 sz∧J p.1∧∀ k c,p.2.cells.toList[k]? = some c→w.cell? (a.add (i * sz+k)) = some c) (fun i hi=>by
   have hE:=hel i hi
   have hi2:i < elems.length:=by omega
   rw [List.getElem?_eq_getElem hi2,Option.bind_eq_some_iff] at hE
   obtain ⟨c,hc,hy⟩:=hE
   obtain ⟨p,v,h1,h2,h3,h4,h5⟩:=he en w base sp held n c _ hy (weights_at (l:=elems.map (·.1)) (List.mem_map.2 ⟨_,List.getElem_mem hi2,rfl⟩) hw1)
   obtain ⟨_,hcl,hcc⟩:=World.cells?_some hc
   rw [hsz] at hcl hcc
   refine ⟨(p,v),h1,⟨by simpa [← h3] using hcl,fun c hc=>h4 c (by rw [← h3]; exact hc)⟩,h5,fun k u hk=>?_⟩
   rw [h3] at hk
   have hkl:k < sz:=by have:=(List.getElem?_eq_some_iff.1 hk).1; omega
   have:=(hcc k hkl).trans hk
   rw [← this]
   congr 1
   unfold Addr.add
   by_cases hm:i * sz = 0 <;> by_cases hn:k = 0 <;> simp [hm,hn,Nat.add_assoc])
  have hfine:∀ u ∈ xs.map (·.2),Value.fine u sz:=by
   intro u hu
   obtain ⟨p,hp,rfl⟩:=List.mem_map.1 hu
   obtain ⟨j,hj⟩:=List.getElem?_of_mem hp
   exact (hx j p hj).2.1
  refine ⟨xs.map (·.1),.slice (some a) len cap,?_,by simp,rfl,by simp [Value.oneCell'],?_,?_,?_⟩
  ·rw [rep]
   refine ⟨some a,cap,xs.map (·.2),by simp [hxl],by simpa [hxl] using hl,hm,by simp,repL_of _ _ (by simp) ?_,hfine,?_⟩
   ·intro i d v h1 h2
    rw [List.map_map,List.getElem?_map,Option.map_eq_some_iff] at h1
    rw [List.getElem?_map,Option.map_eq_some_iff] at h2
    obtain ⟨p,hp,rfl⟩:=h1
    obtain ⟨q,hq,rfl⟩:=h2
    have:p = q:=Option.some.inj (hp.symm.trans hq)
    subst this
    exact (hx i p hp).1
   ·rcases Nat.eq_zero_or_pos len with hz | hz
    ·left; rw [List.eq_nil_of_length_eq_zero (l:=xs) (by omega)]; rfl
    ·right
     have hcell:∀ j c,(flat (xs.map (·.2)))[j]? = some c→w.cell? (a.add j) = some c:=by
      intro j c hj
      obtain ⟨u,h1,h2,h3⟩:=flat_get (fun u hu=>(hfine u hu).1) hj
      rw [List.getElem?_map,Option.map_eq_some_iff] at h1
      obtain ⟨p,hp,rfl⟩:=h1
      have:=(hx _ p hp).2.2.2 _ c h2
      rwa [Nat.mul_comm,Nat.div_add_mod] at this
     have hfl:(flat (xs.map (·.2))).length = len * sz:=by rw [flat_length (fun u hu=>(hfine u hu).1)]; simp [hxl]
     have h00:=hcell 0 _ (List.getElem?_eq_getElem (by rw [hfl]; exact Nat.mul_pos hz h0))
     have ha0:a.add 0 = a:=by simp [Addr.add]
     rw [ha0] at h00
     obtain ⟨b,o,spt⟩:=a
     unfold World.cell? at h00
     split at h00
     case h_2=>simp at h00
     rename_i arr t' fz hblk
     have hsp:spt = none:=by cases spt with | none=>rfl | some k=>simp at h00
     subst hsp
     refine ⟨b,o,arr,t',fz,rfl,hblk,prefix_of fun j c hj=>?_⟩
     have:=hcell j c hj
     have ea:Addr.add ⟨b,o,none⟩ j = ⟨b,o+j,none⟩:=by unfold Addr.add; by_cases hj0:j = 0 <;> simp [hj0]
     rw [ea] at this
     unfold World.cell? at this
     have hblk':w.heap[b]? = some (.cells arr t' fz):=hblk
     rw [hblk'] at this
     simp at this
     rw [List.getElem?_drop,Array.getElem?_toList]; exact this
  ·have hmm:maxLen = 9223372036854775807:=by decide
   simp only [List.length_map,hxl]; omega
  ·have hle:(xs.map (·.1)).length≤elems.length+rest.length:=by simp [hxl]; omega
   refine Nat.le_trans (Nat.mul_le_mul_right _ hle) (Nat.le_trans hw0 ?_)
   decide
  ·intro p hp
   obtain ⟨q,hq,rfl⟩:=List.mem_map.1 hp
   obtain ⟨j,hj⟩:=List.getElem?_of_mem hq
   exact (hx j q hj).2.2.1
def Fits {H:Type} (en:TypeId × Value→H) (P:Program) (w:World) (base:Nat) (sp:Nat→Bool) (held:Bool) (fuel:Nat):List TypeId→List Value→List (DataW H × List MemPlace)→Prop
 | [],cs,ys=>cs = []∧ys = []
 | t :: ts,cs,ys=>∃ y ys',ys = y :: ys'∧P.cellsOf t≤cs.length∧DataW.trod en P w base sp held fuel t (cs.take (P.cellsOf t)) = some y∧Fits en P w base sp held fuel ts (cs.drop (P.cellsOf t)) ys'
def OpensL {α:Type} (P:Program) (ts:List TypeId) (enc:α→List D) (J:α→Prop):Prop :=
 ∀ {H:Type} (en:TypeId × Value→H) (w:World) (base:Nat) (sp:Nat→Bool) (held:Bool) (fuel:Nat) (cs:List Value) (ys:List (DataW H × List MemPlace)),
  Fits en P w base sp held fuel ts cs ys→(DataW.weightsEach P ts (ys.map (·.1))).all (·≤reachBytes) = true→∃ a,repL bot (heapIm w) (enc a) cs∧(∀ c ∈ cs,c.oneCell' = true)∧J a
theorem opensL_one {α:Type} {P:Program} {t:TypeId} {enc:α→D} {J:α→Prop} (h:Opens P t enc J):OpensL P [t] (fun a=>(enc a).cells) J:=fun en w base sp held fuel cs ys hf hw=>by
 obtain ⟨y,ys',rfl,hle,hy,h0,rfl⟩:=hf
 have he:cs.take (P.cellsOf t) = cs:=by
  apply List.take_of_length_le
  have:=congrArg List.length h0
  simp at this; omega
 rw [he] at hy
 obtain ⟨a,v,h1,h2,h3,h4,h5⟩:=h en w base sp held fuel cs y hy (by simpa [DataW.weightsEach] using hw)
 exact ⟨a,by rw [← h3]; exact rep_cells h2 h1,h4,h5⟩
theorem opensL_cons {α β:Type} {P:Program} {t:TypeId} {ts:List TypeId} {enc:α→D} {enc':β→List D} {J:α→Prop} {J':β→Prop} (h:Opens P t enc J) (h':OpensL P ts enc' J') :
  OpensL P (t :: ts) (fun x:α × β=>(enc x.1).cells ++ enc' x.2) (fun x=>J x.1∧J' x.2):=fun en w base sp held fuel cs ys hf hw=>by
 obtain ⟨y,ys',rfl,hle,hy,hr⟩:=hf
 simp only [List.map_cons,DataW.weightsEach,List.all_append,Bool.and_eq_true] at hw
 obtain ⟨a,v,h1,h2,h3,h4,h5⟩:=h en w base sp held fuel _ _ hy hw.1
 obtain ⟨b,k1,k2,k3⟩:=h' en w base sp held fuel _ _ hr hw.2
 refine ⟨(a,b),?_,?_,h5,k3⟩
 ·rw [← List.take_append_drop (P.cellsOf t) cs]
  exact repL_append (by rw [← h3]; exact rep_cells h2 h1) k1
 ·intro c hc
  rw [← List.take_append_drop (P.cellsOf t) cs] at hc
  exact (List.mem_append.1 hc).elim (h4 c) (k2 c)
def rowed (P:Program):Nat→List Field→Nat→Bool
 | o,[],n=>o == n
 | o,f :: fs,n=>f.offset == o && rowed P (o+P.cellsOf f.type) fs n
theorem rowed_le {P:Program} {n:Nat}:∀ (gs:List Field) (o:Nat),rowed P o gs n = true→o≤n
 | [],o,h=>by simp only [rowed,beq_iff_eq] at h; omega
 | g :: gs,o,h=>by simp only [rowed,Bool.and_eq_true,beq_iff_eq] at h; have:=rowed_le gs _ h.2; omega
theorem fits_of {H:Type} {en:TypeId × Value→H} {P:Program} {w:World} {base:Nat} {sp:Nat→Bool} {held:Bool} {fuel:Nat} {n:Nat}:∀ (fs:List Field) (o:Nat) (cs0 cs:List Value) (ys:List (DataW H × List MemPlace)),
  rowed P o fs n = true→cs0.length = n→cs = cs0.drop o→ys.length = fs.length→(∀ (i:Nat) (f:Field),fs[i]? = some f→DataW.trod en P w base sp held fuel f.type ((cs0.drop f.offset).take (P.cellsOf f.type)) = ys[i]?)→Fits en P w base sp held fuel (fs.map (·.type)) cs ys
 | [],o,cs0,cs,ys,hr,hn,hc,hl,_=>by
  simp only [rowed,beq_iff_eq] at hr
  refine ⟨?_,List.length_eq_zero_iff.1 hl⟩
  rw [hc,hr,← hn,List.drop_length]
 | f :: fs,o,cs0,cs,ys,hr,hn,hc,hl,h=>by
  simp only [rowed,Bool.and_eq_true,beq_iff_eq] at hr
  obtain ⟨ho,hr⟩:=hr
  cases ys with
  | nil=>simp at hl
  | cons y ys =>
   have h0:=h 0 f rfl
   simp only [List.getElem?_cons_zero] at h0
   have hle1:=rowed_le fs _ hr
   refine ⟨y,ys,rfl,?_,?_,fits_of fs (o+P.cellsOf f.type) cs0 _ ys hr hn ?_ (by simpa using hl) (fun i g hg=>by simpa using h (i+1) g (by simpa using hg))⟩
   ·show P.cellsOf f.type≤cs.length
    rw [hc,List.length_drop]; omega
   ·rw [hc,← ho]; exact h0
   ·rw [hc,List.drop_drop]
theorem opens_struct {α:Type} {P:Program} {t:TypeId} {fs:Array Field} {enc:α→List D} {J:α→Prop} (ht:P.underlying t = some (.struct fs)) (hr:rowed P 0 fs.toList (P.cellsOf t) = true) (h:OpensL P (fs.toList.map (·.type)) enc J) :
  Opens P t (fun a=>.agg (enc a)) J:=fun en w base sp held fuel cs x hx hw=>by
 obtain ⟨xs,n,rfl,rfl,hl,hlen,hf⟩:=DataW.trod_struct ht hx
 obtain ⟨a,h1,h2,h3⟩:=h en w base sp held n cs xs (fits_of fs.toList 0 cs cs xs hr hl (by simp) (by simpa using hlen) (fun i f hi=>hf i f (by simpa using hi))) (by rw [DataW.weights,ht] at hw; exact hw)
 exact ⟨a,.agg cs.toArray,by rw [rep]; exact ⟨_,rfl,by simpa using h1⟩,by simp,by simp [Value.cells],h2,h3⟩
theorem opens_iso {α β:Type} {P:Program} {t:TypeId} {enc:α→D} {enc':β→D} {J:α→Prop} {J':β→Prop} (h:Opens P t enc J) (g:α→β) (he:∀ a,enc' (g a) = enc a) (hJ:∀ a,J a→J' (g a)):Opens P t enc' J':=fun en w base sp held fuel cs x hx hw=>by
 obtain ⟨a,v,h1,h2,h3,h4,h5⟩:=h en w base sp held fuel cs x hx hw
 exact ⟨g a,v,by rw [he]; exact h1,by rw [he]; exact h2,h3,h4,hJ a h5⟩
def OpensA {α:Type} (P:Program) (ts:List TypeId) (enc:α→List D) (J:α→Prop):Prop :=
 ∀ {H:Type} (en:TypeId × Value→H) (w:World) (base:Nat) (sp:Nat→Bool) (held:Bool) (r:Reach) (b0:Nat) (args:List Value) (ds:List (DataW H)) (ps:List MemPlace),
  DataW.TrodAll en P w base sp held ts args ds ps→(∀ (j:Nat) t v,ts[j]? = some t→args[j]? = some v→Value.okWide P w r b0 t v)→(DataW.weightsEach P ts ds).all (·≤reachBytes) = true→∃ a,repL bot (heapIm w) (enc a) args∧J a
theorem opensA_nil {P:Program}:OpensA P [] (fun _:Unit=>[]) (fun _=>True):=fun en w base sp held r b0 args ds ps h _ _=>by
 obtain ⟨rfl,_⟩:=trodAll_nil h
 exact ⟨(),repL_nil.2 rfl,trivial⟩
def kindly (P:Program) (t:TypeId):Option Bool :=
 match P.underlying t with
 | some (.struct _)=>some true
 | some (.int _) | some .bool | some (.slice _) | some .string=>some false
 | _=>none
theorem okWide_kindly {P:Program} {w:World} {r:Reach} {b0:Nat} {t:TypeId} {b:Bool} (hk:kindly P t = some b) {v u:Value} (h:Value.okWide P w r b0 t v) (hc:v.cells.toList = u.cells.toList) (hu:(∃ cs,u = .agg cs) ↔ b = true):u = v:=by
 have hc':v.cells = u.cells:=Array.ext' hc
 cases b
 ·have hv:¬ ∃ cs,v = .agg cs:=by
   unfold kindly at hk
   split at hk <;> simp at hk
   ·rename_i ht; obtain ⟨n,rfl⟩:=okWide_int ht h; simp
   ·rename_i ht; obtain ⟨n,rfl⟩:=okWide_bool ht h; simp
   ·rename_i ht; obtain ⟨a,l,c,rfl⟩:=okWide_slice ht h; simp
   ·rename_i ht; obtain ⟨n,rfl⟩:=okWide_string ht h; simp
  have hu':¬ ∃ cs,u = .agg cs:=fun h=>by simpa using hu.1 h
  have e1:∀ x:Value,(¬ ∃ cs,x = .agg cs)→x.cells = #[x]:=by
   intro x hx
   cases x <;> first | rfl | exact absurd ⟨_,rfl⟩ hx
  rw [e1 v hv,e1 u hu'] at hc'
  have:=congrArg Array.toList hc'
  simpa using this.symm
 ·obtain ⟨cs,rfl⟩:=hu.2 rfl
  obtain ⟨cs',rfl⟩:∃ cs,v = .agg cs:=by
   unfold kindly at hk
   split at hk <;> simp at hk
   rename_i ht
   unfold Value.okWide at h
   rw [ht] at h
   obtain ⟨cs,hcs,_⟩:=h
   exact ⟨cs,hcs⟩
  simp only [Value.cells] at hc'
  rw [hc']
def D.isAgg:D→Bool | .agg _=>true | _=>false
theorem rep_agg {ρ:Pl} {I:Im} {d:D} {v:Value} (hj:d ≠ .junk) (h:rep ρ I d v):(∃ cs,v = .agg cs) ↔ d.isAgg = true:=by
 cases d <;> simp only [D.isAgg] <;> rw [rep] at h
 case agg cs=>obtain ⟨arr,rfl,h⟩:=h; simp
 case junk=>exact absurd rfl hj
 case int=>subst h; simp
 case bool=>subst h; simp
 case str=>subst h; simp
 case nilp=>subst h; simp
 case ptr=>obtain ⟨p,_,_,rfl⟩:=h; simp
 case pel=>obtain ⟨b,o,arr,t,fz,u,rfl,_⟩:=h; simp
 case nils=>subst h; simp
 case lst=>obtain ⟨A,c,us,rfl,_⟩:=h; simp
 case sl=>obtain ⟨p,A,c,_,rfl,_⟩:=h; simp
 case tup=>obtain ⟨arr,rfl,h⟩:=h; simp
 case fn=>obtain ⟨x,y,rfl,_⟩:=h; simp
 case nilf=>subst h; simp
 case mp=>obtain ⟨p,_,_,rfl⟩:=h; simp
 case yl=>obtain ⟨p,_,_,rfl⟩:=h; simp
theorem opensA_cons {α β:Type} {P:Program} {t:TypeId} {ts:List TypeId} {enc:α→D} {enc':β→List D} {J:α→Prop} {J':β→Prop} {b:Bool} (hk:kindly P t = some b) (hb:∀ a,(enc a).isAgg = b) (h:Opens P t enc J) (h':OpensA P ts enc' J') :
  OpensA P (t :: ts) (fun x:α × β=>enc x.1 :: enc' x.2) (fun x=>J x.1∧J' x.2):=fun en w base sp held r b0 args ds ps hA hval hw=>by
 obtain ⟨v,vs,d,ds',p,q,rfl,rfl,rfl,⟨fuel,hf⟩,hr⟩:=trodAll_cons hA
 simp only [DataW.weightsEach,List.all_append,Bool.and_eq_true] at hw
 obtain ⟨a,u,h1,h2,h3,h4,h5⟩:=h en w base sp held fuel _ _ hf hw.1
 obtain ⟨c,k1,k2⟩:=h' en w base sp held r b0 vs ds' q hr (fun j t v ht hv=>hval (j+1) t v (by simpa using ht) (by simpa using hv)) hw.2
 have:u = v:=okWide_kindly hk (hval 0 t v rfl rfl) h3.symm (by rw [rep_agg h2 h1,hb])
 subst this
 exact ⟨(a,c),repL_cons.2 ⟨_,_,rfl,h1,k1⟩,h5,k2⟩
theorem trodAll_below {H:Type} {en:TypeId × Value→H} {P:Program} (hl:laidOutB P = true) {W W':World} (hb:Below W.heap.size W W'):∀ {ts:List TypeId} {vs:List Value} {ds:List (DataW H)} {ps:List MemPlace},
  (ts.all fun t=>P.readableRec t && decide (t < P.types.size)) = true→DataW.TrodAll en P W 0 (fun _=>true) true ts vs ds ps→DataW.TrodAll en P W' 0 (fun b=>decide (b < W.heap.size)) true ts vs ds ps
 | [],[],[],_,_,h=>h
 | t :: ts,v :: vs,d :: ds,ps,ht,h=>by
  simp only [List.all_cons,Bool.and_eq_true,decide_eq_true_eq] at ht
  obtain ⟨p,q,h1,h2,e⟩:=h
  have lt:∀ x ∈ p,x.block < W.heap.size:=by obtain ⟨m,hm⟩:=h1; exact DataW.trod_lt m _ _ _ hm
  exact ⟨p,q,Below.trod hl ht.1.1 ht.1.2 h1 hb lt,trodAll_below hl hb (by simpa using ht.2) h2,e⟩
 | [],_ :: _,_,_,_,h | [],[],_ :: _,_,_,h | _ :: _,[],_,_,_,h | _ :: _,_ :: _,[],_,_,h=>h.elim
end Go.Proofs.YtkceciebmkklpaaGreat.V
end
namespace Go.Proofs.YtkceciebmkklpaaGreat.V
open Go Go.Proofs
set_option maxRecDepth 100000
set_option maxHeartbeats 40000000
theorem inS_at {C:Cr} {s:Int} {j:Nat} {v:Int} (h:(inS C.th s)[j]? = some v):∃ k:Nat,v = (k:Int)∧k < C.th.length∧(thAt C k).st = s:=by
 have hm:=List.mem_of_getElem? h
 unfold inS at hm
 rw [List.mem_map] at hm
 obtain ⟨k,hk,rfl⟩:=hm
 rw [List.mem_filter] at hk
 have hl:=List.mem_range.1 hk.1
 have h2:=of_decide_eq_true hk.2
 refine ⟨k,rfl,hl,?_⟩
 rw [thAt_lt hl]
 rw [List.getD_eq_getElem?_getD,List.getElem?_eq_getElem hl] at h2
 exact h2
theorem inS_len (C:Cr) (s:Int):(inS C.th s).length≤C.th.length:=inSi_len C.th s C.th.length
theorem thI_okS {g:Pg} (hg:GoodP g) {f:Th} (h:ThI g f):f.ok:=by
 rcases h with ⟨h1,_⟩ | h
 ·rw [h1]; exact ⟨by show (0:Nat)≤_; omega,by show (0:Nat)≤_; omega,fun f hf=>by cases hf⟩
 ·have h2:Th.ok { f with st:=0,on:=0 }:=good_ok hg h.1
  exact ⟨h2.fl,h2.sl,h2.fo⟩
theorem pick_at {l:List Int} {p:Int} (h:0 < l.length):∃ j:Nat,around p l.length = (j:Int)∧j < l.length:=by
 obtain ⟨h1,h2⟩:=around_lt p l.length (by omega)
 exact ⟨(around p l.length).toNat,by omega,by omega⟩
theorem evD_inj {a b:Ev}:(decide (a.1 = b.1) && (decide (a.2.1 = b.2.1) && (decide (a.2.2 = b.2.2) && true))) = decide (a = b):=by
 obtain ⟨x,y,z⟩:=a
 obtain ⟨x',y',z'⟩:=b
 simp [Prod.mk.injEq]
theorem same34g (a b:List Ev) (ha:a.length≤1000000) (hb:b.length≤1000000):Spec Tryz.prog 34 [evs a,evs b] [] (fun d os'=>d = .bool (decide (a = b))∧os' = []):=by
 have hAm:(a.map evD).length = a.length:=List.length_map ..
 have hBm:(b.map evD).length = b.length:=List.length_map ..
 by_cases hlen:a.length = b.length
 ·refine Spec.frz (post':=fun d=>d = .bool (decide (a = b))) ?_
  refine Spec.by Tryz.func34 rfl (by decide) (by decide +kernel) rfl ?_
  refine goA ?_
  refine Loop.inv (A:=Nat) (List.range 27) (fun i=>[(0,evs a),(1,evs b),(5,.int .i64 (i:Int))]) (fun i=>[]) (fun i=>i≤a.length∧a.take i = b.take i) (fun i=>a.length - i) 0 ⟨Nat.zero_le _,rfl⟩ ?_ ?_
  ·exact Weak.start' rfl rfl tld
  rintro i ⟨hi,ht⟩
  dsimp only at hi ht ⊢
  refine goA ?_
  refine Br.dec (fun h0=>?_) (fun h0=>?_)
  ·have hil:i < a.length:=by omega
   have hib:i < b.length:=by omega
   have hgA:a[i]? = some a[i]:=List.getElem?_eq_getElem hil
   have hgB:b[i]? = some b[i]:=List.getElem?_eq_getElem hib
   have hj:=evD_inj (a:=a[i]) (b:=b[i])
   by_cases he:a[i] = b[i]
   ·rw [decide_eq_true he] at hj
    have hn:(!(decide (a[i].1 = b[i].1) && (decide (a[i].2.1 = b[i].2.1) && (decide (a[i].2.2 = b[i].2.2) && true)))) = false:=by rw [hj]; rfl
    refine goA ?_
    refine Opt.of (get_map hgA) ?_
    refine goA ?_
    refine Opt.of (get_map hgB) ?_
    refine goA ?_
    rw [hn]
    refine goA ?_
    refine ⟨_,_,_,?_,⟨i+1,?_,rfl,rfl,rfl⟩,?_⟩
    ·show a.length - (i+1) < a.length - i; omega
    ·exact ⟨hil,by rw [List.take_add_one,List.take_add_one,ht,hgA,hgB,he]⟩
    ·refine Weak.backT 0 (by simp) (by first | rfl | kernel_rfl) (by kernel_rfl) (bl rfl) tld (by kernel_rfl) (by kernel_rfl)
   ·rw [decide_eq_false he] at hj
    have hn:(!(decide (a[i].1 = b[i].1) && (decide (a[i].2.1 = b[i].2.1) && (decide (a[i].2.2 = b[i].2.2) && true)))) = true:=by rw [hj]; rfl
    refine goA ?_
    refine Opt.of (get_map hgA) ?_
    refine goA ?_
    refine Opt.of (get_map hgB) ?_
    refine goA ?_
    rw [hn]
    refine goA ?_
    refine Ret.mk [.tmp 4] rfl ?_; (refine goA ?_)
    refine ⟨_,.same _,rfl,?_⟩
    rw [decide_eq_false (fun e=>he (by subst e; rfl))]
  ·have hie:i = a.length:=by omega
   have hAB:a = b:=by
    rw [hie,List.take_length,hlen,List.take_length] at ht
    exact ht
   refine goA ?_
   refine Ret.mk [.tmp 4] rfl ?_; (refine goA ?_)
   refine ⟨_,.same _,rfl,?_⟩
   rw [decide_eq_true hAB]
 ·refine Spec.frz (post':=fun d=>d = .bool (decide (a = b))) ?_
  rw [decide_eq_false (fun e=>hlen (by rw [e]))]
  refine Spec.by Tryz.func34 rfl (by decide) (by decide +kernel) rfl ?_
  refine goA ?_
  refine Ret.mk [.tmp 4] rfl ?_; (refine goA ?_)
  exact ⟨_,.same _,rfl,rfl⟩
theorem fm_view {F:Nat→Bool} {os:Objs} {A:List (List Int)} {a b:Nat} (hFa:F a = true) (hFb:F b = true) (ha:os.at a 0 = .row 23 1 false (fmK b 0 A)) (hb:∀ k,os.at b k = .row 3 1 true (fmC A k)):View F os (.sl a 0 1 0 A.length none) (lists A):=by
 refine View.slAll (f:=false) hFa ha (fmK_length _ _ _) (by simp) (ViewL.of (by rw [fmK_length,List.length_map]) (fun i d d' h1 h2=>?_)) (pureL_rows _)
 rw [fmK_get,Nat.zero_add] at h1
 rw [List.getElem?_map] at h2
 cases hA:A[i]? with
 | none=>rw [hA] at h1; cases h1
 | some L =>
  rw [hA] at h1 h2
  cases h1
  cases h2
  have hq:fmC A i = L.map (D.int .i64):=by unfold fmC qAt; rw [List.getD_eq_getElem?_getD,hA]; rfl
  exact View.slAll (f:=false) hFb (by rw [hb i,hq]) (List.length_map ..) (by simp) (ViewL.same _) (pureL_map (fun _=>rfl) _)
theorem fm_viewS {F:Nat→Bool} {os:Objs} {A:List (List Int)} {a b c:Nat} {x:D} {L:List Int} (hFa:F a = true) (hFb:F b = true) (ha:os.at a 0 = .row 23 1 false ((fmK b 0 A).set c x)) (hb:∀ k,k ≠ c→os.at b k = .row 3 1 true (fmC A k)) (hx:View F os x (ints L)):View F os (.sl a 0 1 0 A.length none) (lists (A.set c L)):=by
 refine View.slAll (f:=false) hFa ha (by rw [List.length_set,fmK_length]) (by simp) (ViewL.of (by rw [List.length_set,fmK_length,List.length_map,List.length_set]) (fun i d d' h1 h2=>?_)) (pureL_rows _)
 rw [List.getElem?_set,fmK_get,fmK_length,Nat.zero_add] at h1
 rw [List.getElem?_map,List.getElem?_set] at h2
 by_cases hc:c = i
 ·subst hc
  rw [if_pos rfl] at h1 h2
  by_cases hl:c < A.length
  ·rw [if_pos hl] at h1 h2
   cases h1
   cases h2
   exact hx
  ·rw [if_neg hl] at h1; cases h1
 ·rw [if_neg hc] at h1 h2
  cases hA:A[i]? with
  | none=>rw [hA] at h1; cases h1
  | some M =>
   rw [hA] at h1 h2
   cases h1
   cases h2
   have hq:fmC A i = M.map (D.int .i64):=by unfold fmC qAt; rw [List.getD_eq_getElem?_getD,hA]; rfl
   exact View.slAll (f:=false) hFb (by rw [hb i (fun e=>hc e.symm),hq]) (List.length_map ..) (by simp) (ViewL.same _) (pureL_map (fun _=>rfl) _)
theorem coreF_view {F:Nat→Bool} {os:Objs} {C C':Cr} {b s r:D} (h1:C'.now = C.now) (h2:C'.th = C.th) (h3:C'.L = C.L) (hb:View F os b (lists C'.bu)) (hs:View F os s (lists C'.sq)) (hr:View F os r (lists C'.rq)):View F os (coreF C b s r) (coreV C'):=by
 obtain ⟨n,th,L,bu,sq,rq⟩:=C'
 dsimp only at h1 h2 h3 hb hs hr
 subst h1 h2 h3
 exact View.agg (.cons (.same _) (.cons (.same _) (.cons (.same _) (.cons (.same _) (.cons hb (.cons (.same _) (.cons (.same _) (.cons (.same _) (.cons hs (.cons hr .nil))))))))))
theorem map1 (q:List Int) (v:Int):q.map (D.int .i64) ++ [.int .i64 v] = (q ++ [v]).map (D.int .i64):=by rw [List.map_append]; rfl
theorem map2 (q:List Int) (u v:Int):q.map (D.int .i64) ++ [.int .i64 u,.int .i64 v] = (q ++ [u,v]).map (D.int .i64):=by rw [List.map_append]; rfl
theorem putF_ne {A:List (List Int)} {c k:Nat} (h:k ≠ c):(Fam.put (.rows 3 1 (fmC A)) c .gone).at k = .row 3 1 true (fmC A k):=if_neg h
@[reducible] def owO (C:Cr):Objs:=one (.row 30 10 false [coreF C (.sl 4 0 1 0 C.bu.length none) (.sl 6 0 1 0 C.sq.length none) (.sl 8 0 1 0 C.rq.length none)]) :: one (.row 30 10 false [zC]) :: one .gone :: one .gone :: fmO 5 C.bu (fmO 7 C.sq (fmO 9 C.rq []))
@[reducible] def owX (C:Cr) (r:Objs):Objs:=one (.row 30 10 false [coreF C (.sl 4 0 1 0 C.bu.length none) (.sl 6 0 1 0 C.sq.length none) (.sl 8 0 1 0 C.rq.length none)]) :: one (.row 30 10 false [zC]) :: one .gone :: one .gone :: r
theorem set_z (l:List D) (c:Nat) (x:D):l.set (0+c) x = l.set c x:=by rw [Nat.zero_add]
theorem send207 {C:Cr} (h:ChB C) (c:Nat) (hb:c < C.bu.length) (hs:c < C.sq.length) (hr:c < C.rq.length) (room t v:Int):Spec Tryz.prog 207 [coreV C,.int .i64 c,.int .i64 room,.int .i64 t,.int .i64 v] [] (fun d os'=>d = .tup [coreV (sendC C c room t v).1,.int .i64 (sendC C c room t v).2.1,.bool (sendC C c room t v).2.2]∧os' = []):=by
 have hbl:=h.b
 have hsl:=h.s
 have hrl:=h.r
 have hg:=lstC_at C.rq c hr
 have hrm:(C.rq.map ints).length = C.rq.length:=List.length_map ..
 have hql:=h.lr _ (qAt_mem hr)
 have hbl2:=h.lb _ (qAt_mem hb)
 have hsl2:=h.ls _ (qAt_mem hs)
 unfold sendC
 cases hq:qAt C.rq c with
 | cons f q =>
  rw [hq] at hg hql
  dsimp only
  have hqm:((f :: q).map (D.int .i64)).length = q.length+1:=by rw [List.length_map]; rfl
  have hc:=cancel232 h f
  refine Spec.frz (post':=fun d=>d = .tup [coreV { C with rq:=cancelR C.rq f },.int .i64 f,.bool true]) ?_
  refine Spec.by Tryz.func207 rfl (by decide) (by decide +kernel) rfl ?_
  refine goA ?_
  refine Opt.of hg ?_
  refine goA ?_
  refine Opt.of hg ?_
  refine goA ?_
  refine Call.mk ((hc).only _ rfl (by rintro d ⟨b,rfl⟩; rfl)) ?_
  rintro d os' ⟨⟨b,rfl⟩,rfl⟩
  refine goA ?_
  refine Ret.mk [.cell 10 30,.tmp 11,.tmp 12] rfl ?_; (refine goA ?_)
  exact ⟨_,.same _,rfl,rfl⟩
 | nil =>
  rw [hq] at hg
  dsimp only
  have hfb:(fmK 5 0 C.bu).length = C.bu.length:=fmK_length ..
  have hfs:(fmK 7 0 C.sq).length = C.sq.length:=fmK_length ..
  have hbm:(fmC C.bu c).length = (qAt C.bu c).length:=List.length_map ..
  have hsm:(fmC C.sq c).length = (qAt C.sq c).length:=List.length_map ..
  have hgb:=fmK_at 5 C.bu c hb
  have hgs:=fmK_at 7 C.sq c hs
  by_cases hroom:((qAt C.bu c).length:Int) < room
  ·rw [if_pos hroom]
   refine Spec.frz (post':=fun d=>d = .tup [coreV { C with bu:=C.bu.set c (qAt C.bu c ++ [v]) },.int .i64 (-1),.bool true]) ?_
   refine Spec.by Tryz.func207 rfl (by decide) (by decide +kernel) rfl ?_
   refine goA ?_
   refine Opt.of hg ?_
   refine goA ?_
   refine Call.mk (own233fo h _) ?_
   rintro d os' ⟨rfl,rfl⟩
   refine goR ?_
   refine Pt.weak (Weak.on [(1,.int .i64 c),(2,.int .i64 room),(3,.int .i64 t),(4,.int .i64 v),(5,.ptr 0 0 10 0 0),(10,.ptr 1 0 10 0 0)] (owO C)) ?_
   refine goA ?_
   refine Opt.of hgb ?_
   refine goA ?_
   refine Opt.of hgb ?_
   refine goA ?_
   refine App.only false rfl rfl ?_
   refine goA ?_
   refine And.intro (by (conv=>whnf); refine Opt.of (hgb) ?_; repeat (first | (conv=>whnf; done) | exact rfl | exact ⟨rfl,rfl⟩ | trivial | (refine Opt.mk ?_) | (refine And.intro rfl ?_) | (conv=>whnf))) ?_
   refine goA ?_
   refine Opt.of hgb ?_
   refine goR ?_
   refine Pt.weak (Weak.on [(5,.ptr 0 0 10 0 0),(10,.ptr 1 0 10 0 0)] (owX C (one (.row 23 1 false ((fmK 5 0 C.bu).set (0+c) (.sl 10 0 1 0 ((qAt C.bu c).length+1) none))) :: (Fam.rows 3 1 (fmC C.bu)).put c .gone :: fmO 7 C.sq (fmO 9 C.rq [one (.row 3 1 true (fmC C.bu c ++ [.int .i64 v]))])))) ?_
   rw [set_z,show fmC C.bu c ++ [.int .i64 v] = (qAt C.bu c ++ [v]).map (D.int .i64) from map1 _ _]
   refine goA ?_
   refine Ret.mk [.cell 10 30,.tmp 11,.tmp 12] rfl ?_; (refine goA ?_)
   have hx:((qAt C.bu c ++ [v]).map (D.int .i64)).length = (qAt C.bu c).length+1:=by rw [List.length_map,List.length_append]; rfl
   exact ⟨_,View.tup (.cons (coreF_view (C':={ C with bu:=C.bu.set c (qAt C.bu c ++ [v]) }) rfl rfl rfl (fm_viewS (b:=5) rfl rfl rfl (fun k hk=>putF_ne hk) (View.slAll (f:=false) rfl rfl hx (by simp) (ViewL.same _) (pureL_map (fun _=>rfl) _))) (fm_view (b:=7) rfl rfl rfl (fun k=>rfl)) (fm_view (b:=9) rfl rfl rfl (fun k=>rfl))) (.cons (.same _) (.cons (.same _) .nil))),rfl,rfl⟩
  ·rw [if_neg hroom]
   refine Spec.frz (post':=fun d=>d = .tup [coreV { C with sq:=C.sq.set c (qAt C.sq c ++ [t,v]) },.int .i64 (-1),.bool false]) ?_
   refine Spec.by Tryz.func207 rfl (by decide) (by decide +kernel) rfl ?_
   refine goA ?_
   refine Opt.of hg ?_
   refine goA ?_
   refine Call.mk (own233fo h _) ?_
   rintro d os' ⟨rfl,rfl⟩
   refine goR ?_
   refine Pt.weak (Weak.on [(1,.int .i64 c),(2,.int .i64 room),(3,.int .i64 t),(4,.int .i64 v),(5,.ptr 0 0 10 0 0),(10,.ptr 1 0 10 0 0)] (owO C)) ?_
   refine goA ?_
   refine Opt.of hgb ?_
   refine goA ?_
   refine Opt.of hgs ?_
   refine goA ?_
   refine App.only false rfl rfl ?_
   refine goA ?_
   refine And.intro (by (conv=>whnf); refine Opt.of (hgs) ?_; repeat (first | (conv=>whnf; done) | exact rfl | exact ⟨rfl,rfl⟩ | trivial | (refine Opt.mk ?_) | (refine And.intro rfl ?_) | (conv=>whnf))) ?_
   refine goA ?_
   refine Opt.of hgs ?_
   refine goR ?_
   refine Pt.weak (Weak.on [(5,.ptr 0 0 10 0 0),(10,.ptr 1 0 10 0 0)] (owX C (one (.row 23 1 false (fmK 5 0 C.bu)) :: .rows 3 1 (fmC C.bu) :: one (.row 23 1 false ((fmK 7 0 C.sq).set (0+c) (.sl 10 0 1 0 ((qAt C.sq c).length+2) none))) :: (Fam.rows 3 1 (fmC C.sq)).put c .gone :: fmO 9 C.rq [one (.row 3 1 true (fmC C.sq c ++ [.int .i64 t,.int .i64 v]))]))) ?_
   rw [set_z,show fmC C.sq c ++ [.int .i64 t,.int .i64 v] = (qAt C.sq c ++ [t,v]).map (D.int .i64) from map2 _ _ _]
   refine goA ?_
   refine Ret.mk [.cell 10 30,.tmp 11,.tmp 12] rfl ?_; (refine goA ?_)
   have hx:((qAt C.sq c ++ [t,v]).map (D.int .i64)).length = (qAt C.sq c).length+2:=by rw [List.length_map,List.length_append]; rfl
   exact ⟨_,View.tup (.cons (coreF_view (C':={ C with sq:=C.sq.set c (qAt C.sq c ++ [t,v]) }) rfl rfl rfl (fm_view (b:=5) rfl rfl rfl (fun k=>rfl)) (fm_viewS (b:=7) rfl rfl rfl (fun k hk=>putF_ne hk) (View.slAll (f:=false) rfl rfl hx (by simp) (ViewL.same _) (pureL_map (fun _=>rfl) _))) (fm_view (b:=9) rfl rfl rfl (fun k=>rfl))) (.cons (.same _) (.cons (.same _) .nil))),rfl,rfl⟩
theorem qAt_set_self {R:List (List Int)} {c:Nat} {q:List Int} (h:qAt R c = q):R.set c q = R:=by
 by_cases hc:c < R.length
 ·have e:R[c] = q:=by rw [← h]; unfold qAt; rw [List.getD_eq_getElem?_getD,List.getElem?_eq_getElem hc]; rfl
  rw [← e,List.set_getElem_self]
 ·exact List.set_eq_of_length_le (by omega)
def recvD (C:Cr) (c:Nat) (t:Int):D:=.tup [coreV (selC C [(c:Int)] t).1,.int .i64 (selC C [(c:Int)] t).2.2.1,.int .i64 (selC C [(c:Int)] t).2.2.2.1,.bool (selC C [(c:Int)] t).2.2.2.2]
theorem recvD_no {C:Cr} {c:Nat} {t:Int} (hb:qAt C.bu c = []) (hs:qAt C.sq c = []):recvD C c t = .tup [coreV { C with rq:=C.rq.set c (qAt C.rq c ++ [t]) },.int .i64 0,.int .i64 (-1),.bool false]:=by
 have:pickB C.bu C.sq [(c:Int)] = none:=pickB_none (fun x hx=>by
  rw [List.mem_singleton] at hx
  subst hx
  unfold canB
  rw [Int.toNat_natCast,hb,hs]
  rfl)
 unfold recvD selC
 rw [this]
 rfl
theorem recvD_yes {C:Cr} {c:Nat} {t:Int} (h:0 < (qAt C.bu c).length+(qAt C.sq c).length):recvD C c t = .tup [coreV { C with bu:=(takeB C.bu C.sq c).1,sq:=(takeB C.bu C.sq c).2.1 },.int .i64 (takeB C.bu C.sq c).2.2.1,.int .i64 (takeB C.bu C.sq c).2.2.2,.bool true]:=by
 have:pickB C.bu C.sq [(c:Int)] = some 0:=by
  rw [pickB,if_pos]
  unfold canB
  rw [Int.toNat_natCast]
  exact decide_eq_true (by omega)
 unfold recvD selC
 rw [this]
 rfl
theorem fm_cut {F:Nat→Bool} {os:Objs} {b c:Nat} {p q:List Int} {es:List D} (hF:F b = true) (hat:os.at b c = .row 3 1 true es) (he:es = (p ++ q).map (D.int .i64)):View F os (.sl b c 1 p.length q.length none) (ints q):=by
 subst he
 refine View.sl (f:=false) hF hat (by rw [List.length_map,List.length_append]; omega) (by simp) ?_ (pureL_map (fun _=>rfl) _)
 have e:(((p ++ q).map (D.int .i64)).drop p.length).take q.length = q.map (D.int .i64):=by
  rw [List.map_append,List.drop_left' (by rw [List.length_map]),List.take_of_length_le (by rw [List.length_map]; omega)]
 rw [e]
 exact ViewL.same _
theorem set_getz (l:List D) (c:Nat) (x:D) (h:c < l.length):(l.set c x)[0+c]? = some x:=by rw [Nat.zero_add,List.getElem?_set_self h]
theorem recv208 {C:Cr} (h:ChB C) (c:Nat) (hb:c < C.bu.length) (hs:c < C.sq.length) (hr:c < C.rq.length) (h1:(qAt C.sq c).length ≠ 1) (t:Int):Spec Tryz.prog 208 [coreV C,.int .i64 c,.int .i64 t] [] (fun d os'=>d = recvD C c t∧os' = []):=by
 have hbl:=h.b
 have hsl:=h.s
 have hrl:=h.r
 have hql:=h.lr _ (qAt_mem hr)
 have hbl2:=h.lb _ (qAt_mem hb)
 have hsl2:=h.ls _ (qAt_mem hs)
 have hfb:(fmK 5 0 C.bu).length = C.bu.length:=fmK_length ..
 have hfs:(fmK 7 0 C.sq).length = C.sq.length:=fmK_length ..
 have hfr:(fmK 9 0 C.rq).length = C.rq.length:=fmK_length ..
 have hgb:=fmK_at 5 C.bu c hb
 have hgs:=fmK_at 7 C.sq c hs
 have hgr:=fmK_at 9 C.rq c hr
 have hcb:fmC C.bu c = (qAt C.bu c).map (D.int .i64):=rfl
 have hcs:fmC C.sq c = (qAt C.sq c).map (D.int .i64):=rfl
 cases hqb:qAt C.bu c with
 | nil =>
  rw [hqb] at hgb hcb
  cases hqs:qAt C.sq c with
  | nil =>
   rw [hqs] at hgs hcs
   have hrm:(fmC C.rq c).length = (qAt C.rq c).length:=List.length_map ..
   rw [recvD_no hqb hqs]
   refine Spec.frz (post':=fun d=>d = .tup [coreV { C with rq:=C.rq.set c (qAt C.rq c ++ [t]) },.int .i64 0,.int .i64 (-1),.bool false]) ?_
   refine Spec.by Tryz.func208 rfl (by decide) (by decide +kernel) rfl ?_
   refine goA ?_
   refine Call.mk (own233fo h _) ?_
   rintro d os' ⟨rfl,rfl⟩
   refine goR ?_
   refine Pt.weak (Weak.on [(1,.int .i64 c),(2,.int .i64 t),(3,.ptr 0 0 10 0 0),(6,.ptr 1 0 10 0 0)] (owO C)) ?_
   refine goA ?_
   refine Opt.of hgb ?_
   refine goA ?_
   refine Opt.of hgs ?_
   refine goA ?_
   refine Opt.of hgr ?_
   refine goA ?_
   refine App.only false rfl rfl ?_
   refine goA ?_
   refine And.intro (by (conv=>whnf); refine Opt.of (hgr) ?_; repeat (first | (conv=>whnf; done) | exact rfl | exact ⟨rfl,rfl⟩ | trivial | (refine Opt.mk ?_) | (refine And.intro rfl ?_) | (conv=>whnf))) ?_
   refine goA ?_
   refine Opt.of hgr ?_
   refine goR ?_
   refine Pt.weak (Weak.on [(3,.ptr 0 0 10 0 0),(6,.ptr 1 0 10 0 0)] (owX C (one (.row 23 1 false (fmK 5 0 C.bu)) :: .rows 3 1 (fmC C.bu) :: one (.row 23 1 false (fmK 7 0 C.sq)) :: .rows 3 1 (fmC C.sq) :: one (.row 23 1 false ((fmK 9 0 C.rq).set (0+c) (.sl 10 0 1 0 ((qAt C.rq c).length+1) none))) :: (Fam.rows 3 1 (fmC C.rq)).put c .gone :: [one (.row 3 1 true (fmC C.rq c ++ [.int .i64 t]))]))) ?_
   rw [set_z,show fmC C.rq c ++ [.int .i64 t] = (qAt C.rq c ++ [t]).map (D.int .i64) from map1 _ _]
   refine goA ?_
   refine Ret.mk [.cell 6 30,.tmp 7,.tmp 8,.tmp 9] rfl ?_; (refine goA ?_)
   have hx:((qAt C.rq c ++ [t]).map (D.int .i64)).length = (qAt C.rq c).length+1:=by rw [List.length_map,List.length_append]; rfl
   exact ⟨_,View.tup (.cons (coreF_view (C':={ C with rq:=C.rq.set c (qAt C.rq c ++ [t]) }) rfl rfl rfl (fm_view (b:=5) rfl rfl rfl (fun k=>rfl)) (fm_view (b:=7) rfl rfl rfl (fun k=>rfl)) (fm_viewS (b:=9) rfl rfl rfl (fun k hk=>putF_ne hk) (View.slAll (f:=false) rfl rfl hx (by simp) (ViewL.same _) (pureL_map (fun _=>rfl) _)))) (.cons (.same _) (.cons (.same _) (.cons (.same _) .nil)))),rfl,rfl⟩
  | cons s q =>
   rw [hqs] at h1 hgs hcs hsl2
   cases q with
   | nil=>exact absurd rfl h1
   | cons w q =>
    have hsn:(s :: w :: q).length = q.length+2:=rfl
    have hT:recvD C c t = .tup [coreV { C with sq:=C.sq.set c q },.int .i64 w,.int .i64 s,.bool true]:=by
     rw [recvD_yes (by rw [hqs,List.length_cons]; omega)]
     unfold takeB
     rw [hqb,hqs]
     rfl
    have h0:(fmC C.sq c)[0+0]? = some (.int .i64 s):=by rw [hcs]; rfl
    have h1:(fmC C.sq c)[0+1]? = some (.int .i64 w):=by rw [hcs]; rfl
    rw [hT]
    refine Spec.frz (post':=fun d=>d = .tup [coreV { C with sq:=C.sq.set c q },.int .i64 w,.int .i64 s,.bool true]) ?_
    refine Spec.by Tryz.func208 rfl (by decide) (by decide +kernel) rfl ?_
    refine goA ?_
    refine Call.mk (own233fo h _) ?_
    rintro d os' ⟨rfl,rfl⟩
    refine goR ?_
    refine Pt.weak (Weak.on [(1,.int .i64 c),(2,.int .i64 t),(3,.ptr 0 0 10 0 0),(6,.ptr 1 0 10 0 0)] (owO C)) ?_
    refine goA ?_
    refine Opt.of hgb ?_
    refine goA ?_
    refine Opt.of hgs ?_
    refine goA ?_
    refine Opt.of hgs ?_
    refine goA ?_
    refine Opt.of h0 ?_
    refine goA ?_
    refine Opt.of hgs ?_
    refine goA ?_
    refine Opt.of h1 ?_
    refine goA ?_
    refine Opt.of hgs ?_
    refine goA ?_
    refine Opt.of hgs ?_
    refine goR ?_
    refine Pt.weak (Weak.on [(3,.ptr 0 0 10 0 0),(6,.ptr 1 0 10 0 0),(12,.int .i64 s),(13,.int .i64 w)] (owX C (one (.row 23 1 false (fmK 5 0 C.bu)) :: .rows 3 1 (fmC C.bu) :: one (.row 23 1 false ((fmK 7 0 C.sq).set (0+c) (.sl 7 c 1 2 q.length none))) :: .rows 3 1 (fmC C.sq) :: fmO 9 C.rq []))) ?_
    rw [set_z]
    refine goA ?_
    refine Ret.mk [.cell 6 30,.tmp 7,.tmp 8,.tmp 9] rfl ?_; (refine goA ?_)
    exact ⟨_,View.tup (.cons (coreF_view (C':={ C with sq:=C.sq.set c q }) rfl rfl rfl (fm_view (b:=5) rfl rfl rfl (fun k=>rfl)) (fm_viewS (b:=7) rfl rfl rfl (fun k hk=>rfl) (fm_cut (p:=[s,w]) (es:=fmC C.sq c) rfl rfl hcs)) (fm_view (b:=9) rfl rfl rfl (fun k=>rfl))) (.cons (.same _) (.cons (.same _) (.cons (.same _) .nil)))),rfl,rfl⟩
 | cons v b =>
  rw [hqb] at hgb hcb hbl2
  have hbn:(v :: b).length = b.length+1:=rfl
  have hbf:(fmC C.bu c).length = b.length+1:=by rw [hcb,List.length_map]; rfl
  have h0:(fmC C.bu c)[0+0]? = some (.int .i64 v):=by rw [hcb]; rfl
  cases hqs:qAt C.sq c with
  | nil =>
   rw [hqs] at hgs hcs
   have hT:recvD C c t = .tup [coreV { C with bu:=C.bu.set c b },.int .i64 v,.int .i64 (-1),.bool true]:=by
    rw [recvD_yes (by rw [hqb,List.length_cons]; omega)]
    unfold takeB
    rw [hqb,hqs]
    show D.tup [coreV { C with bu:=C.bu.set c b,sq:=C.sq.set c [] },_,_,_] = _
    rw [qAt_set_self hqs]
    rfl
   rw [hT]
   refine Spec.frz (post':=fun d=>d = .tup [coreV { C with bu:=C.bu.set c b },.int .i64 v,.int .i64 (-1),.bool true]) ?_
   refine Spec.by Tryz.func208 rfl (by decide) (by decide +kernel) rfl ?_
   refine goA ?_
   refine Call.mk (own233fo h _) ?_
   rintro d os' ⟨rfl,rfl⟩
   refine goR ?_
   refine Pt.weak (Weak.on [(1,.int .i64 c),(2,.int .i64 t),(3,.ptr 0 0 10 0 0),(6,.ptr 1 0 10 0 0)] (owO C)) ?_
   refine goA ?_
   refine Opt.of hgb ?_
   refine goA ?_
   refine Opt.of hgb ?_
   refine goA ?_
   refine Opt.of h0 ?_
   refine goA ?_
   refine Opt.of hgb ?_
   refine goA ?_
   refine Opt.of hgb ?_
   refine goR ?_
   refine Pt.weak (Weak.on [(1,.int .i64 c),(2,.int .i64 t),(3,.ptr 0 0 10 0 0),(6,.ptr 1 0 10 0 0),(10,.int .i64 v)] (owX C (one (.row 23 1 false ((fmK 5 0 C.bu).set (0+c) (.sl 5 c 1 1 b.length none))) :: .rows 3 1 (fmC C.bu) :: fmO 7 C.sq (fmO 9 C.rq [])))) ?_
   rw [set_z]
   refine goA ?_
   refine Opt.of hgs ?_
   refine goA ?_
   refine Ret.mk [.cell 6 30,.tmp 7,.tmp 8,.tmp 9] rfl ?_; (refine goA ?_)
   exact ⟨_,View.tup (.cons (coreF_view (C':={ C with bu:=C.bu.set c b }) rfl rfl rfl (fm_viewS (b:=5) rfl rfl rfl (fun k hk=>rfl) (fm_cut (p:=[v]) (es:=fmC C.bu c) rfl rfl hcb)) (fm_view (b:=7) rfl rfl rfl (fun k=>rfl)) (fm_view (b:=9) rfl rfl rfl (fun k=>rfl))) (.cons (.same _) (.cons (.same _) (.cons (.same _) .nil)))),rfl,rfl⟩
  | cons s q =>
   rw [hqs] at h1 hgs hcs hsl2
   cases q with
   | nil=>exact absurd rfl h1
   | cons w q =>
    have hsn:(s :: w :: q).length = q.length+2:=rfl
    have hT:recvD C c t = .tup [coreV { C with bu:=C.bu.set c (b ++ [w]),sq:=C.sq.set c q },.int .i64 v,.int .i64 s,.bool true]:=by
     rw [recvD_yes (by rw [hqb,List.length_cons]; omega)]
     unfold takeB
     rw [hqb,hqs]
     rfl
    have h2:(fmC C.sq c)[0+0]? = some (.int .i64 s):=by rw [hcs]; rfl
    have h1:(fmC C.sq c)[0+1]? = some (.int .i64 w):=by rw [hcs]; rfl
    rw [hT]
    refine Spec.frz (post':=fun d=>d = .tup [coreV { C with bu:=C.bu.set c (b ++ [w]),sq:=C.sq.set c q },.int .i64 v,.int .i64 s,.bool true]) ?_
    refine Spec.by Tryz.func208 rfl (by decide) (by decide +kernel) rfl ?_
    refine goA ?_
    refine Call.mk (own233fo h _) ?_
    rintro d os' ⟨rfl,rfl⟩
    refine goR ?_
    refine Pt.weak (Weak.on [(1,.int .i64 c),(2,.int .i64 t),(3,.ptr 0 0 10 0 0),(6,.ptr 1 0 10 0 0)] (owO C)) ?_
    refine goA ?_
    refine Opt.of hgb ?_
    refine goA ?_
    refine Opt.of hgb ?_
    refine goA ?_
    refine Opt.of h0 ?_
    refine goA ?_
    refine Opt.of hgb ?_
    refine goA ?_
    refine Opt.of hgb ?_
    refine goR ?_
    refine Pt.weak (Weak.on [(1,.int .i64 c),(2,.int .i64 t),(3,.ptr 0 0 10 0 0),(6,.ptr 1 0 10 0 0),(10,.int .i64 v)] (owX C (one (.row 23 1 false ((fmK 5 0 C.bu).set (0+c) (.sl 5 c 1 1 b.length none))) :: .rows 3 1 (fmC C.bu) :: fmO 7 C.sq (fmO 9 C.rq [])))) ?_
    rw [set_z]
    have hsl:((fmK 5 0 C.bu).set c (.sl 5 c 1 1 b.length none)).length = C.bu.length:=by rw [List.length_set,fmK_length]
    have hsg:=set_getz (fmK 5 0 C.bu) c (.sl 5 c 1 1 b.length none) (by omega)
    refine goA ?_
    refine Opt.of hgs ?_
    refine goA ?_
    refine Opt.of hgs ?_
    refine goA ?_
    refine Opt.of h2 ?_
    refine goA ?_
    refine Opt.of hsg ?_
    refine goA ?_
    refine Opt.of hgs ?_
    refine goA ?_
    refine Opt.of h1 ?_
    refine goA ?_
    refine App.only false rfl rfl ?_
    refine goA ?_
    refine And.intro (by (conv=>whnf); refine Opt.of (hsg) ?_; repeat (first | (conv=>whnf; done) | exact rfl | exact ⟨rfl,rfl⟩ | trivial | (refine Opt.mk ?_) | (refine And.intro rfl ?_) | (conv=>whnf))) ?_
    refine goA ?_
    refine And.intro ⟨by omega,fun _=>pureL_map (fun _=>rfl) [w]⟩ (And.intro (fun h=>absurd (congrArg List.length h) (Nat.succ_ne_zero _)) (fun _=>And.intro (show (b.length+1) * 8≤_ by omega) (And.intro (show b.length+1≤_ by omega) (And.intro ?_ ?_))))
    ·refine goA ?_
     refine Opt.of hsg ?_
     refine goR ?_
     refine Pt.weak (Weak.on [(1,.int .i64 c),(2,.int .i64 t),(3,.ptr 0 0 10 0 0),(6,.ptr 1 0 10 0 0),(10,.int .i64 v),(11,.int .i64 s)] (owX C (one (.row 23 1 false (((fmK 5 0 C.bu).set c (.sl 5 c 1 1 b.length none)).set (0+c) (.sl 5 c 1 1 (b.length+1) none))) :: .rows 3 1 (fun k=>bif Nat.beq k c then splice (fmC C.bu c) (1+b.length) [.int .i64 w] else fmC C.bu k) :: fmO 7 C.sq (fmO 9 C.rq [])))) ?_
     rw [set_z,List.set_set]
     have hsp:splice (fmC C.bu c) (1+b.length) [.int .i64 w] = ([v] ++ (b ++ [w])).map (D.int .i64):=by
      unfold splice
      rw [List.take_of_length_le (by omega),List.drop_eq_nil_of_le (by rw [List.length_singleton]; omega),hcb,List.append_nil]
      exact map1 (v :: b) w
     refine goA ?_
     refine Opt.of hgs ?_
     refine goA ?_
     refine Opt.of hgs ?_
     refine goR ?_
     refine Pt.weak (Weak.on [(3,.ptr 0 0 10 0 0),(6,.ptr 1 0 10 0 0),(10,.int .i64 v),(11,.int .i64 s)] (owX C (one (.row 23 1 false ((fmK 5 0 C.bu).set c (.sl 5 c 1 1 (b.length+1) none))) :: .rows 3 1 (fun k=>bif Nat.beq k c then splice (fmC C.bu c) (1+b.length) [.int .i64 w] else fmC C.bu k) :: one (.row 23 1 false ((fmK 7 0 C.sq).set (0+c) (.sl 7 c 1 2 q.length none))) :: .rows 3 1 (fmC C.sq) :: fmO 9 C.rq []))) ?_
     rw [set_z]
     refine goA ?_
     refine Ret.mk [.cell 6 30,.tmp 7,.tmp 8,.tmp 9] rfl ?_; (refine goA ?_)
     have hbw:(b ++ [w]).length = b.length+1:=by rw [List.length_append]; rfl
     rw [← hbw]
     refine ⟨_,View.tup (.cons (coreF_view (C':={ C with bu:=C.bu.set c (b ++ [w]),sq:=C.sq.set c q }) rfl rfl rfl (fm_viewS (b:=5) (c:=c) (L:=b ++ [w]) rfl rfl rfl (fun k hk=>?_) (fm_cut (p:=[v]) (q:=b ++ [w]) (es:=splice (fmC C.bu c) (1+b.length) [.int .i64 w]) rfl ?_ hsp)) (fm_viewS (b:=7) rfl rfl rfl (fun k hk=>rfl) (fm_cut (p:=[s,w]) (es:=fmC C.sq c) rfl rfl hcs)) (fm_view (b:=9) rfl rfl rfl (fun k=>rfl))) (.cons (.same _) (.cons (.same _) (.cons (.same _) .nil)))),rfl,rfl⟩
     ·show O.row 3 1 true (bif Nat.beq k c then _ else fmC C.bu k) = _
      rw [beq_ne hk]
      rfl
     ·show O.row 3 1 true (bif Nat.beq c c then _ else fmC C.bu c) = _
      rw [Nat.beq_refl]
      rfl
    ·refine App.own ?_
     refine goA ?_
     refine Opt.of hsg ?_
     refine goR ?_
     refine Pt.weak (Weak.on [(1,.int .i64 c),(2,.int .i64 t),(3,.ptr 0 0 10 0 0),(6,.ptr 1 0 10 0 0),(10,.int .i64 v),(11,.int .i64 s)] (owX C (one (.row 23 1 false (((fmK 5 0 C.bu).set c (.sl 5 c 1 1 b.length none)).set (0+c) (.sl 10 0 1 0 (b.length+1) none))) :: .rows 3 1 (fmC C.bu) :: fmO 7 C.sq (fmO 9 C.rq [one (.row 3 1 true (((fmC C.bu c).drop 1).take b.length ++ [.int .i64 w]))])))) ?_
     have hdt:((fmC C.bu c).drop 1).take b.length ++ [.int .i64 w] = (b ++ [w]).map (D.int .i64):=by
      rw [hcb,List.map_cons,List.drop_succ_cons,List.drop_zero,List.take_of_length_le (by rw [List.length_map]; omega)]
      exact map1 b w
     rw [set_z,List.set_set,hdt]
     refine goA ?_
     refine Opt.of hgs ?_
     refine goA ?_
     refine Opt.of hgs ?_
     refine goR ?_
     refine Pt.weak (Weak.on [(3,.ptr 0 0 10 0 0),(6,.ptr 1 0 10 0 0),(10,.int .i64 v),(11,.int .i64 s)] (owX C (one (.row 23 1 false ((fmK 5 0 C.bu).set c (.sl 10 0 1 0 (b.length+1) none))) :: .rows 3 1 (fmC C.bu) :: one (.row 23 1 false ((fmK 7 0 C.sq).set (0+c) (.sl 7 c 1 2 q.length none))) :: .rows 3 1 (fmC C.sq) :: fmO 9 C.rq [one (.row 3 1 true ((b ++ [w]).map (D.int .i64)))]))) ?_
     rw [set_z]
     refine goA ?_
     refine Ret.mk [.cell 6 30,.tmp 7,.tmp 8,.tmp 9] rfl ?_; (refine goA ?_)
     have hbw:((b ++ [w]).map (D.int .i64)).length = b.length+1:=by rw [List.length_map,List.length_append]; rfl
     exact ⟨_,View.tup (.cons (coreF_view (C':={ C with bu:=C.bu.set c (b ++ [w]),sq:=C.sq.set c q }) rfl rfl rfl (fm_viewS (b:=5) (c:=c) (L:=b ++ [w]) rfl rfl rfl (fun k hk=>rfl) (View.slAll (f:=false) rfl rfl hbw (by simp) (ViewL.same _) (pureL_map (fun _=>rfl) _))) (fm_viewS (b:=7) rfl rfl rfl (fun k hk=>rfl) (fm_cut (p:=[s,w]) (es:=fmC C.sq c) rfl rfl hcs)) (fm_view (b:=9) rfl rfl rfl (fun k=>rfl))) (.cons (.same _) (.cons (.same _) (.cons (.same _) .nil)))),rfl,rfl⟩
theorem fmK_set (b:Nat):∀ (k:Nat) (A:List (List Int)) (c:Nat) (L:List Int),fmK b k (A.set c L) = (fmK b k A).set c (.sl b (k+c) 1 0 L.length none)
 | k,[],c,L=>rfl
 | k,M :: A,0,L=>rfl
 | k,M :: A,c+1,L=>by
  show .sl b k 1 0 M.length none :: fmK b (k+1) (A.set c L) = .sl b k 1 0 M.length none :: (fmK b (k+1) A).set c _
  rw [fmK_set b (k+1) A c L,show k+1+c = k+(c+1) by omega]
theorem mapIdL_set (φ:Nat→Nat→Nat × Nat):∀ (ds:List D) (c:Nat) (x:D),D.mapIdL φ (ds.set c x) = (D.mapIdL φ ds).set c (x.mapId φ)
 | [],c,x=>rfl
 | d :: ds,0,x=>rfl
 | d :: ds,c+1,x=>by
  show d.mapId φ :: D.mapIdL φ (ds.set c x) = d.mapId φ :: (D.mapIdL φ ds).set c (x.mapId φ)
  rw [mapIdL_set φ ds c x]
theorem fmK_swpS (c n:Nat) (x:D):∀ (k:Nat) (A:List (List Int)),((D.mapIdL (swp 10 9 (k+c)) (fmK 9 k A)).set c x) = (fmK 9 k A).set c x
 | k,[]=>rfl
 | k,L :: A=>by
  cases c with
  | zero =>
   show x :: D.mapIdL (swp 10 9 k) (fmK 9 (k+1) A) = x :: fmK 9 (k+1) A
   have h:∀ (m:Nat) (B:List (List Int)),k < m→D.mapIdL (swp 10 9 k) (fmK 9 m B) = fmK 9 m B:=by
    intro m B
    induction B generalizing m with
    | nil=>intro _; rfl
    | cons M B ih =>
     intro hm
     have e:swp 10 9 k 9 m = (9,m):=swp_ne (by omega) (by omega)
     simp only [fmK,D.mapIdL,D.mapId,e,ih (m+1) (by omega)]
   rw [h (k+1) A (by omega)]
  | succ c =>
   have e:swp 10 9 (k+(c+1)) 9 k = (9,k):=swp_ne (by omega) (by omega)
   simp only [fmK,D.mapIdL,D.mapId,e,List.set_cons_succ]
   have:=fmK_swpS c n x (k+1) A
   rw [show k+1+c = k+(c+1) by omega] at this
   rw [this]
def famG (R:List (List Int)) (c:Nat):Fam:=(Fam.rows 3 1 (fmC R)).put c .gone
@[reducible] def psO (C:Cr) (R:List (List Int)) (c:Nat) (t:Int) (r:Objs):Objs:=owX C (one (.row 23 1 false (fmK 5 0 C.bu)) :: .rows 3 1 (fmC C.bu) :: one (.row 23 1 false (fmK 7 0 C.sq)) :: .rows 3 1 (fmC C.sq) :: one (.row 23 1 false ((fmK 9 0 R).set (0+c) (.sl 10 0 1 0 ((qAt R c).length+1) none))) :: famG R c :: one (.row 3 1 true (fmC R c ++ [.int .i64 t])) :: r)
@[reducible] def pnO (C:Cr) (R:List (List Int)) (r:Objs):Objs:=owX C (one (.row 23 1 false (fmK 5 0 C.bu)) :: .rows 3 1 (fmC C.bu) :: one (.row 23 1 false (fmK 7 0 C.sq)) :: .rows 3 1 (fmC C.sq) :: one (.row 23 1 false (fmK 9 0 R)) :: .rows 3 1 (fmC R) :: r)
theorem push_weak {C:Cr} {R:List (List Int)} {c:Nat} {t:Int} (hc:c < R.length) {n0:Nat} (h0:n0≤9) {m:List (Nat × D)}:Weak n0 { m:=m,objs:=psO C R c t [] } { m:=mapM (swp 10 9 c) m,objs:=pnO C (R.set c (qAt R c ++ [t])) [one .gone] }:=by
 have hone:∀ j,Objs.at (psO C R c t []) 10 (j+1) = .gone:=fun j=>rfl
 refine Weak.trans (Weak.swap 10 9 c (by decide) (by omega) h0 (bl rfl) (bl rfl) hone) ?_
 refine Weak.drops (fun i j hne=>?_) (by show (swapO 10 9 c _).length≤_; simp [swapO])
 rw [swapO_at c (by decide) (bl rfl) (bl rfl) hone i j]
 by_cases h10:i = 10
 ·subst h10
  cases j with
  | zero=>exact absurd rfl hne
  | succ j=>exact absurd rfl hne
 by_cases h9:i = 9
 ·subst h9
  show O.row 3 1 true (fmC (R.set c (qAt R c ++ [t])) j) = _
  by_cases hj:j = c
  ·subst hj
   rw [swp_b j (by decide)]
   show O.row 3 1 true (fmC (R.set j (qAt R j ++ [t])) j) = O.row 3 1 true (fmC R j ++ [.int .i64 t])
   have e:qAt (R.set j (qAt R j ++ [t])) j = qAt R j ++ [t]:=by
    unfold qAt
    rw [List.getD_eq_getElem?_getD,List.getElem?_set_self hc]
    rfl
   unfold fmC
   rw [e,List.map_append]
   rfl
  ·rw [swp_ne (by omega) (by omega)]
   show O.row 3 1 true (fmC (R.set c (qAt R c ++ [t])) j) = O.mapId _ (if j = c then O.gone else O.row 3 1 true (fmC R j))
   rw [if_neg hj]
   have e:qAt (R.set c (qAt R c ++ [t])) j = qAt R j:=by
    unfold qAt
    rw [List.getD_eq_getElem?_getD,List.getElem?_set_ne (fun e=>hj e.symm),List.getD_eq_getElem?_getD]
   unfold fmC
   rw [e]
   rfl
 rw [swp_ne (by omega) (by omega)]
 have hi:i = 0∨i = 1∨i = 2∨i = 3∨i = 4∨i = 5∨i = 6∨i = 7∨i = 8∨11≤i:=by omega
 rcases hi with rfl | rfl | rfl | rfl | rfl | rfl | rfl | rfl | rfl | hi
 ·cases j with
  | zero=>rfl
  | succ j=>exact absurd rfl hne
 ·cases j with
  | zero=>rfl
  | succ j=>exact absurd rfl hne
 ·cases j <;> exact absurd rfl hne
 ·cases j <;> exact absurd rfl hne
 ·cases j with
  | zero =>
   show O.row 23 1 false (fmK 5 0 C.bu) = O.row 23 1 false (D.mapIdL (swp 10 9 c) (fmK 5 0 C.bu))
   rw [fmK_mapId (swp 10 9 c) 5 5 (fun j=>swp_ne (by omega) (by omega))]
  | succ j=>exact absurd rfl hne
 ·rfl
 ·cases j with
  | zero =>
   show O.row 23 1 false (fmK 7 0 C.sq) = O.row 23 1 false (D.mapIdL (swp 10 9 c) (fmK 7 0 C.sq))
   rw [fmK_mapId (swp 10 9 c) 7 7 (fun j=>swp_ne (by omega) (by omega))]
  | succ j=>exact absurd rfl hne
 ·rfl
 ·cases j with
  | zero =>
   show O.row 23 1 false (fmK 9 0 (R.set c (qAt R c ++ [t]))) = O.row 23 1 false (D.mapIdL (swp 10 9 c) ((fmK 9 0 R).set (0+c) (.sl 10 0 1 0 ((qAt R c).length+1) none)))
   have e1:(D.sl 10 0 1 0 ((qAt R c).length+1) none).mapId (swp 10 9 c) = .sl 9 c 1 0 ((qAt R c).length+1) none:=by
    simp only [D.mapId,swp_a]
   have e2:=fmK_swpS c 0 (.sl 9 c 1 0 ((qAt R c).length+1) none) 0 R
   rw [Nat.zero_add] at e2
   rw [fmK_set,Nat.zero_add,mapIdL_set,e1,e2,List.length_append]
   rfl
  | succ j=>exact absurd rfl hne
 ·refine absurd ?_ hne
  show (Objs.at _ i j) = _
  unfold Objs.at
  rw [List.getD_eq_getElem?_getD,List.getElem?_eq_none (by show 11≤i; exact hi)]
  rfl
theorem pnO_lt (C:Cr) (R:List (List Int)):((pnO C R [one .gone]).take 10).all (fun F=>F.lt 10) = true:=by
 have a1:D.ltL 10 (C.th.map thD) = true:=ltL_pure 10 _ (pureTh _)
 have a2:∀ q:List Int,D.ltL 10 (q.map (D.int .i64)) = true:=fun q=>ltL_pure 10 _ (pureL_map (fun _=>rfl) _)
 have a3:∀ Q:List (List Int),D.ltL 10 (Q.map ints) = true:=fun Q=>ltL_pure 10 _ (pureL_rows _)
 simp [Fam.lt,O.lt,D.lt,D.ltL,a1,a2,a3,fmK_lt 5 10 rfl,fmK_lt 7 10 rfl,fmK_lt 9 10 rfl]
theorem push_take (t:Int):∀ (l:List Int) (R:List (List Int)) (i:Nat) (c:Int),l[i]? = some c→pushAll t (l.take (i+1)) R = (pushAll t (l.take i) R).set c.toNat (qAt (pushAll t (l.take i) R) c.toNat ++ [t])
 | [],R,i,c,h=>by simp at h
 | x :: l,R,0,c,h=>by
  have e:x = c:=by simpa using h
  subst e
  rfl
 | x :: l,R,i+1,c,h=>by
  show pushAll t (l.take (i+1)) (R.set x.toNat _) = (pushAll t (l.take i) (R.set x.toNat _)).set _ _
  exact push_take t l _ i c (by simpa using h)
theorem pushAll_ll (t:Int):∀ (l:List Int) (R:List (List Int)) (n:Nat),(∀ L ∈ R,L.length≤n)→∀ L ∈ pushAll t l R,L.length≤n+l.length
 | [],R,n,h,L,hL=>by have:=h L hL; simpa using this
 | x :: l,R,n,h,L,hL=>by
  have:=pushAll_ll t l (R.set x.toNat (qAt R x.toNat ++ [t])) (n+1) (fun M hM=>by
   rcases mem_set2 hM with hM | rfl
   ·have:=h M hM; omega
   ·rw [List.length_append,List.length_singleton]
    by_cases hx:x.toNat < R.length
    ·have:=h _ (qAt_mem hx); omega
    ·unfold qAt; rw [List.getD_eq_getElem?_getD,List.getElem?_eq_none (by omega)]; simp) L hL
  rw [List.length_cons]
  omega
theorem select209 {C:Cr} (h:ChB C) {nc:Nat} (hb:C.bu.length = nc) (hs:C.sq.length = nc) (hr:C.rq.length = nc) (h1:∀ L ∈ C.sq,L.length ≠ 1) (l:List Int) (hl:l.length≤10) (hc:∀ c ∈ l,∃ k:Nat,c = k∧k < nc) (t:Int):Spec Tryz.prog 209 [coreV C,ints l,.int .i64 t] [] (fun d os'=>d = .tup [coreV (selC C l t).1,.int .i64 (selC C l t).2.1,.int .i64 (selC C l t).2.2.1,.int .i64 (selC C l t).2.2.2.1,.bool (selC C l t).2.2.2.2]∧os' = []):=by
 have hlm:(l.map (D.int .i64)).length = l.length:=List.length_map ..
 have hrl:=h.r
 obtain ⟨T,hT⟩:∃ T,D.tup [coreV (selC C l t).1,.int .i64 (selC C l t).2.1,.int .i64 (selC C l t).2.2.1,.int .i64 (selC C l t).2.2.2.1,.bool (selC C l t).2.2.2.2] = T:=⟨_,rfl⟩
 refine Spec.frz (post':=fun d=>d = .tup [coreV (selC C l t).1,.int .i64 (selC C l t).2.1,.int .i64 (selC C l t).2.2.1,.int .i64 (selC C l t).2.2.2.1,.bool (selC C l t).2.2.2.2]) ?_
 rw [hT]
 unfold selC at hT
 refine Spec.by Tryz.func209 rfl (by decide) (by decide +kernel) rfl ?_
 refine goA ?_
 refine Loop.inv (A:=Nat) (List.range 75) (fun i=>[(1,ints l),(2,.int .i64 t),(3,.ptr 0 0 10 0 0),(6,.ptr 1 0 10 0 0),(11,.int .i64 (i:Int))]) (fun _=>[one (.row 30 10 false [coreV C]),one (.row 30 10 false [zC])]) (fun i=>i≤l.length∧∀ x ∈ l.take i,canB C.bu C.sq x.toNat = false) (fun i=>l.length - i) 0 ⟨Nat.zero_le _,by simp⟩ ?_ ?_
 ·exact Weak.start' rfl rfl tld
 rintro i ⟨hi,hf⟩
 dsimp only at hi hf ⊢
 refine goA ?_
 refine Br.dec (fun h0=>?_) (fun h0=>?_)
 ·have hil:i < l.length:=by omega
  have hget:l[i]? = some l[i]:=List.getElem?_eq_getElem hil
  obtain ⟨c,hce,hcn⟩:=hc _ (List.getElem_mem hil)
  rw [hce] at hget
  have hR:=ready234 C c (by omega) (by omega)
  obtain ⟨b,hbe⟩:∃ b,canB C.bu C.sq c = b:=⟨_,rfl⟩
  rw [hbe] at hR
  cases b with
  | true =>
   have hpk:=pickB_at hget (by rw [Int.toNat_natCast]; exact hbe) hf
   have hge:l.getD i 0 = (c:Int):=by rw [List.getD_eq_getElem?_getD,hget]; rfl
   have hrc:=recv208 h c (by omega) (by omega) (by omega) (h1 _ (qAt_mem (by omega))) t
   rw [recvD_yes (by unfold canB at hbe; have:=of_decide_eq_true hbe; omega)] at hrc
   rw [hpk] at hT
   dsimp only at hT
   rw [hge,Int.toNat_natCast] at hT
   subst hT
   refine goA ?_
   refine Opt.of (get_map hget) ?_
   refine goA ?_
   refine Call.mk ((hR).only _ rfl (by rintro d rfl; rfl)) ?_; rintro d os' ⟨rfl,rfl⟩
   refine goA ?_
   refine Opt.of (get_map hget) ?_
   refine goA ?_
   refine Call.mk ((hrc).only _ rfl (by rintro d rfl; rfl)) ?_; rintro d os' ⟨rfl,rfl⟩
   refine goA ?_
   refine Ret.mk [.cell 6 30,.tmp 7,.tmp 8,.tmp 9,.tmp 10] rfl ?_; (refine goA ?_)
   exact ⟨_,.same _,rfl,rfl⟩
  | false =>
   refine goA ?_
   refine Opt.of (get_map hget) ?_
   refine goA ?_
   refine Call.mk ((hR).only _ rfl (by rintro d rfl; rfl)) ?_; rintro d os' ⟨rfl,rfl⟩
   refine goA ?_
   refine ⟨_,_,_,?_,⟨i+1,?_,rfl,rfl,rfl⟩,?_⟩
   ·show l.length - (i+1) < l.length - i; omega
   ·refine ⟨hil,fun x hx=>?_⟩
    rw [List.take_add_one,hget,List.mem_append] at hx
    rcases hx with hx | hx
    ·exact hf x hx
    ·have:x = (c:Int):=by simpa using hx
     rw [this,Int.toNat_natCast]
     exact hbe
   ·refine Weak.backT 2 (by simp) (by first | rfl | kernel_rfl) (by kernel_rfl) (bl rfl) tld (by kernel_rfl) (by kernel_rfl)
 ·have hnone:pickB C.bu C.sq l = none:=pickB_none (fun x hx=>hf x (by rw [List.take_of_length_le (by omega)]; exact hx))
  rw [hnone] at hT
  dsimp only at hT
  subst hT
  refine goA ?_
  refine Call.mk (own233fo h _) ?_
  rintro d os' ⟨rfl,rfl⟩
  refine goR ?_
  refine Pt.weak (Weak.on [(1,ints l),(2,.int .i64 t),(3,.ptr 0 0 10 0 0),(6,.ptr 1 0 10 0 0)] (owO C)) ?_
  refine goA ?_
  refine Loop.inv (A:=Nat) (List.range 75) (fun i=>[(1,ints l),(2,.int .i64 t),(3,.ptr 0 0 10 0 0),(6,.ptr 1 0 10 0 0),(17,.int .i64 (i:Int))]) (fun i=>pnO C (pushAll t (l.take i) C.rq) []) (fun i=>i≤l.length) (fun i=>l.length - i) 0 (Nat.zero_le _) ?_ ?_
  ·exact Weak.start' rfl rfl tld
  rintro i hi
  dsimp only at hi ⊢
  have hRl:(pushAll t (l.take i) C.rq).length = nc:=by rw [pushAll_len]; exact hr
  have hll:=pushAll_ll t (l.take i) C.rq 900 h.lr
  refine goA ?_
  refine Br.dec (fun h0=>?_) (fun h0=>?_)
  ·have hil:i < l.length:=by omega
   have hget:l[i]? = some l[i]:=List.getElem?_eq_getElem hil
   obtain ⟨c,hce,hcn⟩:=hc _ (List.getElem_mem hil)
   rw [hce] at hget
   have hpt:=push_take t l C.rq i c hget
   rw [Int.toNat_natCast] at hpt
   obtain ⟨R,hRe⟩:∃ R,pushAll t (l.take i) C.rq = R:=⟨_,rfl⟩
   rw [hRe] at hRl hll hpt ⊢
   have hfr:(fmK 9 0 R).length = R.length:=fmK_length ..
   have hgr:=fmK_at 9 R c (by omega)
   have hcm:(fmC R c).length = (qAt R c).length:=List.length_map ..
   have hcl:=hll (qAt R c) (qAt_mem (by omega))
   rw [List.length_take] at hcl
   refine goA ?_
   refine Opt.of (get_map hget) ?_
   refine goA ?_
   refine Opt.of (get_map hget) ?_
   refine goA ?_
   refine Opt.of hgr ?_
   refine goA ?_
   refine App.only false rfl rfl ?_
   refine goA ?_
   refine And.intro (by (conv=>whnf); refine Opt.of (hgr) ?_; repeat (first | (conv=>whnf; done) | exact rfl | exact ⟨rfl,rfl⟩ | trivial | (refine Opt.mk ?_) | (refine And.intro rfl ?_) | (conv=>whnf))) ?_
   refine goA ?_
   refine Opt.of hgr ?_
   refine goA ?_
   refine ⟨_,_,_,?_,⟨i+1,?_,rfl,rfl,rfl⟩,?_⟩
   ·show l.length - (i+1) < l.length - i; omega
   ·exact hil
   ·rw [hpt]
    refine Weak.trans (Weak.on [(1,ints l),(2,.int .i64 t),(3,.ptr 0 0 10 0 0),(6,.ptr 1 0 10 0 0),(17,.int .i64 ((i:Int)+1))] (psO C R c t [])) ?_
    refine Weak.trans (push_weak (by omega) (by simp)) ?_
    refine Weak.trans (Weak.on [(1,ints l),(2,.int .i64 t),(3,.ptr 0 0 10 0 0),(6,.ptr 1 0 10 0 0),(17,.int .i64 ((i:Int)+1))] (pnO C (R.set c (qAt R c ++ [t])) [one .gone])) ?_
    exact Weak.backT 10 (by simp) (by first | rfl | kernel_rfl) (pnO_lt _ _) (bl rfl) tld (by kernel_rfl) (by kernel_rfl)
  ·have hie:l.take i = l:=List.take_of_length_le (by omega)
   rw [hie]
   refine goA ?_
   refine Ret.mk [.cell 6 30,.tmp 7,.tmp 8,.tmp 9,.tmp 10] rfl ?_; (refine goA ?_)
   rw [show C.rq.length = (pushAll t l C.rq).length by rw [pushAll_len]]
   exact ⟨_,View.tup (.cons (coreF_view (C':={ C with rq:=pushAll t l C.rq }) rfl rfl rfl (fm_view (b:=5) rfl rfl rfl (fun k=>rfl)) (fm_view (b:=7) rfl rfl rfl (fun k=>rfl)) (fm_view (b:=9) rfl rfl rfl (fun k=>rfl))) (.cons (.same _) (.cons (.same _) (.cons (.same _) (.cons (.same _) .nil))))),rfl,rfl⟩
theorem send150 {g:Pg} (hg:GoodP g) {t:Nat} {x:Xs} (h:MI g t x) (a:Nat) (ha:a < g.ch.length) (v:Int):Spec Tryz.prog 150 [xS g t x,rqD ⟨13,a,v⟩] [] (fun d os'=>d = xS g t (sendX g x t a v)∧os' = []):=by
 have he:=h.eo hg
 have hchb:=h.chb hg
 have hn:=send_ix h a (g.ch.getD a 0) t v
 have hchl:=hg.sz.ch
 have hcm:(g.ch.map (D.int .i64)).length = g.ch.length:=List.length_map ..
 have hcsm:(g.cs.map ints).length = g.cs.length:=List.length_map ..
 have hgc:(g.ch.map (D.int .i64))[a]? = some (.int .i64 (g.ch.getD a 0)):=by
  rw [List.getElem?_map,List.getD_eq_getElem?_getD,List.getElem?_eq_getElem (by omega)]; rfl
 obtain ⟨room,hroom⟩:∃ r,g.ch.getD a 0 = r:=⟨_,rfl⟩
 have hs:=send207 hchb a (by rw [h.z.bu]; exact ha) (by rw [h.z.sq]; exact ha) (by rw [h.z.rq]; exact ha) room t v
 obtain ⟨hth,hLL⟩:=sendC_th x.C a room t v
 unfold sendX
 dsimp only
 rw [Int.toNat_natCast]
 rw [hroom] at hgc hn ⊢
 obtain ⟨⟨C',f,b⟩,hT⟩:∃ r,sendC x.C a room t v = r:=⟨_,rfl⟩
 rw [hT] at hs hn hth hLL ⊢
 dsimp only at hs hn hth hLL ⊢
 have hxb:=xb_inC (h.xb hg) hth
 have htl:t < (inC x C').C.th.length:=by show t < C'.th.length; rw [hth]; exact h.tl
 have hlen:(inC x C').C.th.length = x.C.th.length:=by show C'.th.length = _; rw [hth]
 have h8:=g_th8 hg h.z
 have hat:∀ k,thAt C' k = thAt x.C k:=fun k=>by unfold thAt; rw [hth]
 have hm:(C'.th.map thD).length = C'.th.length:=List.length_map ..
 have hm2:C'.th.length = x.C.th.length:=by rw [hth]
 cases b with
 | false =>
  rw [if_pos rfl]
  refine Spec.frz (post':=fun d=>d = xS g t (restX (inC x C') t 6 a)) ?_
  refine Spec.by Tryz.func150 rfl (by decide) (by decide +kernel) rfl ?_
  refine goA ?_
  refine Opt.of hgc ?_
  refine goA ?_
  refine Call.mk ((hs).only _ rfl (by rintro d rfl; rfl)) ?_; rintro d os' ⟨rfl,rfl⟩
  refine goA ?_
  refine Call.mk ((rest146x (g:=g) (u:=t) (x:=inC x C') htl (by omega) 6 a).only _ rfl (by rintro d rfl; rfl)) ?_; rintro d os' ⟨rfl,rfl⟩
  refine goA ?_
  refine Ret.mk [.cell 4 142] rfl ?_; (refine goA ?_)
  exact ⟨_,.same _,rfl,rfl⟩
 | true =>
  rw [if_neg (by simp)]
  by_cases hf:f < 0
  ·rw [if_pos hf]
   refine Spec.frz (post':=fun d=>d = xS g t (inC x C')) ?_
   refine Spec.by Tryz.func150 rfl (by decide) (by decide +kernel) rfl ?_
   refine goA ?_
   refine Opt.of hgc ?_
   refine goA ?_
   refine Call.mk ((hs).only _ rfl (by rintro d rfl; rfl)) ?_; rintro d os' ⟨rfl,rfl⟩
   refine goA ?_
   refine Ret.mk [.cell 4 142] rfl ?_; (refine goA ?_)
   exact ⟨_,.same _,rfl,rfl⟩
  ·rw [if_neg hf]
   obtain ⟨k,rfl⟩:∃ k:Nat,f = (k:Int):=⟨f.toNat,by omega⟩
   rw [Int.toNat_natCast] at hn ⊢
   obtain ⟨hn1,hn2⟩:=hn (by omega)
   have hgk:(C'.th.map thD)[k]? = some (thD (thAt x.C k)):=by rw [← hat k]; exact th_at0 (C:=C') (by omega)
   rw [hat k]
   by_cases h8:(thAt x.C k).st = 8
   ·rw [if_pos h8]
    obtain ⟨ho0,ho1⟩:=hn2 h8
    obtain ⟨on,hon⟩:∃ on:Nat,(thAt x.C k).on = (on:Int):=⟨(thAt x.C k).on.toNat,by omega⟩
    have hon2:(thAt x.C k).on.toNat = on:=by omega
    rw [hon2]
    have hgo:(g.cs.map ints)[(thAt x.C k).on.toNat]? = some (ints (qAt g.cs on)):=by rw [hon2]; exact get_map (qAt_get _ _ (by omega))
    have hcl:=(hg.cs _ (qAt_mem (l:=g.cs) (m:=on) (by omega))).2.1
    have hi:=index131 (qAt g.cs on) a (by omega)
    have hidx:idxD ((qAt g.cs on).findIdx? (fun x=>decide ((a:Int) = x))) = .int .i64 (idxI (qAt g.cs on) a):=by unfold idxI; rfl
    rw [hidx] at hi
    have hw:=wakeF199 (g:=g) (u:=t) hxb (by omega) (by omega) (t:=(k:Int)) (fun _=>by rw [hlen]; exact hn1) [v,idxI (qAt g.cs on) a] (by simp)
    refine Spec.frz (post':=fun d=>d = xS g t (wakeF (inC x C') k [v,idxI (qAt g.cs on) a])) ?_
    refine Spec.by Tryz.func150 rfl (by decide) (by decide +kernel) rfl ?_
    refine goA ?_
    refine Opt.of hgc ?_
    refine goA ?_
    refine Call.mk ((hs).only _ rfl (by rintro d rfl; rfl)) ?_; rintro d os' ⟨rfl,rfl⟩
    refine goA ?_
    refine Opt.of hgk ?_
    refine goA ?_
    refine Opt.of hgk ?_
    refine goA ?_
    refine Opt.of hgo ?_
    refine goA ?_
    refine Call.mk ((hi).only _ rfl (by rintro d rfl; rfl)) ?_; rintro d os' ⟨rfl,rfl⟩
    refine goA ?_
    refine App.only false rfl rfl ?_
    refine goA ?_
    refine Call.mk ((hw).only _ rfl (by rintro d rfl; rfl)) ?_; rintro d os' ⟨rfl,rfl⟩
    refine goA ?_
    refine Ret.mk [.cell 4 142] rfl ?_; (refine goA ?_)
    exact ⟨_,.same _,rfl,rfl⟩
   ·rw [if_neg h8]
    have hw:=wakeF199 (g:=g) (u:=t) hxb (by omega) (by omega) (t:=(k:Int)) (fun _=>by rw [hlen]; exact hn1) [v] (by simp)
    refine Spec.frz (post':=fun d=>d = xS g t (wakeF (inC x C') k [v])) ?_
    refine Spec.by Tryz.func150 rfl (by decide) (by decide +kernel) rfl ?_
    refine goA ?_
    refine Opt.of hgc ?_
    refine goA ?_
    refine Call.mk ((hs).only _ rfl (by rintro d rfl; rfl)) ?_; rintro d os' ⟨rfl,rfl⟩
    refine goA ?_
    refine Opt.of hgk ?_
    refine goA ?_
    refine App.only false rfl rfl ?_
    refine goA ?_
    refine Call.mk ((hw).only _ rfl (by rintro d rfl; rfl)) ?_; rintro d os' ⟨rfl,rfl⟩
    refine goA ?_
    refine Ret.mk [.cell 4 142] rfl ?_; (refine goA ?_)
    exact ⟨_,.same _,rfl,rfl⟩
theorem taken150 {g:Pg} (hg:GoodP g) {t:Nat} {x:Xs} (h:MI g t x) {C':Cr} (hth:C'.th = x.C.th) (h0:(thAt x.C t).st = 0) (l:List Int) (hl:l.length≤1000) {s:Int} (hs:TIx x s) :
  Spec Tryz.prog 200 [xS g t (inC x C'),.int .i64 t,ints l] [] (fun d os'=>d = xS g t (tellF (inC x C') t l)∧os' = [])∧Spec Tryz.prog 199 [xS g t (tellF (inC x C') t l),.int .i64 s,.nils] [] (fun d os'=>d = xS g t (wakeF (tellF (inC x C') t l) s [])∧os' = []):=by
 have hxb:=xb_inC (h.xb hg) hth
 have htl:t < (inC x C').C.th.length:=by show t < C'.th.length; rw [hth]; exact h.tl
 have hlen:(inC x C').C.th.length = x.C.th.length:=by show C'.th.length = _; rw [hth]
 have ht:=tell_xb (end_xb FU) hxb htl l
 refine ⟨tellF200 hxb (by omega) (by omega) htl l hl,wakeN199 (b:=1001) (w:=1001) ?_ (by omega) (by omega) (fun hs0=>?_)⟩
 ·exact ht.1.le (by omega) (by omega)
 ·rw [show (tellF (inC x C') t l).C.th.length = x.C.th.length by
   rw [tellF_len]
   ·exact hlen
   ·intro _
    rw [show thAt (inC x C').C t = thAt x.C t from thAt_th hth t]
    exact h0]
  exact hs hs0
theorem recv150 {g:Pg} (hg:GoodP g) {t:Nat} {x:Xs} (h:MI g t x) (h0:(thAt x.C t).st = 0) (a:Nat) (ha:a < g.ch.length) (v:Int):Spec Tryz.prog 150 [xS g t x,rqD ⟨14,a,v⟩] [] (fun d os'=>d = xS g t (recvX x t a)∧os' = []):=by
 have he:=h.eo hg
 have hchb:=h.chb hg
 have hchl:=hg.sz.ch
 have h1:=(h.lens hg).1
 have hs:=recv208 hchb a (by rw [h.z.bu]; exact ha) (by rw [h.z.sq]; exact ha) (by rw [h.z.rq]; exact ha) (h1 _ (qAt_mem (by rw [h.z.sq]; exact ha))).2 t
 have hix:=sel_ix h [(a:Int)] t
 obtain ⟨hth,hLL⟩:=selC_th x.C [(a:Int)] t
 unfold recvD at hs
 unfold recvX
 dsimp only
 obtain ⟨⟨C',i,w,s,b⟩,hT⟩:∃ r,selC x.C [(a:Int)] t = r:=⟨_,rfl⟩
 rw [hT] at hs hix hth hLL ⊢
 dsimp only at hs hix hth hLL ⊢
 have htl:t < (inC x C').C.th.length:=by show t < C'.th.length; rw [hth]; exact h.tl
 have h8:=g_th8 hg h.z
 have hm2:(inC x C').C.th.length = x.C.th.length:=by show C'.th.length = _; rw [hth]
 cases b with
 | false =>
  rw [if_pos rfl]
  refine Spec.frz (post':=fun d=>d = xS g t (restX (inC x C') t 7 a)) ?_
  refine Spec.by Tryz.func150 rfl (by decide) (by decide +kernel) rfl ?_
  refine goA ?_
  refine Call.mk ((hs).only _ rfl (by rintro d rfl; rfl)) ?_; rintro d os' ⟨rfl,rfl⟩
  refine goA ?_
  refine Call.mk ((rest146x (g:=g) (u:=t) (x:=inC x C') htl (by omega) 7 a).only _ rfl (by rintro d rfl; rfl)) ?_; rintro d os' ⟨rfl,rfl⟩
  refine goA ?_
  refine Ret.mk [.cell 4 142] rfl ?_; (refine goA ?_)
  exact ⟨_,.same _,rfl,rfl⟩
 | true =>
  rw [if_neg (by simp)]
  obtain ⟨k1,k2⟩:=taken150 hg h hth h0 [w] (by simp) hix
  refine Spec.frz (post':=fun d=>d = xS g t (wakeF (tellF (inC x C') t [w]) s [])) ?_
  refine Spec.by Tryz.func150 rfl (by decide) (by decide +kernel) rfl ?_
  refine goA ?_
  refine Call.mk ((hs).only _ rfl (by rintro d rfl; rfl)) ?_; rintro d os' ⟨rfl,rfl⟩
  refine goA ?_
  refine App.only false rfl rfl ?_
  refine goA ?_
  refine Call.mk ((k1).only _ rfl (by rintro d rfl; rfl)) ?_; rintro d os' ⟨rfl,rfl⟩
  refine goA ?_
  refine Call.mk ((k2).only _ rfl (by rintro d rfl; rfl)) ?_; rintro d os' ⟨rfl,rfl⟩
  refine goA ?_
  refine Ret.mk [.cell 4 142] rfl ?_; (refine goA ?_)
  exact ⟨_,.same _,rfl,rfl⟩
theorem choose150 {g:Pg} (hg:GoodP g) {t:Nat} {x:Xs} (h:MI g t x) (h0:(thAt x.C t).st = 0) (a:Nat) (ha:a < g.cs.length) (v:Int):Spec Tryz.prog 150 [xS g t x,rqD ⟨15,a,v⟩] [] (fun d os'=>d = xS g t (chooseX g x t a)∧os' = []):=by
 have he:=h.eo hg
 have hchb:=h.chb hg
 have hchl:=hg.sz.ch
 have h1:=(h.lens hg).1
 have hcsm:(g.cs.map ints).length = g.cs.length:=List.length_map ..
 have hgo:(g.cs.map ints)[a]? = some (ints (qAt g.cs a)):=get_map (qAt_get _ _ ha)
 have hcl:=hg.cs _ (qAt_mem (l:=g.cs) (m:=a) ha)
 have hs:=select209 hchb h.z.bu h.z.sq h.z.rq (fun L hL=>(h1 L hL).2) (qAt g.cs a) (by have:=hcl.2.1; omega) (fun c hc=>by
  have:=hcl.2.2 c hc
  exact ⟨c.toNat,by omega,by omega⟩) t
 have hix:=sel_ix h (qAt g.cs a) t
 obtain ⟨hth,hLL⟩:=selC_th x.C (qAt g.cs a) t
 unfold chooseX
 dsimp only
 rw [Int.toNat_natCast]
 obtain ⟨⟨C',i,w,s,b⟩,hT⟩:∃ r,selC x.C (qAt g.cs a) t = r:=⟨_,rfl⟩
 rw [hT] at hs hix hth hLL ⊢
 dsimp only at hs hix hth hLL ⊢
 have htl:t < (inC x C').C.th.length:=by show t < C'.th.length; rw [hth]; exact h.tl
 have h8:=g_th8 hg h.z
 have hm2:(inC x C').C.th.length = x.C.th.length:=by show C'.th.length = _; rw [hth]
 cases b with
 | false =>
  rw [if_pos rfl]
  refine Spec.frz (post':=fun d=>d = xS g t (restX (inC x C') t 8 a)) ?_
  refine Spec.by Tryz.func150 rfl (by decide) (by decide +kernel) rfl ?_
  refine goA ?_
  refine Opt.of hgo ?_
  refine goA ?_
  refine Call.mk ((hs).only _ rfl (by rintro d rfl; rfl)) ?_; rintro d os' ⟨rfl,rfl⟩
  refine goA ?_
  refine Call.mk ((rest146x (g:=g) (u:=t) (x:=inC x C') htl (by omega) 8 a).only _ rfl (by rintro d rfl; rfl)) ?_; rintro d os' ⟨rfl,rfl⟩
  refine goA ?_
  refine Ret.mk [.cell 4 142] rfl ?_; (refine goA ?_)
  exact ⟨_,.same _,rfl,rfl⟩
 | true =>
  rw [if_neg (by simp)]
  obtain ⟨k1,k2⟩:=taken150 hg h hth h0 [w,i] (by simp) hix
  refine Spec.frz (post':=fun d=>d = xS g t (wakeF (tellF (inC x C') t [w,i]) s [])) ?_
  refine Spec.by Tryz.func150 rfl (by decide) (by decide +kernel) rfl ?_
  refine goA ?_
  refine Opt.of hgo ?_
  refine goA ?_
  refine Call.mk ((hs).only _ rfl (by rintro d rfl; rfl)) ?_; rintro d os' ⟨rfl,rfl⟩
  refine goA ?_
  refine App.only false rfl rfl ?_
  refine goA ?_
  refine Call.mk ((k1).only _ rfl (by rintro d rfl; rfl)) ?_; rintro d os' ⟨rfl,rfl⟩
  refine goA ?_
  refine Call.mk ((k2).only _ rfl (by rintro d rfl; rfl)) ?_; rintro d os' ⟨rfl,rfl⟩
  refine goA ?_
  refine Ret.mk [.cell 4 142] rfl ?_; (refine goA ?_)
  exact ⟨_,.same _,rfl,rfl⟩
end Go.Proofs.YtkceciebmkklpaaGreat.V
section
namespace Go.Proofs.YtkceciebmkklpaaGreat.V
open Go
def argM:Nat→List D→List (Nat × D)
 | _,[]=>[]
 | k,d :: ds=>(k,d) :: argM (k+1) ds
theorem argM_lt:∀ (ds:List D) (k i:Nat),i < k→look (argM k ds) i = .junk
 | [],k,i,_=>rfl
 | d :: ds,k,i,h=>by
  show (bif Nat.beq k i then d else look (argM (k+1) ds) i) = .junk
  have:Nat.beq k i = false:=by
   cases hb:Nat.beq k i with
   | false=>rfl
   | true=>have:=Nat.eq_of_beq_eq_true hb; omega
  rw [this]
  exact argM_lt ds (k+1) i (by omega)
theorem argM_rep {ρ:Pl} {I:Im}:∀ (ds:List D) (vs:List Value) (k i:Nat),repL ρ I ds vs→rep ρ I (look (argM k ds) i) (vs.getD (i - k) undef)
 | [],vs,k,i,h=>by show rep ρ I .junk _; rw [rep]; trivial
 | d :: ds,vs,k,i,h=>by
  obtain ⟨u,us,rfl,h1,h2⟩:=repL_cons.1 h
  show rep ρ I (bif Nat.beq k i then d else look (argM (k+1) ds) i) _
  cases hb:Nat.beq k i with
  | true =>
   have:=Nat.eq_of_beq_eq_true hb
   subst this
   rw [Nat.sub_self]
   exact h1
  | false =>
   simp only [cond_false]
   rcases Nat.lt_or_ge i k with hi | hi
   ·rw [argM_lt ds (k+1) i (by omega),rep]; trivial
   ·have hne:i ≠ k:=fun e=>by subst e; rw [Nat.beq_refl] at hb; cases hb
    have:=argM_rep ds us (k+1) i h2
    rw [show i - k = (i - (k+1))+1 by omega]
    exact this
theorem argM_of {ρ:Pl} {I:Im}:∀ (ds:List D) (vs:List Value) (k:Nat),vs.length = ds.length→(∀ i,rep ρ I (look (argM k ds) i) (vs.getD (i - k) undef))→repL ρ I ds vs
 | [],vs,k,hl,h=>by rw [List.eq_nil_of_length_eq_zero hl]; exact repL_nil.2 rfl
 | d :: ds,[],k,hl,h=>by simp at hl
 | d :: ds,u :: us,k,hl,h=>by
  refine repL_cons.2 ⟨u,us,rfl,?_,argM_of ds us (k+1) (by simpa using hl) (fun i=>?_)⟩
  ·have:=h k
   rw [Nat.sub_self] at this
   simp only [argM,look,Nat.beq_refl,cond_true] at this
   exact this
  ·rcases Nat.lt_or_ge k i with hi | hi
   ·have:=h i
    have hb:Nat.beq k i = false:=by
     cases hb:Nat.beq k i with
     | false=>rfl
     | true=>have:=Nat.eq_of_beq_eq_true hb; omega
    simp only [argM,look,hb,cond_false] at this
    rw [show i - k = (i - (k+1))+1 by omega] at this
    exact this
   ·rw [argM_lt ds (k+1) i (by omega),rep]; trivial
theorem Spec.pre {P:Program} {f:FuncId} {args args':List D} {os os':Objs} {post:D→Objs→Prop} (h:Spec P f args' os' post) (hl:args.length = args'.length) (hw:Weak os.length { m:=argM 0 args,objs:=os } { m:=argM 0 args',objs:=os' }):Spec P f args os post:=by
 refine ⟨h.1,fun ρ I w vs sat hr=>?_⟩
 have hvl:=repL_length hr
 obtain ⟨ρ',I',g1,g2,g3,g4,g5,g6,g7⟩:=hw ρ I w (fun i=>vs.getD i undef) sat (fun i=>argM_rep args vs 0 i hr) (Nat.le_refl _)
 have hr':repL ρ' I' args' vs:=argM_of args' vs 0 (by rw [hvl,hl]) (fun i=>g2 i)
 refine (h.2 ρ' I' w vs g1 hr').mono ?_
 rintro e w' ⟨v,d,os2,ρ2,I2,rfl,hp,sat2,fr,hrv⟩
 refine ⟨v,d,os2,ρ2,I2,rfl,hp,sat2,⟨fr.wos,fr.tape,fr.output,fr.size,fun b hb hf=>fr.kept b hb (fun hf'=>hf (g7 b hf')),Nat.le_trans g4 fr.len,fun i j hi=>(fr.same i j (Nat.lt_of_lt_of_le hi g4)).trans (g5 i j hi),Im.le_trans g3 fr.imle,fun b hb=>?_,fun b hb=>?_⟩,hrv⟩
 ·rcases fr.imnew b hb with h' | h' | h'
  ·rcases g6 b h' with h' | h'
   ·exact .inl h'
   ·exact .inr (.inl h')
  ·exact .inr (.inl (g7 b h'))
  ·exact .inr (.inr h')
 ·rcases fr.obnew b hb with h' | h'
  ·exact .inl (g7 b h')
  ·exact .inr h'
theorem dB {τ:Tau} {C:CallW} {l:List Oper} {K:St→Prop} {s:St} (h:drw τ C l (closOf l) [] (mksOfB l) K (permOfB l) [] s) (hok:(drawOk l [] (permOfB l) (closOf l) (mksOfB l) && allOk τ l) = true:=by decide +kernel):Drw τ C l K s:=Drw.madeB hok h
end Go.Proofs.YtkceciebmkklpaaGreat.V
end
namespace Go.Proofs.YtkceciebmkklpaaGreat.V
open Go Go.Proofs
set_option maxRecDepth 100000
set_option maxHeartbeats 40000000
theorem th_snoc (T:List Th) (f:Th):T.map thD ++ [thD f] = (T ++ [f]).map thD:=by rw [List.map_append]; rfl
theorem erB {τ:Tau} {l:List Oper} {s:St} {j:Nat} {b:Prop} (hb:b) (ha:earlyC τ l s j:=by ((conv=>whnf); first | done | exact True.intro)):earlyC τ l s j∧b:=⟨ha,hb⟩
@[reducible] def slO (X:D) (v:Int):Objs:=[one (.row 142 20 false [X]),one (.row 142 20 false [zX]),one (.row 3 1 true [.int .i64 v])]
@[reducible] def xT (g:Pg) (x:Xs) (t:Nat) (d:D) (w:List Int):D:=.agg [.lst 2 false (g.fu.map fuD),.int .i64 g.mu,ints g.co,ints g.se,ints g.ch,.lst 1 false (g.cs.map ints),.int .i64 g.th,.int .i64 x.C.now,d,ints x.C.L.ow,ints x.C.L.co,lists x.C.bu,lists x.C.L.lk,lists x.C.L.wq,lists x.C.L.dq,lists x.C.sq,lists x.C.rq,.int .i64 t,evs x.ev,ints w]
theorem xT_view {g:Pg} {x:Xs} {t:Nat} {w:List Int} {F:Nat→Bool} {os:Objs} {k n:Nat} {T:List Th} (hF:F k = true) (hat:os.at k 0 = .row 42 5 true (T.map thD)) (hn:T.length = n):View F os (xT g x t (.sl k 0 5 0 n none) w) (xT g x t (ths T) w) :=
 .agg (.cons (.same _) (.cons (.same _) (.cons (.same _) (.cons (.same _) (.cons (.same _) (.cons (.same _) (.cons (.same _) (.cons (.same _) (.cons (View.slAll (f:=false) hF hat (by rw [List.length_map]; exact hn) (by simp) (ViewL.same _) (pureTh _)) (ViewL.same _))))))))))
theorem tellP {g:Pg} {u:Int} {b w:Nat} {x:Xs} (hx:XB 100 b w x) (hb:b≤40000) (hw:w≤40000) {t:Nat} (ht:t < x.C.th.length) (v:Int) (X:D) :
  Spec Tryz.prog 200 [xS g u x,.int .i64 t,.sl 2 0 1 0 1 none] (slO X v) (fun d os'=>d = xS g u (tellF x t [v])∧os' = [one (.row 142 20 false [X]),one (.row 142 20 false [zX]),one .gone]):=by
 refine Spec.pre ((tellF200 (g:=g) (u:=u) hx hb hw ht [v] (by simp)).only [one (.row 142 20 false [X]),one (.row 142 20 false [zX]),one .gone] rfl (by rintro d rfl; rfl)) rfl ?_
 show Weak 3 { m:=[(0,xS g u x),(1,.int .i64 t),(2,.sl 2 0 1 0 1 none)],objs:=slO X v } { m:=[(0,xS g u x),(1,.int .i64 t),(2,ints [v])],objs:=[one (.row 142 20 false [X]),one (.row 142 20 false [zX]),one .gone] }
 refine Weak.trans (Weak.frzK (fun i=>Nat.beq i 2) [(2,ints [v])] ⟨View.slAll (f:=false) rfl rfl rfl (by simp) (ViewL.same _) rfl,trivial⟩) ?_
 exact Weak.only [(0,xS g u x),(1,.int .i64 t),(2,ints [v])] [one (.row 142 20 false [X]),one (.row 142 20 false [zX]),one .gone] (by kernel_rfl) tld
theorem spawn145 {g:Pg} (hg:GoodP g) {t:Nat} {x:Xs} (h:MI g t x) (h0:(thAt x.C t).st = 0) (a:Nat) (ha:a < g.fu.length):Spec Tryz.prog 145 [xS g t x,.int .i64 a] [] (fun d os'=>d = xS g t (spawnX g x t a)∧os' = []):=by
 have h8:=g_th8 hg h.z
 have htl:=h.tl
 have hm:(x.C.th.map thD).length = x.C.th.length:=List.length_map ..
 have hxb:=h.xb hg
 unfold spawnX
 by_cases hn:g.th≤(x.C.th.length:Int)
 ·rw [if_pos hn]
  have hsee:=see151 g x.C t x.ev x.wk 1 t (-1) (by rw [h.ev]; simp)
  have hx1:XB 100 1001 1000 (seeX x 1 t (-1)):=seeX_xb hxb 1 (-1) t
  have ht:=tellF200 (g:=g) (u:=t) hx1 (by omega) (by omega) htl [-1] (by simp)
  rw [show xD g x.C t (x.ev ++ [(1,(t:Int),-1)]) x.wk = xS g t (seeX x 1 t (-1)) from rfl] at hsee
  refine Spec.frz (post':=fun d=>d = xS g t (tellF (seeX x 1 t (-1)) t [-1])) ?_
  refine Spec.by Tryz.func145 rfl (by decide) (by decide +kernel) rfl ?_
  refine goA ?_
  refine dB ?_
  refine goA ?_
  refine erB ?_
  refine goA ?_
  refine Call.mk ((hsee).only _ rfl (by rintro d rfl; rfl)) ?_; rintro d os' ⟨rfl,rfl⟩
  refine goA ?_
  refine erB ?_
  refine goA ?_
  refine Call.mk (tellP (g:=g) (u:=t) hx1 (by omega) (by omega) htl (-1) (xS g t x)) ?_
  rintro d os' ⟨rfl,rfl⟩
  refine goA ?_
  refine Ret.mk [.cell 4 142] rfl ?_; (refine goA ?_)
  exact ⟨_,.same _,rfl,rfl⟩
 ·rw [if_neg hn]
  obtain ⟨u,hu⟩:∃ u,g.fu[a]? = some u:=⟨_,List.getElem?_eq_getElem ha⟩
  have hnew:=new96 g a u hu ⟨by have:=(hg.fu u (List.mem_of_getElem? hu)).1; omega,by have:=(hg.fu u (List.mem_of_getElem? hu)).1; omega⟩
  have hnt:(⟨0,0,[⟨a,0,List.replicate u.loc.toNat 0⟩],[],0⟩:Th) = newT g a:=by
   unfold newT newFm
   rw [Int.toNat_natCast,hu]
   rfl
  rw [hnt] at hnew
  obtain ⟨y,hy⟩:∃ y:Xs,{ seeX { x with C:={ x.C with th:=x.C.th ++ [newT g a] } } 1 t x.C.th.length with wk:=x.wk ++ [(x.C.th.length:Int)],wp:=x.wp ++ [(x.C.th.length:Int)] } = y:=⟨_,rfl⟩
  rw [hy]
  have hsee:=see151 g { x.C with th:=x.C.th ++ [newT g a] } t x.ev (x.wk ++ [(x.C.th.length:Int)]) 1 t x.C.th.length (by rw [h.ev]; simp)
  rw [show xD g { x.C with th:=x.C.th ++ [newT g a] } t (x.ev ++ [(1,(t:Int),(x.C.th.length:Int))]) (x.wk ++ [(x.C.th.length:Int)]) = xS g t y by rw [← hy]; rfl] at hsee
  have hng:GoodT g (newT g a):=newT_good hg ⟨by omega,by omega⟩
  have hyC:y.C = { x.C with th:=x.C.th ++ [newT g a] }:=by rw [← hy]; rfl
  have hyn:nj y.C = nj x.C:=by rw [hyC]; exact nj_app x.C _ (by show (0:Int) ≠ 2; decide)
  have hyb:XB 100 2000 2000 y:=by
   refine ⟨by rw [hyn]; exact hxb.jn,by rw [hyC]; show (x.C.th ++ [_]).length≤100; rw [List.length_append,List.length_singleton]; omega,fun f hf=>?_,?_,?_,?_⟩
   ·rw [hyC] at hf
    rcases List.mem_append.1 hf with hf | hf
    ·exact hxb.th f hf
    ·rw [List.mem_singleton] at hf
     subst hf
     exact thI_ok hg (thI_good hng)
   ·have:=hxb.ev
    rw [hyn,← hy]
    show (x.ev ++ [_]).length + _≤_
    rw [List.length_append,List.length_singleton]
    omega
   ·have:=hxb.wp
    rw [hyn,← hy]
    show (x.wp ++ [_]).length + _≤_
    rw [List.length_append,List.length_singleton]
    omega
   ·have:=hxb.wk
    rw [hyn,← hy]
    show (x.wk ++ [_]).length + _≤_
    rw [List.length_append,List.length_singleton]
    omega
  have hyt:t < y.C.th.length:=by rw [← hy]; show t < (x.C.th ++ [_]).length; rw [List.length_append,List.length_singleton]; omega
  have ht:=tellF200 (g:=g) (u:=t) hyb (by omega) (by omega) hyt [(x.C.th.length:Int)] (by simp)
  have hwk:=h.wk
  have hne:x.C.th.map thD ≠ []:=fun e=>by have:=congrArg List.length e; rw [hm,List.length_nil] at this; omega
  refine Spec.frz (post':=fun d=>d = xS g t (tellF y t [(x.C.th.length:Int)])) ?_
  rw [hwk] at hsee
  show Spec Tryz.prog 145 [xD g x.C t x.ev x.wk,.int .i64 a] [] _
  rw [hwk]
  have hnm:(x.C.th.map thD).length+1 = (x.C.th ++ [newT g a]).length:=by rw [hm,List.length_append]; rfl
  refine Spec.by Tryz.func145 rfl (by decide) (by decide +kernel) rfl ?_
  refine goA ?_
  refine And.intro (fun h=>absurd h hne) (fun _=>?_)
  refine And.intro (by rw [hm]; show x.C.th.length * 72≤140737488355328; omega) (And.intro (by omega) ?_)
  rw [show D.pureL (x.C.th.map thD) = true from pureTh _]
  refine App.own ?_
  refine goA ?_
  refine Call.mk ((hnew).only _ rfl (by rintro d rfl; rfl)) ?_; rintro d os' ⟨rfl,rfl⟩
  refine goA ?_
  refine App.only false rfl rfl ?_
  refine goA ?_
  refine And.intro (fun _=>?_) (fun h=>absurd rfl h)
  refine goA ?_
  refine App.only false rfl rfl ?_
  refine goA ?_
  refine App.only false rfl rfl ?_
  refine goR ?_
  refine Pt.weak (Weak.on [(2,.ptr 0 0 20 0 0),(4,.ptr 1 0 20 0 0),(5,.int .i64 (x.C.th.map thD).length)] [one (.row 142 20 false [xT g x t (.sl 3 0 5 0 ((x.C.th.map thD).length+1) none) [((x.C.th.map thD).length:Int)]]),one (.row 142 20 false [zX]),one .gone,one (.row 42 5 true (x.C.th.map thD ++ [thD (newT g a)]))]) ?_
  rw [th_snoc]
  refine Pt.weak (Weak.frzO (fun i=>Nat.beq i 3) [] 0 (es:=[xT g x t (.sl 3 0 5 0 ((x.C.th.map thD).length+1) none) [((x.C.th.map thD).length:Int)]]) rfl rfl [xT g x t (ths (x.C.th ++ [newT g a])) [((x.C.th.map thD).length:Int)]] rfl (.cons (xT_view rfl rfl hnm.symm) .nil) trivial) ?_
  refine Pt.weak (Weak.fin (sl:=[(2,.ptr 0 0 20 0 0),(4,.ptr 1 0 20 0 0),(5,.int .i64 (x.C.th.map thD).length)]) (os:=[one (.row 142 20 false [xT g x t (ths (x.C.th ++ [newT g a])) [((x.C.th.map thD).length:Int)]]),one (.row 142 20 false [zX])]) 2) ?_
  rw [hm]
  refine goA ?_
  refine dB ?_
  refine goA ?_
  refine erB ?_
  refine goA ?_
  refine Call.mk ((hsee).only _ rfl (by rintro d rfl; rfl)) ?_; rintro d os' ⟨rfl,rfl⟩
  refine goA ?_
  refine erB ?_
  refine goA ?_
  refine Call.mk (tellP (g:=g) (u:=t) hyb (by omega) (by omega) hyt (x.C.th.length:Int) (xT g x t (ths (x.C.th ++ [newT g a])) [(x.C.th.length:Int)])) ?_
  rintro d os' ⟨rfl,rfl⟩
  refine goA ?_
  refine Ret.mk [.cell 4 142] rfl ?_; (refine goA ?_)
  exact ⟨_,.same _,rfl,rfl⟩
end Go.Proofs.YtkceciebmkklpaaGreat.V
