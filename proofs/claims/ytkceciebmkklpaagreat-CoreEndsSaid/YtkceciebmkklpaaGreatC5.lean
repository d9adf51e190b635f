/- C5: a text of a symbolic executor that is proved sound, and contracts that are proved with it. -/
import Derived.Test.YtkceciebmkklpaaGreatVA
import Derived.Test.YtkceciebmkklpaaGreatVB
import Derived.Test.YtkceciebmkklpaaGreatVT
import Derived.Test.YtkceciebmkklpaaGreatVC
import Derived.Test.YtkceciebmkklpaaGreatC0
import Derived.Test.YtkceciebmkklpaaGreatC1
import Derived.Test.YtkceciebmkklpaaGreatC2
import Derived.Test.YtkceciebmkklpaaGreatC3
import Derived.Test.YtkceciebmkklpaaGreatC4
import Derived.Test.YtkceciebmkklpaaGreatRows
import Derived.WalkKit
import Derived.ProofKit
import Derived.OpenShut
import Derived.ShutString
import Derived.ChangeOld
import Derived.Below
import Derived.SizedLaws
set_option linter.unusedVariables false
set_option linter.unusedSimpArgs false
namespace Go.Proofs.YtkceciebmkklpaaGreat.V
open Go Go.Proofs
set_option maxRecDepth 100000
set_option maxHeartbeats 40000000
theorem meet94 {g:Pg} (hg:GoodP g) {t:Nat} {x:Xs} (h:MI g t x) {q:Rq} (hq:RqOk g q) (h0:q.kd ≠ 1→(thAt x.C t).st = 0):Spec Tryz.prog 94 [xS g t x,rqD q] [] (fun d os'=>d = xS g t (meetX g x t q)∧os' = []):=by
 have he:=h.eo hg
 have hb:=eb_en hg t
 have hz:=h.z.L
 have h8:=g_th8 hg h.z
 have hmu:=hg.sz.mu
 have htl:=h.tl
 obtain ⟨kd,a,v⟩:=q
 obtain ⟨q1,q2,q3,q4,q5,q6,q7,q8⟩:=hq
 dsimp only at q1 q2 q3 q4 q5 q6 q7 q8 h0 ⊢
 obtain ⟨R,hR⟩:∃ R,meetX g x t ⟨kd,a,v⟩ = R:=⟨_,rfl⟩
 rw [hR]
 unfold meetX at hR
 dsimp only at hR
 have hc:kd = 0∨kd = 1∨kd = 2∨kd = 3∨kd = 4∨kd = 5∨kd = 6∨kd = 7∨kd = 8∨kd = 9∨kd = 10∨kd = 11∨kd = 12∨kd = 13∨kd = 14∨kd = 15∨kd = 16:=by omega
 refine Spec.frz (post':=fun d=>d = xS g t R) ?_
 rcases hc with rfl | rfl | rfl | rfl | rfl | rfl | rfl | rfl | rfl | rfl | rfl | rfl | rfl | rfl | rfl | rfl | rfl
 ·subst hR
  refine Spec.by Tryz.func94 rfl (by decide) (by decide +kernel) rfl ?_
  refine goA ?_
  refine Ret.mk [.cell 4 142] rfl ?_; (refine goA ?_)
  exact ⟨_,.same _,rfl,rfl⟩
 ·have hR:endF x t v = R:=hR
  have hs:=endF144 (e:=en g t) he v
  rw [show endF x (en g t).t v = R from hR] at hs
  refine Spec.by Tryz.func94 rfl (by decide) (by decide +kernel) rfl ?_
  refine goA ?_
  refine Call.mk ((hs).only _ rfl (by rintro d rfl; rfl)) ?_; rintro d os' ⟨rfl,rfl⟩
  refine goA ?_
  refine Ret.mk [.cell 4 142] rfl ?_; (refine goA ?_)
  exact ⟨_,.same _,rfl,rfl⟩
 ·subst hR
  refine Spec.by Tryz.func94 rfl (by decide) (by decide +kernel) rfl ?_
  refine goA ?_
  refine Ret.mk [.cell 4 142] rfl ?_; (refine goA ?_)
  exact ⟨_,.same _,rfl,rfl⟩
 ·have hR:spawnX g x t a = R:=hR
  obtain ⟨a0,a1⟩:=q3 rfl
  obtain ⟨k,rfl⟩:∃ k:Nat,a = (k:Int):=⟨a.toNat,by omega⟩
  have hs:=spawn145 hg h (h0 (by decide)) k (by omega)
  rw [hR] at hs
  refine Spec.by Tryz.func94 rfl (by decide) (by decide +kernel) rfl ?_
  refine goA ?_
  refine Call.mk ((hs).only _ rfl (by rintro d rfl; rfl)) ?_; rintro d os' ⟨rfl,rfl⟩
  refine goA ?_
  refine Ret.mk [.cell 4 142] rfl ?_; (refine goA ?_)
  exact ⟨_,.same _,rfl,rfl⟩
 ·have hR:sleepX x t v = R:=hR
  have hnow:=h.z.now
  obtain ⟨v1,v2⟩:=q2
  unfold sleepX at hR
  by_cases hn:x.C.now < keep (x.C.now+v)
  ·rw [if_pos hn] at hR
   have hs:=rest146x (g:=g) (u:=t) (x:=x) htl (by omega) 1 (keep (x.C.now+v))
   rw [hR] at hs
   refine Spec.by Tryz.func94 rfl (by decide) (by decide +kernel) rfl ?_
   refine goA ?_
   refine Call.mk (keep36 _ _) ?_
   rintro d os' ⟨rfl,rfl⟩
   refine goA ?_
   refine Call.mk ((hs).only _ rfl (by rintro d rfl; rfl)) ?_; rintro d os' ⟨rfl,rfl⟩
   refine goA ?_
   refine Ret.mk [.cell 4 142] rfl ?_; (refine goA ?_)
   exact ⟨_,.same _,rfl,rfl⟩
  ·rw [if_neg hn] at hR
   subst hR
   refine Spec.by Tryz.func94 rfl (by decide) (by decide +kernel) rfl ?_
   refine goA ?_
   refine Call.mk (keep36 _ _) ?_
   rintro d os' ⟨rfl,rfl⟩
   refine goA ?_
   refine Ret.mk [.cell 4 142] rfl ?_; (refine goA ?_)
   exact ⟨_,.same _,rfl,rfl⟩
 ·have hR:joinX x t v = R:=hR
  have hs:=join147 (e:=en g t) he v
  rw [show joinX x (en g t).t v = R from hR] at hs
  refine Spec.by Tryz.func94 rfl (by decide) (by decide +kernel) rfl ?_
  refine goA ?_
  refine Call.mk ((hs).only _ rfl (by rintro d rfl; rfl)) ?_; rintro d os' ⟨rfl,rfl⟩
  refine goA ?_
  refine Ret.mk [.cell 4 142] rfl ?_; (refine goA ?_)
  exact ⟨_,.same _,rfl,rfl⟩
 ·have hR:lockX x t a = R:=hR
  have:=q4 (.inl rfl)
  obtain ⟨k,rfl⟩:∃ k:Nat,a = (k:Int):=⟨a.toNat,by omega⟩
  have hs:=lock148 (e:=en g t) he hb (a:=k) (by show k < g.mu.toNat; omega)
  rw [show lockX x (en g t).t k = R from hR] at hs
  refine Spec.by Tryz.func94 rfl (by decide) (by decide +kernel) rfl ?_
  refine goA ?_
  refine Call.mk ((hs).only _ rfl (by rintro d rfl; rfl)) ?_; rintro d os' ⟨rfl,rfl⟩
  refine goA ?_
  refine Ret.mk [.cell 4 142] rfl ?_; (refine goA ?_)
  exact ⟨_,.same _,rfl,rfl⟩
 ·have hR:unlockX x t a = R:=hR
  have:=q4 (.inr rfl)
  obtain ⟨k,rfl⟩:∃ k:Nat,a = (k:Int):=⟨a.toNat,by omega⟩
  have hs:=unlock148 (e:=en g t) he hb (a:=k) (by show k < g.mu.toNat; omega) (unlock_ix h k t)
  rw [show unlockX x (en g t).t k = R from hR] at hs
  refine Spec.by Tryz.func94 rfl (by decide) (by decide +kernel) rfl ?_
  refine goA ?_
  refine Call.mk ((hs).only _ rfl (by rintro d rfl; rfl)) ?_; rintro d os' ⟨rfl,rfl⟩
  refine goA ?_
  refine Ret.mk [.cell 4 142] rfl ?_; (refine goA ?_)
  exact ⟨_,.same _,rfl,rfl⟩
 ·have hR:waitX g x t a = R:=hR
  have:=q5 (.inl rfl)
  obtain ⟨k,rfl⟩:∃ k:Nat,a = (k:Int):=⟨a.toNat,by omega⟩
  have hs:=wait148 (e:=en g t) he hb (a:=k) (by show k < g.co.length; omega) (wait_ix h _ _ _)
  rw [show waitX (en g t).g x (en g t).t k = R from hR] at hs
  refine Spec.by Tryz.func94 rfl (by decide) (by decide +kernel) rfl ?_
  refine goA ?_
  refine Call.mk ((hs).only _ rfl (by rintro d rfl; rfl)) ?_; rintro d os' ⟨rfl,rfl⟩
  refine goA ?_
  refine Ret.mk [.cell 4 142] rfl ?_; (refine goA ?_)
  exact ⟨_,.same _,rfl,rfl⟩
 ·have hR:signalX g x a = R:=hR
  have:=q5 (.inr (.inl rfl))
  obtain ⟨k,rfl⟩:∃ k:Nat,a = (k:Int):=⟨a.toNat,by omega⟩
  have hs:=signal148 (e:=en g t) he hb (a:=k) (by show k < g.co.length; omega) (fun w hw=>h.std (r:=1) (by omega) hw)
  rw [show signalX (en g t).g x k = R from hR] at hs
  refine Spec.by Tryz.func94 rfl (by decide) (by decide +kernel) rfl ?_
  refine goA ?_
  refine Call.mk ((hs).only _ rfl (by rintro d rfl; rfl)) ?_; rintro d os' ⟨rfl,rfl⟩
  refine goA ?_
  refine Ret.mk [.cell 4 142] rfl ?_; (refine goA ?_)
  exact ⟨_,.same _,rfl,rfl⟩
 ·have hR:broadX g x a = R:=hR
  have:=q5 (.inr (.inr rfl))
  obtain ⟨k,rfl⟩:∃ k:Nat,a = (k:Int):=⟨a.toNat,by omega⟩
  have hs:=broad148 (e:=en g t) he hb (a:=k) (by show k < g.co.length; omega) (fun w hw=>h.std (r:=1) (by omega) hw)
  have hbe:=broad_eq hg h.z he.L he.N (nodup_wq h) (a:=(k:Int)) this (fun v hv=>(h.std (r:=1) (by omega) (k:=(k:Int).toNat) hv).1)
  rw [Int.toNat_natCast] at hbe
  rw [show broadI (en g t).g k (qAt x.C.L.wq k).length x = R by rw [← hR]; exact hbe.symm] at hs
  refine Spec.by Tryz.func94 rfl (by decide) (by decide +kernel) rfl ?_
  refine goA ?_
  refine Call.mk ((hs).only _ rfl (by rintro d rfl; rfl)) ?_; rintro d os' ⟨rfl,rfl⟩
  refine goA ?_
  refine Ret.mk [.cell 4 142] rfl ?_; (refine goA ?_)
  exact ⟨_,.same _,rfl,rfl⟩
 ·have hR:downX x t a = R:=hR
  have:=q6 (.inl rfl)
  obtain ⟨k,rfl⟩:∃ k:Nat,a = (k:Int):=⟨a.toNat,by omega⟩
  have hs:=down149 (e:=en g t) he hb (a:=k) (by show k < g.se.length; omega)
  rw [show downX x (en g t).t k = R from hR] at hs
  refine Spec.by Tryz.func94 rfl (by decide) (by decide +kernel) rfl ?_
  refine goA ?_
  refine Call.mk ((hs).only _ rfl (by rintro d rfl; rfl)) ?_; rintro d os' ⟨rfl,rfl⟩
  refine goA ?_
  refine Ret.mk [.cell 4 142] rfl ?_; (refine goA ?_)
  exact ⟨_,.same _,rfl,rfl⟩
 ·have hR:upX x a = R:=hR
  have:=q6 (.inr rfl)
  obtain ⟨k,rfl⟩:∃ k:Nat,a = (k:Int):=⟨a.toNat,by omega⟩
  have hs:=up149 (e:=en g t) he hb (a:=k) (by show k < g.se.length; omega) (up_ix h k)
  rw [show upX x k = R from hR] at hs
  refine Spec.by Tryz.func94 rfl (by decide) (by decide +kernel) rfl ?_
  refine goA ?_
  refine Call.mk ((hs).only _ rfl (by rintro d rfl; rfl)) ?_; rintro d os' ⟨rfl,rfl⟩
  refine goA ?_
  refine Ret.mk [.cell 4 142] rfl ?_; (refine goA ?_)
  exact ⟨_,.same _,rfl,rfl⟩
 ·have hR:sendX g x t a v = R:=hR
  have:=q7 (.inl rfl)
  obtain ⟨k,rfl⟩:∃ k:Nat,a = (k:Int):=⟨a.toNat,by omega⟩
  have hs:=send150 hg h k (by omega) v
  rw [hR] at hs
  refine Spec.by Tryz.func94 rfl (by decide) (by decide +kernel) rfl ?_
  refine goA ?_
  refine Call.mk ((hs).only _ rfl (by rintro d rfl; rfl)) ?_; rintro d os' ⟨rfl,rfl⟩
  refine goA ?_
  refine Ret.mk [.cell 4 142] rfl ?_; (refine goA ?_)
  exact ⟨_,.same _,rfl,rfl⟩
 ·have hR:recvX x t a = R:=hR
  have:=q7 (.inr rfl)
  obtain ⟨k,rfl⟩:∃ k:Nat,a = (k:Int):=⟨a.toNat,by omega⟩
  have hs:=recv150 hg h (h0 (by decide)) k (by omega) v
  rw [hR] at hs
  refine Spec.by Tryz.func94 rfl (by decide) (by decide +kernel) rfl ?_
  refine goA ?_
  refine Call.mk ((hs).only _ rfl (by rintro d rfl; rfl)) ?_; rintro d os' ⟨rfl,rfl⟩
  refine goA ?_
  refine Ret.mk [.cell 4 142] rfl ?_; (refine goA ?_)
  exact ⟨_,.same _,rfl,rfl⟩
 ·have hR:chooseX g x t a = R:=hR
  have:=q8 rfl
  obtain ⟨k,rfl⟩:∃ k:Nat,a = (k:Int):=⟨a.toNat,by omega⟩
  have hs:=choose150 hg h (h0 (by decide)) k (by omega) v
  rw [hR] at hs
  refine Spec.by Tryz.func94 rfl (by decide) (by decide +kernel) rfl ?_
  refine goA ?_
  refine Call.mk ((hs).only _ rfl (by rintro d rfl; rfl)) ?_; rintro d os' ⟨rfl,rfl⟩
  refine goA ?_
  refine Ret.mk [.cell 4 142] rfl ?_; (refine goA ?_)
  exact ⟨_,.same _,rfl,rfl⟩
 ·have hR:seeX x 0 t v = R:=hR
  have hs:=see151 g x.C t x.ev x.wk 0 t v (by rw [h.ev]; simp)
  rw [show xD g x.C t (x.ev ++ [(0,(t:Int),v)]) x.wk = xS g t R by rw [← hR]; rfl] at hs
  refine Spec.by Tryz.func94 rfl (by decide) (by decide +kernel) rfl ?_
  refine goA ?_
  refine Call.mk ((hs).only _ rfl (by rintro d rfl; rfl)) ?_; rintro d os' ⟨rfl,rfl⟩
  refine goA ?_
  refine Ret.mk [.cell 4 142] rfl ?_; (refine goA ?_)
  exact ⟨_,.same _,rfl,rfl⟩
theorem needs_cases (op:Int):needsI op = 0∨needsI op = 1∨needsI op = 2:=by
 unfold needsI
 split
 ·exact .inr (.inl rfl)
 ·split
  ·exact .inr (.inr rfl)
  ·exact .inl rfl
theorem step98 (g:Pg) (hg:GoodP g) (t:Th) (ht:GoodT g t):Spec Tryz.prog 93 [pgD g,thD t] [] (fun d os'=>d = .tup [thD (stepT g t).1,rqD (stepT g t).2]∧os' = []):=by
 refine Spec.frz (post':=fun d=>d = .tup [thD (stepT g t).1,rqD (stepT g t).2]) ?_
 obtain ⟨s,k,pc,ls,u,h⟩:=ST.of ht
 have hs:=h.fr
 have hsl:=h.sl
 have hB:=good_okB hg ht
 have hget:t.fr[((((t.fr.map frD).length:Nat):Int) - 1).toNat]? = some ⟨k,pc,ls⟩:=by
  have e:((((t.fr.map frD).length:Nat):Int) - 1).toNat = s.length:=by rw [List.length_map,hs]; simp
  rw [e,hs]; simp
 have hlm:(t.fr.map frD).length = s.length+1:=by rw [List.length_map,hs]; simp
 have hskm:(t.sk.map (D.int .i64)).length = t.sk.length:=List.length_map ..
 have hsk:=h.sk
 refine Spec.by Tryz.func93 rfl (by decide) (by decide +kernel) rfl ?_
 refine goA ?_
 refine Call.mk ((fetch163 g t s k pc ls u h.hu hs (by omega)).only _ rfl (by rintro d rfl; rfl)) ?_; rintro d os' ⟨rfl,rfl⟩
 obtain ⟨⟨op,a⟩,b,hx⟩:∃ x b,fetchI g ⟨k,pc,[]⟩ = (x,b):=⟨_,_,rfl⟩
 rw [hx]
 have hx':fetchI g ⟨k,pc,ls⟩ = ((op,a),b):=hx
 cases b with
 | false =>
  rw [stepT_off hs hx']
  refine goA ?_
  refine Call.mk ((ends164 6).only _ rfl (by rintro d rfl; rfl)) ?_; rintro d os' ⟨rfl,rfl⟩
  refine goA ?_
  refine Ret.mk [.cell 4 42,.cell 5 138] rfl ?_; (refine goA ?_)
  exact ⟨_,View.same _,rfl,rfl⟩
 | true =>
  rw [stepT_go hs hx']
  have hxt:=xt_of hg h hx'
  have hpl:=(fetch_in h.hu hx').2
  have hgu:=hg.fu u (List.mem_of_getElem? h.hu)
  have hcl:=hgu.2.1
  have hin:=hgu.2.2 _ (fetch_in h.hu hx').1
  obtain ⟨t1,ht1⟩:∃ t1:Th,t1 = { t with fr:=s ++ [⟨k,(pc:Int)+1,ls⟩] }:=⟨_,rfl⟩
  have hB1:t1.okB:=by
   obtain ⟨b1,b2,b3⟩:=hB
   refine ⟨by rw [ht1]; simp; omega,by rw [ht1]; exact b2,?_⟩
   rw [ht1]
   intro x hxm
   rcases List.mem_append.1 hxm with hxm | hxm
   ·exact b3 x (by rw [hs]; simp [hxm])
   ·simp only [List.mem_singleton] at hxm; subst hxm; exact b3 ⟨k,pc,ls⟩ (by rw [hs]; simp)
  have hsk1:t1.sk.length = t.sk.length:=by rw [ht1]
  have hfr1:t1.fr = s ++ [⟨k,(pc:Int)+1,ls⟩]:=by rw [ht1]
  rw [← ht1] at hxt ⊢
  refine goA ?_
  refine Opt.of (get_map hget) ?_
  refine goA ?_
  refine Call.mk ((jump137 t hB s ⟨k,pc,ls⟩ hs ((pc:Int)+1)).only _ rfl (by rintro d rfl; rfl)) ?_
  rintro d os' ⟨rfl,rfl⟩
  rw [show ({ t with fr:=s ++ [⟨k,(pc:Int)+1,ls⟩] }:Th) = t1 from ht1.symm]
  refine goA ?_
  refine Call.mk ((needs165 op).only _ rfl (by rintro d rfl; rfl)) ?_; rintro d os' ⟨rfl,rfl⟩
  refine goA ?_
  refine Br.dec (fun hn=>?_) (fun hn=>?_)
  ·have he:=ex_under g s ⟨k,(pc:Int)+1,ls⟩ t1 a (op:=op) (by omega)
   rw [he]
   refine goA ?_
   refine Call.mk ((ends164 1).only _ rfl (by rintro d rfl; rfl)) ?_; rintro d os' ⟨rfl,rfl⟩
   refine goA ?_
   refine Ret.mk [.cell 4 42,.cell 5 138] rfl ?_; (refine goA ?_)
   exact ⟨_,View.same _,rfl,rfl⟩
  ·have hnn:=needs_cases op
   refine goA ?_
   refine Loop.inv2 0 (A:=Nat) (List.range 226) (fun i=>[(2,.ptr 0 0 7 0 0),(3,.ptr 1 0 5 0 0),(4,.ptr 2 0 5 0 0),(5,.ptr 3 0 3 0 0),(6,.ptr 4 0 2 0 0),(8,.ptr 5 0 5 0 0),(9,.sl 6 0 1 0 i none),(10,.int .i64 (i:Int))]) (fun i=>[one (.row 26 7 false [pgD g]),one (.row 42 5 false [thD t]),one (.row 42 5 false [z29]),one (.row 138 3 false [.agg [.int .i64 0,.int .i64 0,.int .i64 0]]),one (.row 65 2 false [inD (op,a)]),one (.row 42 5 false [thD (popR i t1).1]),rowI (popR i t1).2]) (fun i=>(i:Int)≤needsI op) (fun i=>(i:Int) = needsI op) (fun i=>10 - i) 0 (by omega) ?_ ?_ ?_
   ·refine Weak.trans (Weak.nilrow 9 rfl 3 1 true) ?_
    exact Weak.start' rfl rfl tld
   ·intro cont i hi
    have hli:((popR i t1).2.map (D.int .i64)).length = i:=by rw [List.length_map,popR_len]
    have hi2:i≤2:=by omega
    refine goA ?_
    refine Call.mk ((needs165 op).only _ rfl (by rintro d rfl; rfl)) ?_; rintro d os' ⟨rfl,rfl⟩
    refine goA ?_
    refine Br.dec (fun hlt=>?_) (fun hlt=>?_)
    ·have hlt':(i:Int) < needsI op:=hlt
     refine goA ?_
     refine Call.mk ((pop133m (popR i t1).1 (popR_okB i t1 hB1)).only _ rfl (by rintro d rfl; rfl)) ?_; rintro d os' ⟨rfl,rfl⟩
     refine goA ?_
     refine App.only false rfl rfl ?_
     refine goA ?_
     refine ⟨_,_,_,?_,⟨i+1,?_,rfl,rfl,rfl⟩,?_⟩
     ·show 10 - (i+1) < 10 - i
      omega
     ·show ((i+1:Nat):Int)≤_
      omega
     ·refine Weak.trans (Weak.shift 8 6 (by decide) (by simp) (bl rfl) (bl rfl) (fun j=>by cases j <;> rfl) rfl) ?_
      refine Weak.backT 7 (by simp) ?_ (by kernel_rfl) (bl rfl) tld (by kernel_rfl) (by kernel_rfl)
      have e:(popR i t1).2.map (D.int .i64) ++ [D.int .i64 (popM (popR i t1).1).2.1] = (popR (i+1) t1).2.map (D.int .i64):=by
       show _ = ((popR i t1).2 ++ [_]).map _
       rw [List.map_append]; rfl
      exact congrArg (fun r=>([one (.row 26 7 false [pgD g]),one (.row 42 5 false [thD t]),one (.row 42 5 false [z29]),one (.row 138 3 false [.agg [.int .i64 0,.int .i64 0,.int .i64 0]]),one (.row 65 2 false [inD (op,a)]),one (.row 42 5 false [thD (popR (i+1) t1).1]),one (.row 3 1 true r)]:Objs)) e
    ·refine goR ?_
     refine Pt.weak ?_ (cont.h (i) ?_)
     ·refine Weak.backT 7 (by simp) (by first | rfl | kernel_rfl) (by kernel_rfl) (bl rfl) tld (by kernel_rfl) (by kernel_rfl)
     ·have hlt':¬ (i:Int) < needsI op:=hlt
      show (i:Int) = needsI op
      omega
   ·intro i hi
    have hc:op = 0∨op = 1∨op = 2∨op = 3∨op = 4∨op = 5∨op = 6∨op = 7∨op = 8∨op = 9∨op = 10∨op = 11∨op = 12∨op = 13∨op = 14∨op = 15∨op = 16∨op = 17∨op = 18∨op = 19∨op = 20∨op = 21∨op = 22∨op = 23∨op = 24∨op = 25∨op = 26:=by have:=hxt.opr; omega
    have k1:=popM_v (t:=t1) (by rw [ht1]; exact h.kp)
    have k2:=popM_v k1.2
    have hp1:=popM_sk t1
    have hp2:=popM_sk (popM t1).1
    have hB2:=popR_okB 1 t1 hB1
    have hB3:=popR_okB 2 t1 hB1
    have hneed:¬ (t1.sk.length:Int) < needsI op:=by omega
    rcases hc with rfl | rfl | rfl | rfl | rfl | rfl | rfl | rfl | rfl | rfl | rfl | rfl | rfl | rfl | rfl | rfl | rfl | rfl | rfl | rfl | rfl | rfl | rfl | rfl | rfl | rfl | rfl
    ·obtain rfl:i = 0:=by have e:needsI 0 = 0:=rfl; omega
     rw [show popR 0 t1 = (t1,[]) from rfl]
     dsimp only
     refine goA ?_
     refine Call.mk ((kind166 0).only _ rfl (by rintro d rfl; rfl)) ?_; rintro d os' ⟨rfl,rfl⟩
     rw [show kindI 0 = 0 from rfl]
     refine goA ?_
     refine Call.mk ((pushed167 t1 hB1 (by omega) a).only _ rfl (by rintro d rfl; rfl)) ?_; rintro d os' ⟨rfl,rfl⟩
     refine goA ?_
     refine Ret.mk [.cell 4 42,.cell 5 138] rfl ?_; (refine goA ?_)
     rw [ex0 g s ⟨k,(pc:Int)+1,ls⟩ t1 a]
     exact ⟨_,View.same _,rfl,rfl⟩
    ·obtain rfl:i = 1:=by have e:needsI 1 = 1:=rfl; omega
     rw [show popR 1 t1 = ((popM t1).1,[(popM t1).2.1]) from rfl]
     dsimp only
     have h0:0 < t1.sk.length:=by have e:needsI 1 = 1:=rfl; omega
     refine goA ?_
     refine Call.mk ((kind166 1).only _ rfl (by rintro d rfl; rfl)) ?_; rintro d os' ⟨rfl,rfl⟩
     rw [show kindI 1 = 0 from rfl]
     refine goA ?_
     refine Ret.mk [.cell 4 42,.cell 5 138] rfl ?_; (refine goA ?_)
     rw [ex1 g s ⟨k,(pc:Int)+1,ls⟩ t1 a (by omega)]
     exact ⟨_,View.same _,rfl,rfl⟩
    ·obtain rfl:i = 1:=by have e:needsI 2 = 1:=rfl; omega
     rw [show popR 1 t1 = ((popM t1).1,[(popM t1).2.1]) from rfl]
     dsimp only
     have h0:0 < t1.sk.length:=by have e:needsI 2 = 1:=rfl; omega
     refine goA ?_
     refine Call.mk ((kind166 2).only _ rfl (by rintro d rfl; rfl)) ?_; rintro d os' ⟨rfl,rfl⟩
     rw [show kindI 2 = 0 from rfl]
     have htt:=(popM_tt (t:=t1) (by omega)).2
     have hps:pushR (popM t1).1 (popM t1).2.1 = pushT (popM t1).1 (popM t1).2.1:=by unfold pushR pushT; rw [if_neg (by omega),if_neg (by omega)]
     have hB4:(pushT (popM t1).1 (popM t1).2.1).1.okB:=by unfold pushT; rw [if_neg (by omega)]; exact ⟨hB2.1,by have:=hB2.2.1; simp; omega,hB2.2.2⟩
     have h17:=pushT_sk (popM t1).1 (popM t1).2.1 (by omega)
     refine goA ?_
     refine Call.mk ((push132 (popM t1).1 hB2 (popM t1).2.1).only _ rfl (by rintro d rfl; rfl)) ?_; rintro d os' ⟨rfl,rfl⟩
     rw [hps]
     refine goA ?_
     refine Call.mk ((pushed167 (pushT (popM t1).1 (popM t1).2.1).1 hB4 h17 (popM t1).2.1).only _ rfl (by rintro d rfl; rfl)) ?_; rintro d os' ⟨rfl,rfl⟩
     refine goA ?_
     refine Ret.mk [.cell 4 42,.cell 5 138] rfl ?_; (refine goA ?_)
     rw [ex2 g s ⟨k,(pc:Int)+1,ls⟩ t1 a (by omega) (by omega)]
     exact ⟨_,View.same _,rfl,rfl⟩
    ·obtain rfl:i = 2:=by have e:needsI 3 = 2:=rfl; omega
     rw [show popR 2 t1 = ((popM (popM t1).1).1,[(popM t1).2.1,(popM (popM t1).1).2.1]) from rfl]
     dsimp only
     have h0:1 < t1.sk.length:=by have e:needsI 3 = 2:=rfl; omega
     refine goA ?_
     refine Call.mk ((kind166 3).only _ rfl (by rintro d rfl; rfl)) ?_; rintro d os' ⟨rfl,rfl⟩
     rw [show kindI 3 = 0 from rfl]
     obtain ⟨⟨q1,q2⟩,_⟩:=k1
     obtain ⟨⟨q3,q4⟩,_⟩:=k2
     refine goA ?_
     refine Call.mk ((pushed167 (popM (popM t1).1).1 hB3 (by omega) ((popM (popM t1).1).2.1+(popM t1).2.1)).only _ rfl (by rintro d rfl; rfl)) ?_; rintro d os' ⟨rfl,rfl⟩
     refine goA ?_
     refine Ret.mk [.cell 4 42,.cell 5 138] rfl ?_; (refine goA ?_)
     rw [ex3 g s ⟨k,(pc:Int)+1,ls⟩ t1 a (by omega)]
     exact ⟨_,View.same _,rfl,rfl⟩
    ·obtain rfl:i = 2:=by have e:needsI 4 = 2:=rfl; omega
     rw [show popR 2 t1 = ((popM (popM t1).1).1,[(popM t1).2.1,(popM (popM t1).1).2.1]) from rfl]
     dsimp only
     have h0:1 < t1.sk.length:=by have e:needsI 4 = 2:=rfl; omega
     refine goA ?_
     refine Call.mk ((kind166 4).only _ rfl (by rintro d rfl; rfl)) ?_; rintro d os' ⟨rfl,rfl⟩
     rw [show kindI 4 = 0 from rfl]
     obtain ⟨⟨q1,q2⟩,_⟩:=k1
     obtain ⟨⟨q3,q4⟩,_⟩:=k2
     refine goA ?_
     refine Call.mk ((pushed167 (popM (popM t1).1).1 hB3 (by omega) ((popM (popM t1).1).2.1 - (popM t1).2.1)).only _ rfl (by rintro d rfl; rfl)) ?_; rintro d os' ⟨rfl,rfl⟩
     refine goA ?_
     refine Ret.mk [.cell 4 42,.cell 5 138] rfl ?_; (refine goA ?_)
     rw [ex4 g s ⟨k,(pc:Int)+1,ls⟩ t1 a (by omega)]
     exact ⟨_,View.same _,rfl,rfl⟩
    ·obtain rfl:i = 0:=by have e:needsI 5 = 0:=rfl; omega
     rw [show popR 0 t1 = (t1,[]) from rfl]
     dsimp only
     refine goA ?_
     refine Call.mk ((kind166 5).only _ rfl (by rintro d rfl; rfl)) ?_; rintro d os' ⟨rfl,rfl⟩
     rw [show kindI 5 = 0 from rfl]
     obtain ⟨a0,a1⟩:=hxt.lo (.inl rfl)
     dsimp only at a1
     obtain ⟨j,rfl⟩:∃ j:Nat,a = (j:Int):=⟨a.toNat,by omega⟩
     have hv:ls[j]? = some (ls[j]'(by omega)):=List.getElem?_eq_getElem (by omega)
     generalize ls[j]'(by omega) = v at hv
     refine goA ?_
     refine Call.mk ((get141 t1 s ⟨k,(pc:Int)+1,ls⟩ hfr1 (by omega) j v hv).only _ rfl (by rintro d rfl; rfl)) ?_; rintro d os' ⟨rfl,rfl⟩
     refine goA ?_
     refine Call.mk ((pushed167 t1 hB1 (by omega) v).only _ rfl (by rintro d rfl; rfl)) ?_; rintro d os' ⟨rfl,rfl⟩
     refine goA ?_
     refine Ret.mk [.cell 4 42,.cell 5 138] rfl ?_; (refine goA ?_)
     rw [ex5 g s ⟨k,(pc:Int)+1,ls⟩ t1 (j:Int) (v:=v) (by rw [Int.toNat_natCast]; exact hv)]
     exact ⟨_,View.same _,rfl,rfl⟩
    ·obtain rfl:i = 1:=by have e:needsI 6 = 1:=rfl; omega
     rw [show popR 1 t1 = ((popM t1).1,[(popM t1).2.1]) from rfl]
     dsimp only
     have h0:0 < t1.sk.length:=by have e:needsI 6 = 1:=rfl; omega
     refine goA ?_
     refine Call.mk ((kind166 6).only _ rfl (by rintro d rfl; rfl)) ?_; rintro d os' ⟨rfl,rfl⟩
     rw [show kindI 6 = 0 from rfl]
     obtain ⟨a0,a1⟩:=hxt.lo (.inr rfl)
     dsimp only at a1
     obtain ⟨j,rfl⟩:∃ j:Nat,a = (j:Int):=⟨a.toNat,by omega⟩
     refine goA ?_
     refine Call.mk ((set139 (popM t1).1 hB2 s ⟨k,(pc:Int)+1,ls⟩ (by rw [popM_fr]; exact hfr1) j (by show j < ls.length; omega) (popM t1).2.1).only _ rfl (by rintro d rfl; rfl)) ?_; rintro d os' ⟨rfl,rfl⟩
     refine goA ?_
     refine Ret.mk [.cell 4 42,.cell 5 138] rfl ?_; (refine goA ?_)
     rw [ex6 g s ⟨k,(pc:Int)+1,ls⟩ t1 (j:Int) (by omega)]
     exact ⟨_,View.same _,rfl,rfl⟩
    ·obtain rfl:i = 0:=by have e:needsI 7 = 0:=rfl; omega
     rw [show popR 0 t1 = (t1,[]) from rfl]
     dsimp only
     refine goA ?_
     refine Call.mk ((kind166 7).only _ rfl (by rintro d rfl; rfl)) ?_; rintro d os' ⟨rfl,rfl⟩
     rw [show kindI 7 = 0 from rfl]
     refine goA ?_
     refine Call.mk ((jump137 t1 hB1 s ⟨k,(pc:Int)+1,ls⟩ hfr1 a).only _ rfl (by rintro d rfl; rfl)) ?_; rintro d os' ⟨rfl,rfl⟩
     refine goA ?_
     refine Ret.mk [.cell 4 42,.cell 5 138] rfl ?_; (refine goA ?_)
     rw [ex7 g s ⟨k,(pc:Int)+1,ls⟩ t1 a]
     exact ⟨_,View.same _,rfl,rfl⟩
    ·obtain rfl:i = 1:=by have e:needsI 8 = 1:=rfl; omega
     rw [show popR 1 t1 = ((popM t1).1,[(popM t1).2.1]) from rfl]
     dsimp only
     have h0:0 < t1.sk.length:=by have e:needsI 8 = 1:=rfl; omega
     refine goA ?_
     refine Call.mk ((kind166 8).only _ rfl (by rintro d rfl; rfl)) ?_; rintro d os' ⟨rfl,rfl⟩
     rw [show kindI 8 = 0 from rfl]
     refine goA ?_
     refine Br.dec (fun hz=>?_) (fun hz=>?_)
     ·refine goA ?_
      refine Call.mk ((jump137 (popM t1).1 hB2 s ⟨k,(pc:Int)+1,ls⟩ (by rw [popM_fr]; exact hfr1) a).only _ rfl (by rintro d rfl; rfl)) ?_; rintro d os' ⟨rfl,rfl⟩
      refine goA ?_
      refine Ret.mk [.cell 4 42,.cell 5 138] rfl ?_; (refine goA ?_)
      rw [ex8 g s ⟨k,(pc:Int)+1,ls⟩ t1 a (by omega),if_pos hz]
      exact ⟨_,View.same _,rfl,rfl⟩
     ·refine goA ?_
      refine Ret.mk [.cell 4 42,.cell 5 138] rfl ?_; (refine goA ?_)
      rw [ex8 g s ⟨k,(pc:Int)+1,ls⟩ t1 a (by omega),if_neg hz]
      exact ⟨_,View.same _,rfl,rfl⟩
    ·obtain rfl:i = 0:=by have e:needsI 9 = 0:=rfl; omega
     rw [show popR 0 t1 = (t1,[]) from rfl]
     dsimp only
     refine goA ?_
     refine Call.mk ((kind166 9).only _ rfl (by rintro d rfl; rfl)) ?_; rintro d os' ⟨rfl,rfl⟩
     rw [show kindI 9 = 0 from rfl]
     obtain ⟨a0,a1⟩:=hxt.fu rfl
     obtain ⟨j,rfl⟩:∃ j:Nat,a = (j:Int):=⟨a.toNat,by omega⟩
     obtain ⟨v,hv⟩:∃ v,g.fu[j]? = some v:=⟨_,List.getElem?_eq_getElem (by omega)⟩
     have hes:enterR t1 ⟨j,0,List.replicate v.loc.toNat 0⟩ = enterT t1 ⟨j,0,List.replicate v.loc.toNat 0⟩:=by
      have:t1.fr.length≤8:=by rw [hfr1]; simp; omega
      unfold enterR enterT
      by_cases h8:t1.fr.length = 8
      ·rw [if_pos (by omega),if_pos h8]
      ·rw [if_neg (by omega),if_neg h8]
     refine goA ?_
     refine Call.mk ((enter134 g t1 hB1 j v hv (hxt.gl v (List.mem_of_getElem? hv))).only _ rfl (by rintro d rfl; rfl)) ?_; rintro d os' ⟨rfl,rfl⟩
     rw [hes]
     have hex:=ex9 g s ⟨k,(pc:Int)+1,ls⟩ t1 (j:Int) (u:=v) (by rw [Int.toNat_natCast]; exact hv)
     obtain ⟨t',b,hb⟩:∃ t' b,enterT t1 ⟨j,0,List.replicate v.loc.toNat 0⟩ = (t',b):=⟨_,_,rfl⟩
     rw [hb] at hex ⊢
     cases b with
     | true =>
      refine goA ?_
      refine Ret.mk [.cell 4 42,.cell 5 138] rfl ?_; (refine goA ?_)
      rw [hex]
      exact ⟨_,View.same _,rfl,rfl⟩
     | false =>
      refine goA ?_
      refine Call.mk ((ends164 3).only _ rfl (by rintro d rfl; rfl)) ?_; rintro d os' ⟨rfl,rfl⟩
      refine goA ?_
      refine Ret.mk [.cell 4 42,.cell 5 138] rfl ?_; (refine goA ?_)
      rw [hex]
      exact ⟨_,View.same _,rfl,rfl⟩
    ·obtain rfl:i = 0:=by have e:needsI 10 = 0:=rfl; omega
     rw [show popR 0 t1 = (t1,[]) from rfl]
     dsimp only
     refine goA ?_
     refine Call.mk ((kind166 10).only _ rfl (by rintro d rfl; rfl)) ?_; rintro d os' ⟨rfl,rfl⟩
     rw [show kindI 10 = 0 from rfl]
     refine goA ?_
     refine Call.mk ((leave135 t1 hB1 s ⟨k,(pc:Int)+1,ls⟩ hfr1).only _ rfl (by rintro d rfl; rfl)) ?_; rintro d os' ⟨rfl,rfl⟩
     by_cases hz:s = []
     ·have hb:decide (0 < s.length) = false:=decide_eq_false (by rw [hz]; simp)
      rw [hb]
      refine goA ?_
      refine Call.mk ((ends164 0).only _ rfl (by rintro d rfl; rfl)) ?_; rintro d os' ⟨rfl,rfl⟩
      refine goA ?_
      refine Ret.mk [.cell 4 42,.cell 5 138] rfl ?_; (refine goA ?_)
      rw [ex10 g s ⟨k,(pc:Int)+1,ls⟩ t1 a,if_pos hz,if_pos hz]
      exact ⟨_,View.same _,rfl,rfl⟩
     ·have hb:decide (0 < s.length) = true:=decide_eq_true (List.length_pos_iff.2 hz)
      rw [hb]
      refine goA ?_
      refine Ret.mk [.cell 4 42,.cell 5 138] rfl ?_; (refine goA ?_)
      rw [ex10 g s ⟨k,(pc:Int)+1,ls⟩ t1 a,if_neg hz,if_neg hz]
      exact ⟨_,View.same _,rfl,rfl⟩
    ·obtain rfl:i = 0:=by have e:needsI 11 = 0:=rfl; omega
     rw [show popR 0 t1 = (t1,[]) from rfl]
     dsimp only
     refine goA ?_
     refine Call.mk ((kind166 11).only _ rfl (by rintro d rfl; rfl)) ?_; rintro d os' ⟨rfl,rfl⟩
     rw [show kindI 11 = 3 from rfl]
     refine goA ?_
     refine Ret.mk [.cell 4 42,.cell 5 138] rfl ?_; (refine goA ?_)
     rw [exR g s ⟨k,(pc:Int)+1,ls⟩ t1 a (op:=11) (k:=3) rfl]
     exact ⟨_,View.same _,rfl,rfl⟩
    ·obtain rfl:i = 0:=by have e:needsI 12 = 0:=rfl; omega
     rw [show popR 0 t1 = (t1,[]) from rfl]
     dsimp only
     refine goA ?_
     refine Call.mk ((kind166 12).only _ rfl (by rintro d rfl; rfl)) ?_; rintro d os' ⟨rfl,rfl⟩
     rw [show kindI 12 = 2 from rfl]
     refine goA ?_
     refine Ret.mk [.cell 4 42,.cell 5 138] rfl ?_; (refine goA ?_)
     rw [exR g s ⟨k,(pc:Int)+1,ls⟩ t1 a (op:=12) (k:=2) rfl]
     exact ⟨_,View.same _,rfl,rfl⟩
    ·obtain rfl:i = 1:=by have e:needsI 13 = 1:=rfl; omega
     rw [show popR 1 t1 = ((popM t1).1,[(popM t1).2.1]) from rfl]
     dsimp only
     have h0:0 < t1.sk.length:=by have e:needsI 13 = 1:=rfl; omega
     refine goA ?_
     refine Call.mk ((kind166 13).only _ rfl (by rintro d rfl; rfl)) ?_; rintro d os' ⟨rfl,rfl⟩
     rw [show kindI 13 = 4 from rfl]
     refine goA ?_
     refine Ret.mk [.cell 4 42,.cell 5 138] rfl ?_; (refine goA ?_)
     rw [exQ g s ⟨k,(pc:Int)+1,ls⟩ t1 a (op:=13) (k:=4) (by omega) rfl]
     exact ⟨_,View.same _,rfl,rfl⟩
    ·obtain rfl:i = 1:=by have e:needsI 14 = 1:=rfl; omega
     rw [show popR 1 t1 = ((popM t1).1,[(popM t1).2.1]) from rfl]
     dsimp only
     have h0:0 < t1.sk.length:=by have e:needsI 14 = 1:=rfl; omega
     refine goA ?_
     refine Call.mk ((kind166 14).only _ rfl (by rintro d rfl; rfl)) ?_; rintro d os' ⟨rfl,rfl⟩
     rw [show kindI 14 = 5 from rfl]
     refine goA ?_
     refine Ret.mk [.cell 4 42,.cell 5 138] rfl ?_; (refine goA ?_)
     rw [exQ g s ⟨k,(pc:Int)+1,ls⟩ t1 a (op:=14) (k:=5) (by omega) rfl]
     exact ⟨_,View.same _,rfl,rfl⟩
    ·obtain rfl:i = 0:=by have e:needsI 15 = 0:=rfl; omega
     rw [show popR 0 t1 = (t1,[]) from rfl]
     dsimp only
     refine goA ?_
     refine Call.mk ((kind166 15).only _ rfl (by rintro d rfl; rfl)) ?_; rintro d os' ⟨rfl,rfl⟩
     rw [show kindI 15 = 6 from rfl]
     refine goA ?_
     refine Ret.mk [.cell 4 42,.cell 5 138] rfl ?_; (refine goA ?_)
     rw [exR g s ⟨k,(pc:Int)+1,ls⟩ t1 a (op:=15) (k:=6) rfl]
     exact ⟨_,View.same _,rfl,rfl⟩
    ·obtain rfl:i = 0:=by have e:needsI 16 = 0:=rfl; omega
     rw [show popR 0 t1 = (t1,[]) from rfl]
     dsimp only
     refine goA ?_
     refine Call.mk ((kind166 16).only _ rfl (by rintro d rfl; rfl)) ?_; rintro d os' ⟨rfl,rfl⟩
     rw [show kindI 16 = 7 from rfl]
     refine goA ?_
     refine Ret.mk [.cell 4 42,.cell 5 138] rfl ?_; (refine goA ?_)
     rw [exR g s ⟨k,(pc:Int)+1,ls⟩ t1 a (op:=16) (k:=7) rfl]
     exact ⟨_,View.same _,rfl,rfl⟩
    ·obtain rfl:i = 0:=by have e:needsI 17 = 0:=rfl; omega
     rw [show popR 0 t1 = (t1,[]) from rfl]
     dsimp only
     refine goA ?_
     refine Call.mk ((kind166 17).only _ rfl (by rintro d rfl; rfl)) ?_; rintro d os' ⟨rfl,rfl⟩
     rw [show kindI 17 = 8 from rfl]
     refine goA ?_
     refine Ret.mk [.cell 4 42,.cell 5 138] rfl ?_; (refine goA ?_)
     rw [exR g s ⟨k,(pc:Int)+1,ls⟩ t1 a (op:=17) (k:=8) rfl]
     exact ⟨_,View.same _,rfl,rfl⟩
    ·obtain rfl:i = 0:=by have e:needsI 18 = 0:=rfl; omega
     rw [show popR 0 t1 = (t1,[]) from rfl]
     dsimp only
     refine goA ?_
     refine Call.mk ((kind166 18).only _ rfl (by rintro d rfl; rfl)) ?_; rintro d os' ⟨rfl,rfl⟩
     rw [show kindI 18 = 9 from rfl]
     refine goA ?_
     refine Ret.mk [.cell 4 42,.cell 5 138] rfl ?_; (refine goA ?_)
     rw [exR g s ⟨k,(pc:Int)+1,ls⟩ t1 a (op:=18) (k:=9) rfl]
     exact ⟨_,View.same _,rfl,rfl⟩
    ·obtain rfl:i = 0:=by have e:needsI 19 = 0:=rfl; omega
     rw [show popR 0 t1 = (t1,[]) from rfl]
     dsimp only
     refine goA ?_
     refine Call.mk ((kind166 19).only _ rfl (by rintro d rfl; rfl)) ?_; rintro d os' ⟨rfl,rfl⟩
     rw [show kindI 19 = 10 from rfl]
     refine goA ?_
     refine Ret.mk [.cell 4 42,.cell 5 138] rfl ?_; (refine goA ?_)
     rw [exR g s ⟨k,(pc:Int)+1,ls⟩ t1 a (op:=19) (k:=10) rfl]
     exact ⟨_,View.same _,rfl,rfl⟩
    ·obtain rfl:i = 0:=by have e:needsI 20 = 0:=rfl; omega
     rw [show popR 0 t1 = (t1,[]) from rfl]
     dsimp only
     refine goA ?_
     refine Call.mk ((kind166 20).only _ rfl (by rintro d rfl; rfl)) ?_; rintro d os' ⟨rfl,rfl⟩
     rw [show kindI 20 = 11 from rfl]
     refine goA ?_
     refine Ret.mk [.cell 4 42,.cell 5 138] rfl ?_; (refine goA ?_)
     rw [exR g s ⟨k,(pc:Int)+1,ls⟩ t1 a (op:=20) (k:=11) rfl]
     exact ⟨_,View.same _,rfl,rfl⟩
    ·obtain rfl:i = 0:=by have e:needsI 21 = 0:=rfl; omega
     rw [show popR 0 t1 = (t1,[]) from rfl]
     dsimp only
     refine goA ?_
     refine Call.mk ((kind166 21).only _ rfl (by rintro d rfl; rfl)) ?_; rintro d os' ⟨rfl,rfl⟩
     rw [show kindI 21 = 12 from rfl]
     refine goA ?_
     refine Ret.mk [.cell 4 42,.cell 5 138] rfl ?_; (refine goA ?_)
     rw [exR g s ⟨k,(pc:Int)+1,ls⟩ t1 a (op:=21) (k:=12) rfl]
     exact ⟨_,View.same _,rfl,rfl⟩
    ·obtain rfl:i = 1:=by have e:needsI 22 = 1:=rfl; omega
     rw [show popR 1 t1 = ((popM t1).1,[(popM t1).2.1]) from rfl]
     dsimp only
     have h0:0 < t1.sk.length:=by have e:needsI 22 = 1:=rfl; omega
     refine goA ?_
     refine Call.mk ((kind166 22).only _ rfl (by rintro d rfl; rfl)) ?_; rintro d os' ⟨rfl,rfl⟩
     rw [show kindI 22 = 13 from rfl]
     refine goA ?_
     refine Ret.mk [.cell 4 42,.cell 5 138] rfl ?_; (refine goA ?_)
     rw [exQ g s ⟨k,(pc:Int)+1,ls⟩ t1 a (op:=22) (k:=13) (by omega) rfl]
     exact ⟨_,View.same _,rfl,rfl⟩
    ·obtain rfl:i = 0:=by have e:needsI 23 = 0:=rfl; omega
     rw [show popR 0 t1 = (t1,[]) from rfl]
     dsimp only
     refine goA ?_
     refine Call.mk ((kind166 23).only _ rfl (by rintro d rfl; rfl)) ?_; rintro d os' ⟨rfl,rfl⟩
     rw [show kindI 23 = 14 from rfl]
     refine goA ?_
     refine Ret.mk [.cell 4 42,.cell 5 138] rfl ?_; (refine goA ?_)
     rw [exR g s ⟨k,(pc:Int)+1,ls⟩ t1 a (op:=23) (k:=14) rfl]
     exact ⟨_,View.same _,rfl,rfl⟩
    ·obtain rfl:i = 0:=by have e:needsI 24 = 0:=rfl; omega
     rw [show popR 0 t1 = (t1,[]) from rfl]
     dsimp only
     refine goA ?_
     refine Call.mk ((kind166 24).only _ rfl (by rintro d rfl; rfl)) ?_; rintro d os' ⟨rfl,rfl⟩
     rw [show kindI 24 = 15 from rfl]
     refine goA ?_
     refine Ret.mk [.cell 4 42,.cell 5 138] rfl ?_; (refine goA ?_)
     rw [exR g s ⟨k,(pc:Int)+1,ls⟩ t1 a (op:=24) (k:=15) rfl]
     exact ⟨_,View.same _,rfl,rfl⟩
    ·obtain rfl:i = 1:=by have e:needsI 25 = 1:=rfl; omega
     rw [show popR 1 t1 = ((popM t1).1,[(popM t1).2.1]) from rfl]
     dsimp only
     have h0:0 < t1.sk.length:=by have e:needsI 25 = 1:=rfl; omega
     refine goA ?_
     refine Call.mk ((kind166 25).only _ rfl (by rintro d rfl; rfl)) ?_; rintro d os' ⟨rfl,rfl⟩
     rw [show kindI 25 = 16 from rfl]
     refine goA ?_
     refine Ret.mk [.cell 4 42,.cell 5 138] rfl ?_; (refine goA ?_)
     rw [exQ g s ⟨k,(pc:Int)+1,ls⟩ t1 a (op:=25) (k:=16) (by omega) rfl]
     exact ⟨_,View.same _,rfl,rfl⟩
    ·obtain rfl:i = 0:=by have e:needsI 26 = 0:=rfl; omega
     rw [show popR 0 t1 = (t1,[]) from rfl]
     dsimp only
     refine goA ?_
     refine Call.mk ((kind166 26).only _ rfl (by rintro d rfl; rfl)) ?_; rintro d os' ⟨rfl,rfl⟩
     rw [show kindI 26 = 0 from rfl]
     refine goA ?_
     refine Call.mk ((ends164 0).only _ rfl (by rintro d rfl; rfl)) ?_; rintro d os' ⟨rfl,rfl⟩
     refine goA ?_
     refine Ret.mk [.cell 4 42,.cell 5 138] rfl ?_; (refine goA ?_)
     rw [ex26 g s ⟨k,(pc:Int)+1,ls⟩ t1 a]
     exact ⟨_,View.same _,rfl,rfl⟩
theorem nils2 {ρ:Pl} {I:Im}:∀ (cs:List D) (vs:List Value),repL ρ I (cs ++ [.nils,.nils]) vs→repL ρ I (cs ++ [evs [],ints []]) vs
 | [],vs,h=>by
  obtain ⟨u,us,rfl,ha,h⟩:=repL_cons.1 h
  obtain ⟨v,vs,rfl,hb,h⟩:=repL_cons.1 h
  exact repL_cons.2 ⟨_,_,rfl,rep_nilsL 3 false ha,repL_cons.2 ⟨_,_,rfl,rep_nilsL 1 false hb,h⟩⟩
 | d :: cs,vs,h=>by
  obtain ⟨u,us,rfl,ha,h⟩:=repL_cons.1 h
  exact repL_cons.2 ⟨_,_,rfl,ha,nils2 cs us h⟩
theorem args_x (cs:List D) (q:D) (ρ:Pl) (I:Im) (vs:List Value) (h:repL ρ I [.agg (cs ++ [.nils,.nils]),q] vs):repL ρ I [.agg (cs ++ [evs [],ints []]),q] vs:=by
 obtain ⟨u,us,rfl,ha,h⟩:=repL_cons.1 h
 refine repL_cons.2 ⟨_,_,rfl,?_,h⟩
 rw [rep] at ha ⊢
 obtain ⟨arr,e,ha⟩:=ha
 exact ⟨arr,e,nils2 cs _ ha⟩
@[reducible] def xcs (g:Pg) (C:Cr) (t:Int):List D:=[.lst 2 false (g.fu.map fuD),.int .i64 g.mu,ints g.co,ints g.se,ints g.ch,.lst 1 false (g.cs.map ints),.int .i64 g.th,.int .i64 C.now,ths C.th,ints C.L.ow,ints C.L.co,lists C.bu,lists C.L.lk,lists C.L.wq,lists C.L.dq,lists C.sq,lists C.rq,.int .i64 t]
theorem wk_take (p:Int→Bool) (l:List Int) (i:Nat) (v:Int) (h:l[i]? = some v):(l.take (i+1)).filter p = if p v then (l.take i).filter p ++ [v] else (l.take i).filter p:=by
 rw [List.take_add_one,h,List.filter_append]
 cases hp:p v with
 | true=>simp [hp]
 | false=>simp [hp]
theorem step48 {g:Pg} (hg:GoodP g) {C:Cr} (h:CI g C) (t:Int):Spec Tryz.prog 48 [pgD g,coreV C,.int .i64 t] [] (fun d os'=>d = .tup [coreV (stepC g C t).1,evs (stepC g C t).2.1,ints (stepC g C t).2.2.1,.int .i64 (stepC g C t).2.2.2]∧os' = []):=by
 have h8:=g_th8 hg h.z
 have hm:(C.th.map thD).length = C.th.length:=List.length_map ..
 unfold stepC
 by_cases ht:t < 0∨(C.th.length:Int)≤t
 ·rw [if_pos ht]
  refine Spec.frz (post':=fun d=>d = .tup [coreV C,evs [],ints [],.int .i64 1]) ?_
  refine Spec.by Tryz.func48 rfl (by decide) (by decide +kernel) rfl ?_
  refine goA ?_
  refine Br.dec (fun h1=>?_) (fun h1=>?_)
  ·refine goA ?_
   refine Ret.mk [.cell 6 30,.tmp 7,.tmp 8,.tmp 9] rfl ?_; (refine goA ?_)
   exact ⟨_,View.tup (.cons (.same _) (.cons (View.nils _ _) (.cons (View.nils _ _) (.cons (.same _) .nil)))),rfl,rfl⟩
  ·have h2:(C.th.length:Int)≤t:=ht.resolve_left h1
   refine goA ?_
   refine Ret.mk [.cell 6 30,.tmp 7,.tmp 8,.tmp 9] rfl ?_; (refine goA ?_)
   exact ⟨_,View.tup (.cons (.same _) (.cons (View.nils _ _) (.cons (View.nils _ _) (.cons (.same _) .nil)))),rfl,rfl⟩
 ·rw [if_neg ht]
  obtain ⟨u,rfl⟩:∃ u:Nat,t = (u:Int):=⟨t.toNat,by omega⟩
  rw [Int.toNat_natCast]
  have hul:u < C.th.length:=by omega
  have hgu:=th_at0 hul
  by_cases h0:(thAt C u).st = 0
  ·rw [if_neg (fun h=>h h0)]
   obtain ⟨b1,b2,b3,b4⟩:=beg_all hg h hul h0
   have hgt:=thI_ready (h.at u) h0
   have hq:=rq_ok hg hgt
   have hwf:=meet_wf hg b1 hq b2 b3
   have hs:=step98 g hg (thAt C u) hgt
   have hmt:=meet94 hg b1 hq b2
   have hwd:=with95p C u hul (stepT g (thAt C u)).1 (by omega)
   have hwl:=b4.xb.wk
   have htl:=b4.xb.tl
   obtain ⟨q,hqe⟩:∃ q,(stepT g (thAt C u)).2 = q:=⟨_,rfl⟩
   obtain ⟨f,hfe⟩:∃ f,(stepT g (thAt C u)).1 = f:=⟨_,rfl⟩
   have hxb:xS g u (begX g C u) = .agg (xcs g (putT C u f) u ++ [evs [],ints []]):=by unfold begX; rw [hfe]; rfl
   rw [hxb] at hmt
   have hmt:=hmt.args (args':=[.agg (xcs g (putT C u f) u ++ [.nils,.nils]),rqD (stepT g (thAt C u)).2]) (args_x _ _)
   rw [hqe,hfe] at hs
   rw [hfe] at hwd
   rw [hqe] at hmt hwl htl hwf ⊢
   obtain ⟨y,hy⟩:∃ y,meetX g (begX g C u) u q = y:=⟨_,rfl⟩
   rw [hy] at hmt hwl htl hwf ⊢
   dsimp only
   obtain ⟨p,hp⟩:∃ p:Int→Bool,(fun k:Int=>decide (k ≠ (u:Int)) && decide ((thAt y.C k.toNat).st = 0)) = p:=⟨_,rfl⟩
   rw [hp]
   have hym:(y.C.th.map thD).length = y.C.th.length:=List.length_map ..
   have hwm:(y.wk.map (D.int .i64)).length = y.wk.length:=List.length_map ..
   refine Spec.frz (post':=fun d=>d = .tup [coreV y.C,evs y.ev,ints (y.wk.filter p),.int .i64 0]) ?_
   refine Spec.by Tryz.func48 rfl (by decide) (by decide +kernel) rfl ?_
   refine goA ?_
   refine Opt.of hgu ?_
   refine goA ?_
   refine Opt.of hgu ?_
   refine goA ?_
   refine Call.mk ((hs).only _ rfl (by rintro d rfl; rfl)) ?_; rintro d os' ⟨rfl,rfl⟩
   refine goA ?_
   refine Call.mk ((hwd).only _ rfl (by rintro d rfl; rfl)) ?_; rintro d os' ⟨rfl,rfl⟩
   refine goA ?_
   refine Call.mk ((hmt).only _ rfl (by rintro d rfl; rfl)) ?_; rintro d os' ⟨rfl,rfl⟩
   refine goR ?_
   refine Pt.weak (Weak.on [(2,.int .i64 u),(6,.ptr 2 0 10 0 0),(12,.ptr 5 0 20 0 0)] [one (.row 26 7 false [pgD g]),one (.row 30 10 false [coreV C]),one (.row 30 10 false [z30]),one (.row 42 5 false [thD f]),one (.row 138 3 false [rqD q]),one (.row 142 20 false [xS g u y])]) ?_
   refine goA ?_
   refine Loop.inv (A:=Nat × List Int) (List.range 87) (fun a=>[(2,.int .i64 u),(6,.ptr 2 0 10 0 0),(12,.ptr 5 0 20 0 0),(13,.sl 6 0 1 0 a.2.length none),(14,.int .i64 (a.1:Int))]) (fun a=>[one (.row 26 7 false [pgD g]),one (.row 30 10 false [coreV C]),one (.row 30 10 false [z30]),one (.row 42 5 false [thD f]),one (.row 138 3 false [rqD q]),one (.row 142 20 false [xS g u y]),rowI a.2]) (fun a=>a.1≤y.wk.length∧a.2 = (y.wk.take a.1).filter p) (fun a=>y.wk.length - a.1) (0,[]) ⟨Nat.zero_le _,rfl⟩ ?_ ?_
   ·refine Weak.trans (Weak.nilrow 13 rfl 3 1 true) ?_
    exact Weak.start' rfl rfl tld
   rintro ⟨i,l⟩ ⟨hi,hle⟩
   dsimp only at hi hle ⊢
   have hll:l.length≤1000:=by
    rw [hle]
    have:=List.length_filter_le p (y.wk.take i)
    rw [List.length_take] at this
    omega
   have hlm:(l.map (D.int .i64)).length = l.length:=List.length_map ..
   refine goA ?_
   refine Br.dec (fun h1=>?_) (fun h1=>?_)
   ·have hil:i < y.wk.length:=by omega
    have hget:y.wk[i]? = some y.wk[i]:=List.getElem?_eq_getElem hil
    obtain ⟨w1,w2,w3⟩:=hwf.wk _ (List.getElem_mem hil)
    obtain ⟨k,hke⟩:∃ k:Nat,y.wk[i] = (k:Int):=⟨y.wk[i].toNat,by omega⟩
    have htk:=wk_take p y.wk i k (by rw [← hke]; exact hget)
    rw [hke] at hget w2 w3
    rw [Int.toNat_natCast] at w2 w3
    have hgk:=th_at0 w2
    have hpk:p k = decide ((thAt y.C k).st = 0):=by
     rw [← hp]
     show (decide ((k:Int) ≠ (u:Int)) && decide ((thAt y.C ((k:Int)).toNat).st = 0)) = _
     rw [decide_eq_true (by omega),Int.toNat_natCast]
     rfl
    have hku:¬ (k:Int) = (u:Int):=by omega
    refine goA ?_
    refine Opt.of (get_map hget) ?_
    refine goA ?_
    refine Opt.of hgk ?_
    refine goA ?_
    refine Br.dec (fun h2=>?_) (fun h2=>?_)
    ·rw [hpk,if_pos (decide_eq_true h2),← hle] at htk
     refine goA ?_
     refine App.only false rfl rfl ?_
     refine goA ?_
     refine ⟨_,_,_,?_,⟨(i+1,l ++ [(k:Int)]),?_,rfl,rfl,rfl⟩,?_⟩
     ·show y.wk.length - (i+1) < y.wk.length - i; omega
     ·exact ⟨hil,htk.symm⟩
     ·refine Weak.trans (Weak.on [(2,.int .i64 u),(6,.ptr 2 0 10 0 0),(12,.ptr 5 0 20 0 0),(13,.sl 7 0 1 0 (l.length+1) none),(14,.int .i64 ((i:Int)+1))] [one (.row 26 7 false [pgD g]),one (.row 30 10 false [coreV C]),one (.row 30 10 false [z30]),one (.row 42 5 false [thD f]),one (.row 138 3 false [rqD q]),one (.row 142 20 false [xS g u y]),one .gone,one (.row 3 1 true (l.map (D.int .i64) ++ [.int .i64 k]))]) ?_
      rw [map1 l k,show l.length+1 = (l ++ [(k:Int)]).length by rw [List.length_append]; rfl]
      refine Weak.trans (Weak.shift 7 6 (by decide) (by simp) (bl rfl) (bl rfl) (fun j=>by cases j <;> rfl) rfl) ?_
      refine Weak.backT 7 (by simp) (by first | rfl | kernel_rfl) (by kernel_rfl) (bl rfl) tld (by kernel_rfl) (by kernel_rfl)
    ·rw [hpk,if_neg (by rw [decide_eq_false h2]; decide),← hle] at htk
     refine goA ?_
     refine ⟨_,_,_,?_,⟨(i+1,l),?_,rfl,rfl,rfl⟩,?_⟩
     ·show y.wk.length - (i+1) < y.wk.length - i; omega
     ·exact ⟨hil,htk.symm⟩
     ·refine Weak.backT 7 (by simp) (by first | rfl | kernel_rfl) (by kernel_rfl) (bl rfl) tld (by kernel_rfl) (by kernel_rfl)
   ·have hie:y.wk.take i = y.wk:=List.take_of_length_le (by omega)
    rw [hie] at hle
    rw [← hle]
    refine goA ?_
    refine Ret.mk [.cell 6 30,.tmp 7,.tmp 8,.tmp 9] rfl ?_; (refine goA ?_)
    exact ⟨_,View.tup (.cons (.same _) (.cons (.same _) (.cons (View.slAll (f:=false) rfl rfl hlm (by simp) (ViewL.same _) (pureL_map (fun _=>rfl) _)) (.cons (.same _) .nil)))),rfl,rfl⟩
  ·rw [if_pos h0]
   refine Spec.frz (post':=fun d=>d = .tup [coreV C,evs [],ints [],.int .i64 10]) ?_
   refine Spec.by Tryz.func48 rfl (by decide) (by decide +kernel) rfl ?_
   refine goA ?_
   refine Opt.of hgu ?_
   refine goA ?_
   refine Ret.mk [.cell 6 30,.tmp 7,.tmp 8,.tmp 9] rfl ?_; (refine goA ?_)
   exact ⟨_,View.tup (.cons (.same _) (.cons (View.nils _ _) (.cons (View.nils _ _) (.cons (.same _) .nil)))),rfl,rfl⟩
def selK (C:Cr) (p:Int):Int:=(inS C.th 0).getD (around p (inS C.th 0).length).toNat 0
theorem sel_at {C:Cr} {p:Int} (h:inS C.th 0 ≠ []):∃ j t:Nat,around p (inS C.th 0).length = (j:Int)∧j < (inS C.th 0).length∧(inS C.th 0)[j]? = some (t:Int)∧selK C p = (t:Int)∧t < C.th.length∧(thAt C t).st = 0:=by
 obtain ⟨j,hj,hjl⟩:=pick_at (l:=inS C.th 0) (p:=p) (List.length_pos_iff.2 h)
 obtain ⟨t,ht,htl,hst⟩:=inS_at (List.getElem?_eq_getElem hjl)
 refine ⟨j,t,hj,hjl,by rw [← ht]; exact List.getElem?_eq_getElem hjl,?_,htl,hst⟩
 unfold selK
 rw [hj,Int.toNat_natCast,List.getD_eq_getElem?_getD,List.getElem?_eq_getElem hjl,← ht]
 rfl
theorem step_wkl {g:Pg} (hg:GoodP g) {C:Cr} (h:CI g C) (t:Int):(stepC g C t).2.2.1.length≤108:=by
 unfold stepC
 split
 ·exact Nat.zero_le _
 rename_i h1
 split
 ·exact Nat.zero_le _
 rename_i h2
 obtain ⟨b1,b2,b3,b4⟩:=beg_all hg h (t:=t.toNat) (by omega) (Classical.not_not.1 h2)
 have:=b4.xb.wk
 show (List.filter _ _).length≤108
 have h3:=List.length_filter_le (fun k=>decide (k ≠ t) && decide ((thAt (meetX g (begX g C t.toNat) t.toNat (stepT g (thAt C t.toNat)).2).C k.toNat).st = 0)) (meetX g (begX g C t.toNat) t.toNat (stepT g (thAt C t.toNat)).2).wk
 omega
theorem steps88 {g:Pg} (hg:GoodP g) {C:Cr} (h:CI g C) (t:Int):Spec Tryz.prog 88 [pgD g,coreV C,coreV C,.int .i64 t] [] (fun d os'=>d = .tup [coreV (stepC g C t).1,coreV (stepC g C t).1,.bool true]∧os' = []):=by
 have hs:=step22 hg h t
 have hr:=step48 hg h t
 have hel:=step_evl hg h t
 have hwl:=step_wkl hg h t
 obtain ⟨⟨E,ev,wk,er⟩,hT⟩:∃ r,stepC g C t = r:=⟨_,rfl⟩
 rw [hT] at hs hr hel hwl ⊢
 dsimp only at hs hr hel hwl ⊢
 have h1:=same34g ev ev (by omega) (by omega)
 rw [decide_eq_true rfl] at h1
 have h2:=same50 wk wk (by omega)
 rw [decide_eq_true rfl] at h2
 refine Spec.frz (post':=fun d=>d = .tup [coreV E,coreV E,.bool true]) ?_
 refine Spec.by Tryz.func88 rfl (by decide) (by decide +kernel) rfl ?_
 refine goA ?_
 refine Call.mk ((hs).only _ rfl (by rintro d rfl; rfl)) ?_; rintro d os' ⟨rfl,rfl⟩
 refine goA ?_
 refine Call.mk ((hr).only _ rfl (by rintro d rfl; rfl)) ?_; rintro d os' ⟨rfl,rfl⟩
 refine goA ?_
 refine Call.mk ((h1).only _ rfl (by rintro d rfl; rfl)) ?_; rintro d os' ⟨rfl,rfl⟩
 refine goA ?_
 refine Call.mk ((h2).only _ rfl (by rintro d rfl; rfl)) ?_; rintro d os' ⟨rfl,rfl⟩
 refine goA ?_
 refine Ret.mk [.cell 8 30,.cell 9 30,.tmp 10] rfl ?_; (refine goA ?_)
 exact ⟨_,.same _,rfl,rfl⟩
theorem tickW_len:∀ (n:Nat) (C:Cr) (l:List Int),(tickW n C l).2.length≤l.length+n
 | 0,C,l=>by show l.length≤_; omega
 | n+1,C,l=>by
  rw [tickW]
  split
  ·show l.length≤_; omega
  ·have:=tickW_len n (upTh C (firstK C C.th.length).toNat) (l ++ [firstK C C.th.length])
   rw [List.length_append,List.length_singleton] at this
   omega
theorem tickC_len (C:Cr) (n:Int):(tickC C n).2.length≤C.th.length:=by
 have:=tickW_len C.th.length (tick0 C n) []
 show (tickW C.th.length (tick0 C n) []).2.length≤_
 rw [List.length_nil] at this
 omega
@[reducible] def tuO (g:Pg) (C:Cr):Objs:=[one (.row 26 7 false [pgD g]),one (.row 30 10 false [coreV C]),one (.row 30 10 false [coreV C]),one (.row 30 10 false [z30]),one (.row 30 10 false [z30])]
theorem turn45 {g:Pg} (hg:GoodP g) {C:Cr} (h:CI g C) (pick:Int) (hp:-9223372036854775808≤pick∧pick≤9223372036854775807) (raw:Bool):Spec Tryz.prog 45 [pgD g,coreV C,coreV C,.int .i64 pick,.bool raw] [] (fun d os'=>(∃ E,d = .tup [coreV E,coreV E,.bool true]∧CI g E∧(inS C.th 0 = []→raw = false→∃ n,E = (tickC C n).1))∧os' = []):=by
 have h8:=g_th8 hg h.z
 have hm:(C.th.map thD).length = C.th.length:=List.length_map ..
 have hI:=in19 C 0 (by omega)
 have hIm:((inS C.th 0).map (D.int .i64)).length = (inS C.th 0).length:=List.length_map ..
 have hIl:=inS_len C 0
 obtain ⟨c1,c2⟩:=around_lt pick 12 (by omega)
 have hA:=around33 pick 12 hp (by omega)
 have hnow:=h.z.now
 have hP:=tick57 hg h (around pick 12 - 1)
 have hR:=tick63 (C:=C) (by omega) (by omega) (around pick 12 - 1) (by omega)
 have htl:=tickC_len C (around pick 12 - 1)
 have hS:=same50 (tickC C (around pick 12 - 1)).2 (tickC C (around pick 12 - 1)).2 (by omega)
 rw [decide_eq_true rfl] at hS
 have hct:=tickC_ci h (around pick 12 - 1)
 refine Spec.frz (post':=fun d=>∃ E,d = .tup [coreV E,coreV E,.bool true]∧CI g E∧(inS C.th 0 = []→raw = false→∃ n,E = (tickC C n).1)) ?_
 by_cases hz:inS C.th 0 = []
 ·have hzl:((inS C.th 0).map (D.int .i64)).length = 0:=by rw [hIm,hz]; rfl
  cases raw with
  | true =>
   refine Spec.by Tryz.func45 rfl (by decide) (by decide +kernel) rfl ?_
   refine goA ?_
   refine Call.mk ((hI).only _ rfl (by rintro d rfl; rfl)) ?_; rintro d os' ⟨rfl,rfl⟩
   refine goR ?_
   refine Pt.weak (Weak.on [(3,.int .i64 pick),(4,.bool true),(5,.ptr 0 0 7 0 0),(6,.ptr 1 0 10 0 0),(7,.ptr 2 0 10 0 0),(10,.ptr 3 0 10 0 0),(11,.ptr 4 0 10 0 0),(13,ints (inS C.th 0))] (tuO g C)) ?_
   refine goA ?_
   refine Br.dec (fun h1=>?_) (fun h1=>?_)
   ·refine goA ?_
    refine Call.mk ((hA).only _ rfl (by rintro d rfl; rfl)) ?_; rintro d os' ⟨rfl,rfl⟩
    refine goA ?_
    refine Call.mk ((hP).only _ rfl (by rintro d rfl; rfl)) ?_; rintro d os' ⟨rfl,rfl⟩
    refine goA ?_
    refine Call.mk ((hR).only _ rfl (by rintro d rfl; rfl)) ?_; rintro d os' ⟨rfl,rfl⟩
    refine goA ?_
    refine Call.mk ((hS).only _ rfl (by rintro d rfl; rfl)) ?_; rintro d os' ⟨rfl,rfl⟩
    refine goA ?_
    refine Ret.mk [.cell 10 30,.cell 11 30,.tmp 12] rfl ?_; (refine goA ?_)
    exact ⟨_,.same _,rfl,_,rfl,hct,fun _ _=>⟨_,rfl⟩⟩
   ·refine goA ?_
    refine Call.mk ((hA).only _ rfl (by rintro d rfl; rfl)) ?_; rintro d os' ⟨rfl,rfl⟩
    refine goA ?_
    refine Call.mk ((hP).only _ rfl (by rintro d rfl; rfl)) ?_; rintro d os' ⟨rfl,rfl⟩
    refine goA ?_
    refine Call.mk ((hR).only _ rfl (by rintro d rfl; rfl)) ?_; rintro d os' ⟨rfl,rfl⟩
    refine goA ?_
    refine Call.mk ((hS).only _ rfl (by rintro d rfl; rfl)) ?_; rintro d os' ⟨rfl,rfl⟩
    refine goA ?_
    refine Ret.mk [.cell 10 30,.cell 11 30,.tmp 12] rfl ?_; (refine goA ?_)
    exact ⟨_,.same _,rfl,_,rfl,hct,fun _ _=>⟨_,rfl⟩⟩
  | false =>
   refine Spec.by Tryz.func45 rfl (by decide) (by decide +kernel) rfl ?_
   refine goA ?_
   refine Call.mk ((hI).only _ rfl (by rintro d rfl; rfl)) ?_; rintro d os' ⟨rfl,rfl⟩
   refine goR ?_
   refine Pt.weak (Weak.on [(3,.int .i64 pick),(4,.bool false),(5,.ptr 0 0 7 0 0),(6,.ptr 1 0 10 0 0),(7,.ptr 2 0 10 0 0),(10,.ptr 3 0 10 0 0),(11,.ptr 4 0 10 0 0),(13,ints (inS C.th 0))] (tuO g C)) ?_
   refine goA ?_
   refine Br.dec (fun h1=>?_) (fun h1=>?_)
   ·refine goA ?_
    refine Call.mk ((hA).only _ rfl (by rintro d rfl; rfl)) ?_; rintro d os' ⟨rfl,rfl⟩
    refine goA ?_
    refine Call.mk ((hP).only _ rfl (by rintro d rfl; rfl)) ?_; rintro d os' ⟨rfl,rfl⟩
    refine goA ?_
    refine Call.mk ((hR).only _ rfl (by rintro d rfl; rfl)) ?_; rintro d os' ⟨rfl,rfl⟩
    refine goA ?_
    refine Call.mk ((hS).only _ rfl (by rintro d rfl; rfl)) ?_; rintro d os' ⟨rfl,rfl⟩
    refine goA ?_
    refine Ret.mk [.cell 10 30,.cell 11 30,.tmp 12] rfl ?_; (refine goA ?_)
    exact ⟨_,.same _,rfl,_,rfl,hct,fun _ _=>⟨_,rfl⟩⟩
   ·refine goA ?_
    refine Call.mk ((hA).only _ rfl (by rintro d rfl; rfl)) ?_; rintro d os' ⟨rfl,rfl⟩
    refine goA ?_
    refine Call.mk ((hP).only _ rfl (by rintro d rfl; rfl)) ?_; rintro d os' ⟨rfl,rfl⟩
    refine goA ?_
    refine Call.mk ((hR).only _ rfl (by rintro d rfl; rfl)) ?_; rintro d os' ⟨rfl,rfl⟩
    refine goA ?_
    refine Call.mk ((hS).only _ rfl (by rintro d rfl; rfl)) ?_; rintro d os' ⟨rfl,rfl⟩
    refine goA ?_
    refine Ret.mk [.cell 10 30,.cell 11 30,.tmp 12] rfl ?_; (refine goA ?_)
    exact ⟨_,.same _,rfl,_,rfl,hct,fun _ _=>⟨_,rfl⟩⟩
 ·have hzl:0 < (inS C.th 0).length:=List.length_pos_iff.2 hz
  cases raw with
  | true =>
   have hA2:=around33 pick (C.th.length+2) hp (by omega)
   obtain ⟨d1,d2⟩:=around_lt pick (C.th.length+2) (by omega)
   have hT:=steps88 hg h (around pick (C.th.length+2) - 1)
   have hct2:=stepC_ci hg h (around pick (C.th.length+2) - 1)
   rw [← hm] at hA2 d1 d2 hT hct2
   refine Spec.by Tryz.func45 rfl (by decide) (by decide +kernel) rfl ?_
   refine goA ?_
   refine Call.mk ((hI).only _ rfl (by rintro d rfl; rfl)) ?_; rintro d os' ⟨rfl,rfl⟩
   refine goR ?_
   refine Pt.weak (Weak.on [(3,.int .i64 pick),(4,.bool true),(5,.ptr 0 0 7 0 0),(6,.ptr 1 0 10 0 0),(7,.ptr 2 0 10 0 0),(10,.ptr 3 0 10 0 0),(11,.ptr 4 0 10 0 0),(13,ints (inS C.th 0))] (tuO g C)) ?_
   refine goA ?_
   refine Br.dec (fun h1=>?_) (fun h1=>?_)
   ·refine goA ?_
    refine Call.mk ((hA).only _ rfl (by rintro d rfl; rfl)) ?_; rintro d os' ⟨rfl,rfl⟩
    refine goA ?_
    refine Call.mk ((hP).only _ rfl (by rintro d rfl; rfl)) ?_; rintro d os' ⟨rfl,rfl⟩
    refine goA ?_
    refine Call.mk ((hR).only _ rfl (by rintro d rfl; rfl)) ?_; rintro d os' ⟨rfl,rfl⟩
    refine goA ?_
    refine Call.mk ((hS).only _ rfl (by rintro d rfl; rfl)) ?_; rintro d os' ⟨rfl,rfl⟩
    refine goA ?_
    refine Ret.mk [.cell 10 30,.cell 11 30,.tmp 12] rfl ?_; (refine goA ?_)
    exact ⟨_,.same _,rfl,_,rfl,hct,fun h _=>absurd h hz⟩
   ·refine goA ?_
    refine Call.mk ((hA2).only _ rfl (by rintro d rfl; rfl)) ?_; rintro d os' ⟨rfl,rfl⟩
    refine goA ?_
    refine Call.mk ((hT).only _ rfl (by rintro d rfl; rfl)) ?_; rintro d os' ⟨rfl,rfl⟩
    refine goA ?_
    refine Ret.mk [.cell 10 30,.cell 11 30,.tmp 12] rfl ?_; (refine goA ?_)
    exact ⟨_,.same _,rfl,_,rfl,hct2,fun h _=>absurd h hz⟩
  | false =>
   obtain ⟨j,t,hj,hjl,hjt,hsel,htl2,hst⟩:=sel_at (p:=pick) hz
   have hA2:=around33 pick (inS C.th 0).length hp (by omega)
   rw [hj,← hIm] at hA2
   have hT:=steps88 hg h t
   have hct2:=stepC_ci hg h t
   refine Spec.by Tryz.func45 rfl (by decide) (by decide +kernel) rfl ?_
   refine goA ?_
   refine Call.mk ((hI).only _ rfl (by rintro d rfl; rfl)) ?_; rintro d os' ⟨rfl,rfl⟩
   refine goR ?_
   refine Pt.weak (Weak.on [(3,.int .i64 pick),(4,.bool false),(5,.ptr 0 0 7 0 0),(6,.ptr 1 0 10 0 0),(7,.ptr 2 0 10 0 0),(10,.ptr 3 0 10 0 0),(11,.ptr 4 0 10 0 0),(13,ints (inS C.th 0))] (tuO g C)) ?_
   refine goA ?_
   refine Call.mk ((hA2).only _ rfl (by rintro d rfl; rfl)) ?_; rintro d os' ⟨rfl,rfl⟩
   refine goA ?_
   refine Opt.of (get_map hjt) ?_
   refine goA ?_
   refine Call.mk ((hT).only _ rfl (by rintro d rfl; rfl)) ?_; rintro d os' ⟨rfl,rfl⟩
   refine goA ?_
   refine Ret.mk [.cell 10 30,.cell 11 30,.tmp 12] rfl ?_; (refine goA ?_)
   exact ⟨_,.same _,rfl,_,rfl,hct2,fun h _=>absurd h hz⟩
def rdyT (f:Th):Th:={ f with st:=0,on:=0 }
def JP (x y:Xs) (k:Nat):Prop:=thAt y.C k = thAt x.C k∨∃ u:Nat,(thAt x.C k).on = (u:Int)∧(thAt y.C u).st = 9∧((thAt y.C k).st = 9∨((tellT (rdyT (thAt x.C k)) [(thAt y.C u).code]).2 = true∧thAt y.C k = (tellT (rdyT (thAt x.C k)) [(thAt y.C u).code]).1))
def JR (t:Nat) (x y:Xs):Prop:=∀ k,k ≠ t→(thAt x.C k).st = 2→JP x y k
def DD (x y:Xs):Prop:=∀ j,(thAt x.C j).st = 9→thAt y.C j = thAt x.C j
theorem JP.more {x y z:Xs} {k:Nat} (h:JP x y k) (h2:(thAt x.C k).st = 2) (hz:(thAt y.C k).st = 2→JP y z k) (hk:(thAt y.C k).st ≠ 2→thAt z.C k = thAt y.C k) (hd:DD y z):JP x z k:=by
 rcases h with h | ⟨u,h3,h4,h5⟩
 ·have h6:=hz (by rw [h]; exact h2)
  unfold JP at h6 ⊢
  rw [h] at h6
  exact h6
 ·have hne:(thAt y.C k).st ≠ 2:=by
   rcases h5 with h5 | ⟨h5,h6⟩
   ·omega
   ·rw [h6,(tellT_st h5).1]; show (0:Int) ≠ 2; decide
  have ek:=hk hne
  have eu:=hd u h4
  exact .inr ⟨u,h3,by rw [eu]; exact h4,by rw [ek,eu]; exact h5⟩
theorem DD.trans {x y z:Xs} (h:DD x y) (h2:DD y z):DD x z:=fun j hj=>by rw [h2 j (by rw [h j hj]; exact hj),h j hj]
theorem DD.tame {u:Nat} {x y:Xs} (h:Tame u x y) (hu:(thAt x.C u).st ≠ 9):DD x y:=fun j hj=>h.stay j (by rintro rfl; exact hu hj) (by omega)
theorem JR.trans {t:Nat} {x y z:Xs} (h:JR t x y) (h2:JR t y z) (hs:Sti t y z) (hd:DD y z):JR t x z:=fun k hk h3=>(h k hk h3).more h3 (fun h4=>h2 k hk h4) (fun h4=>by
 rcases h k hk h3 with e | ⟨u,_,_,h5⟩
 ·rw [e] at h4; exact absurd h3 h4
 ·refine hs.stay k hk ?_
  rcases h5 with h5 | ⟨h5,h6⟩
  ·exact .inr (.inr h5)
  ·exact .inl (by rw [h6,(tellT_st h5).1]; rfl)) hd
structure JS (t:Nat) (x y:Xs):Prop where
 jr:JR t x y
 st:Sti t x y
 dd:DD x y
theorem JS.trans {t:Nat} {x y z:Xs} (h:JS t x y) (h2:JS t y z):JS t x z:=⟨h.jr.trans h2.jr h2.st h2.dd,h.st.trans h2.st,h.dd.trans h2.dd⟩
structure EvM (x y:Xs):Prop where
 len:x.ev.length≤y.ev.length
 die:∀ j,(thAt x.C j).st ≠ 9→(thAt y.C j).st = 9→x.ev.length < y.ev.length
theorem EvM.trans {x y z:Xs} (h:EvM x y) (h2:EvM y z):EvM x z:=by
 refine ⟨Nat.le_trans h.len h2.len,fun j h3 h4=>?_⟩
 by_cases h5:(thAt y.C j).st = 9
 ·exact Nat.lt_of_lt_of_le (h.die j h3 h5) h2.len
 ·exact Nat.lt_of_le_of_lt h.len (h2.die j h5 h4)
structure JE (t:Nat) (x y:Xs):Prop where
 js:JS t x y
 ev:EvM x y
theorem JE.trans {t:Nat} {x y z:Xs} (h:JE t x y) (h2:JE t y z):JE t x z:=⟨h.js.trans h2.js,h.ev.trans h2.ev⟩
structure JF (t:Nat) (x y:Xs):Prop where
 jr:JR t x y
 ev:EvM x y
theorem JE.f {t:Nat} {x y:Xs} (h:JE t x y):JF t x y:=⟨h.js.jr,h.ev⟩
theorem wakeF_stayT {x:Xs} {u:Int} (hu:TSt x u) {t:Nat} (h0:(thAt x.C t).st = 0) (l:List Int):thAt (wakeF x u l).C t = thAt x.C t:=by
 by_cases hu0:0≤u
 ·have h1:=hu hu0
  refine wakeF_stay (fun e=>?_) (by omega)
  rw [← e,Int.toNat_natCast] at h1
  omega
 ·unfold wakeF
  rw [if_pos (by omega)]
theorem end_beg {C:Cr} {t:Nat} {c:Int}:endF ⟨putT C t (endT c),[],[],[]⟩ t c = endF ⟨C,[],[],[]⟩ t c:=by
 show endX 100 ⟨putT C t (endT c),[],[],[]⟩ t c = endX 100 ⟨C,[],[],[]⟩ t c
 have ed:deadX ⟨putT C t (endT c),[],[],[]⟩ t c = deadX ⟨C,[],[],[]⟩ t c:=by
  unfold deadX
  dsimp only
  rw [putT_put]
 rw [endX,endX,ed]
 show (List.range (putT C t (endT c)).th.length).foldl _ _ = _
 rw [putT_len]
def nd (C:Cr):Nat:=C.th.countP (fun f=>decide (f.st = 9))
def cE (ev:List Ev):Nat:=ev.countP (fun e=>decide (e.1 = 2))
def cS (ev:List Ev):Nat:=ev.countP (fun e=>decide (e.1 = 1) && decide (0≤e.2.2))
structure EnS (x y:Xs):Prop where
 nd:nd y.C+cE x.ev = nd x.C+cE y.ev
 sp:y.C.th.length+cS x.ev = x.C.th.length+cS y.ev
theorem EnS.trans {x y z:Xs} (h:EnS x y) (h2:EnS y z):EnS x z:=⟨by have:=h.nd; have:=h2.nd; omega,by have:=h.sp; have:=h2.sp; omega⟩
theorem en_refl (x:Xs):EnS x x:=⟨rfl,rfl⟩
theorem nd_put (C:Cr) (t:Nat) (f:Th) (ht:t < C.th.length):nd (putT C t f)+(if (thAt C t).st = 9 then 1 else 0) = nd C+(if f.st = 9 then 1 else 0):=by
 have e:thAt C t = C.th[t]:=thAt_lt ht
 unfold nd putT
 dsimp only
 rw [List.countP_set ht,e]
 have hp:(if (decide (C.th[t].st = 9)) = true then 1 else 0)≤C.th.countP (fun f=>decide (f.st = 9)):=by
  split
  ·rename_i h; exact List.countP_pos_iff.2 ⟨_,List.getElem_mem ht,h⟩
  ·omega
 simp only [decide_eq_true_eq] at hp ⊢
 omega
theorem en_put {x:Xs} {t:Nat} {f:Th} {wk wp:List Int} (h9:(thAt x.C t).st ≠ 9) (hf:f.st ≠ 9):EnS x ⟨putT x.C t f,x.ev,wk,wp⟩:=by
 have ht:=lt_of_st h9
 have:=nd_put x.C t f ht
 rw [if_neg h9,if_neg hf] at this
 exact ⟨by show V.nd (putT x.C t f)+cE x.ev = V.nd x.C+cE x.ev; omega,by show (putT x.C t f).th.length + _ = _; rw [putT_len]⟩
theorem en_dead {x:Xs} {t:Nat} (c:Int) (h9:(thAt x.C t).st ≠ 9):EnS x (deadX x t c):=by
 have ht:=lt_of_st h9
 have:=nd_put x.C t (endT c) ht
 rw [if_neg h9,if_pos (show (endT c).st = 9 from rfl)] at this
 refine ⟨?_,?_⟩
 ·show V.nd (putT x.C t (endT c))+cE x.ev = V.nd x.C+cE (x.ev ++ [(2,(t:Int),c)])
  unfold cE
  rw [List.countP_append]
  have e1:List.countP (fun e:Ev=>decide (e.1 = 2)) [(2,(t:Int),c)] = 1:=rfl
  omega
 ·show (putT x.C t (endT c)).th.length+cS x.ev = x.C.th.length+cS (x.ev ++ [(2,(t:Int),c)])
  rw [putT_len]
  unfold cS
  rw [List.countP_append]
  rfl
def EnE (E:Xs→Nat→Int→Xs):Prop:=∀ x t c,(thAt x.C t).st ≠ 9→EnS x (E x t c)
theorem en_tell {E:Xs→Nat→Int→Xs} (hE:EnE E) (x:Xs) (t:Nat) (l:List Int) (h9:(thAt x.C t).st ≠ 9):EnS x (tellE E x t l).1:=by
 unfold tellE
 split
 ·rename_i h
  exact en_put h9 (by rw [(tellT_st h).1]; exact h9)
 ·exact hE x t 2 h9
theorem en_wakeE {E:Xs→Nat→Int→Xs} (hE:EnE E) (x:Xs) (t:Nat) (l:List Int) (h9:(thAt x.C t).st ≠ 9):EnS x (wakeE E x t l):=by
 have ht:=lt_of_st h9
 have h1:EnS x (restX { x with wk:=x.wk ++ [(t:Int)] } t 0 0):=en_put h9 (by show (0:Int) ≠ 9; decide)
 have h2:=en_tell hE (restX { x with wk:=x.wk ++ [(t:Int)] } t 0 0) t l (by rw [rest_st0 { x with wk:=x.wk ++ [(t:Int)] } t ht]; decide)
 unfold wakeE
 split
 ·exact ⟨(h1.trans h2).nd,(h1.trans h2).sp⟩
 ·exact h1.trans h2
theorem en_fold {E:Xs→Nat→Int→Xs} (hE:EnE E) (t:Nat) (c:Int):∀ (l:List Nat) (y:Xs),EnS y (l.foldl (endR E t c) y)
 | [],y=>en_refl y
 | k :: l,y=>by
  rw [List.foldl_cons]
  refine EnS.trans ?_ (en_fold hE t c l _)
  unfold endR
  split
  ·rename_i hj
   exact en_wakeE hE y k [c] (by have:=(joins_lt hj).2; omega)
  ·exact en_refl y
theorem en_endX:∀ n,EnE (endX n)
 | 0=>fun x t c h9=>en_dead c h9
 | n+1=>fun x t c h9=>by
  rw [endX]
  exact (en_dead c h9).trans (en_fold (en_endX n) t c _ _)
theorem en_inC {x:Xs} {C':Cr} (h:C'.th = x.C.th):EnS x (inC x C'):=⟨by show nd C' + _ = _; unfold nd; rw [h]; rfl,by show C'.th.length + _ = _; rw [h]; rfl⟩
theorem en_rest {u:Nat} {x:Xs} {st on:Int} (h9:(thAt x.C u).st ≠ 9) (hs:st ≠ 9):EnS x (restX x u st on):=en_put h9 hs
theorem en_wake {x:Xs} {u:Int} (hu:TSt x u) (l:List Int):EnS x (wakeF x u l):=by
 unfold wakeF
 split
 ·exact en_refl x
 ·have:=hu (by omega)
  exact en_wakeE (en_endX FU) x u.toNat l (by omega)
theorem en_end {t:Nat} {x:Xs} (h9:(thAt x.C t).st ≠ 9) (c:Int):EnS x (endF x t c):=en_endX FU x t c h9
theorem en_tellF {t:Nat} {x:Xs} (h0:(thAt x.C t).st = 0) (l:List Int):EnS x (tellF x t l):=en_tell (en_endX FU) x t l (by omega)
theorem en_moved {x:Xs} {u m:Int} {has:Bool} (hu:TSt x u) (h0:0≤u):EnS x (movedX x u m has):=by
 unfold movedX
 split
 ·exact en_wake hu []
 ·have:=hu h0
  exact en_rest (by omega) (by decide)
theorem en_moves (m got:Int):∀ (l:List Int) (x:Xs),l.Nodup→(∀ v ∈ l,0≤v∧(thAt x.C v.toNat).st = 4)→EnS x (l.foldl (movedL m got) x)
 | [],x,_,_=>en_refl x
 | v :: l,x,hd,hs=>by
  obtain ⟨hv,hv4⟩:=hs v List.mem_cons_self
  have hd':=List.nodup_cons.1 hd
  rw [List.foldl_cons]
  refine EnS.trans (en_moved (u:=v) (m:=m) (has:=decide (v = got)) (fun _=>by omega) hv) (en_moves m got l _ hd'.2 (fun w hw=>?_))
  obtain ⟨hw0,hw4⟩:=hs w (List.mem_cons_of_mem _ hw)
  refine ⟨hw0,?_⟩
  have hne:((w.toNat:Nat):Int) ≠ v:=by
   intro e
   have:w = v:=by omega
   exact hd'.1 (this ▸ hw)
  show (thAt (movedX x v m (decide (v = got))).C w.toNat).st = 4
  rw [movedX_stay hne hv (by omega)]
  exact hw4
theorem en_taken {t:Nat} {x:Xs} {C':Cr} (h:C'.th = x.C.th) (h0:(thAt x.C t).st = 0) {v:Int} (hv:TSt x v) (l l':List Int):EnS x (wakeF (tellF (inC x C') t l) v l'):=by
 have e:∀ k,thAt (inC x C').C k = thAt x.C k:=fun k=>thAt_th h k
 refine (en_inC h).trans ((en_tellF (by rw [e]; exact h0) l).trans (en_wake (fun hv0=>?_) l'))
 have h1:=hv hv0
 have hne:v.toNat ≠ t:=by intro e; rw [e] at h1; omega
 rw [tellF_stay (by rw [e]; exact h0) hne (by rw [e]; omega),e]
 exact h1
theorem meet_en {g:Pg} (hg:GoodP g) {t:Nat} {x:Xs} (h:MI g t x) {q:Rq} (hq:RqOk g q) (h1:q.kd ≠ 1) (h0:(thAt x.C t).st = 0):EnS x (meetX g x t q):=by
 have ht:=h.tl
 have he:=h.eo hg
 have hz:=h.z.L
 have h9:(thAt x.C t).st ≠ 9:=by omega
 obtain ⟨kd,a,v⟩:=q
 obtain ⟨q1,q2,q3,q4,q5,q6,q7,q8⟩:=hq
 dsimp only at q1 q2 q3 q4 q5 q6 q7 q8 h1
 have hid:EnS x x:=en_refl x
 have hL:∀ S:Lk,EnS x (inL x S):=fun S=>en_inC (C':={ x.C with L:=S }) rfl
 have hr:∀ (y:Xs) (st on:Int),thAt y.C t = thAt x.C t→st ≠ 9→EnS y (restX y t st on):=fun y st on e hs=>en_rest (by rw [e]; exact h9) hs
 have hc:kd = 0∨kd = 2∨kd = 3∨kd = 4∨kd = 5∨kd = 6∨kd = 7∨kd = 8∨kd = 9∨kd = 10∨kd = 11∨kd = 12∨kd = 13∨kd = 14∨kd = 15∨kd = 16:=by omega
 rcases hc with rfl | rfl | rfl | rfl | rfl | rfl | rfl | rfl | rfl | rfl | rfl | rfl | rfl | rfl | rfl | rfl
 ·exact hid
 ·exact hid
 ·show EnS x (spawnX g x t a)
  unfold spawnX
  split
  ·refine EnS.trans (y:=seeX x 1 t (-1)) ⟨?_,?_⟩ (en_tellF (x:=seeX x 1 t (-1)) (t:=t) h0 [-1])
   ·show nd x.C+cE x.ev = nd x.C+cE (x.ev ++ [(1,(t:Int),-1)])
    unfold cE
    rw [List.countP_append]
    rfl
   ·show x.C.th.length+cS x.ev = x.C.th.length+cS (x.ev ++ [(1,(t:Int),-1)])
    unfold cS
    rw [List.countP_append]
    rfl
  ·obtain ⟨y,hy⟩:∃ y:Xs,{ seeX { x with C:={ x.C with th:=x.C.th ++ [newT g a] } } 1 t x.C.th.length with wk:=x.wk ++ [(x.C.th.length:Int)],wp:=x.wp ++ [(x.C.th.length:Int)] } = y:=⟨_,rfl⟩
   have hyC:y.C = { x.C with th:=x.C.th ++ [newT g a] }:=by rw [← hy]; rfl
   have hyE:y.ev = x.ev ++ [(1,(t:Int),(x.C.th.length:Int))]:=by rw [← hy]; rfl
   rw [hy]
   refine EnS.trans (y:=y) ⟨?_,?_⟩ (en_tellF (by rw [hyC,thAt_app,if_neg (by omega)]; exact h0) _)
   ·rw [hyC,hyE]
    show (x.C.th ++ [newT g a]).countP _+cE x.ev = x.C.th.countP _+cE (x.ev ++ _)
    unfold cE
    rw [List.countP_append,List.countP_append]
    rfl
   ·rw [hyC,hyE]
    show (x.C.th ++ [newT g a]).length+cS x.ev = x.C.th.length+cS (x.ev ++ _)
    unfold cS
    rw [List.countP_append,List.length_append,List.countP_cons,List.countP_nil,if_pos (by simp),List.length_singleton]
    omega
 ·show EnS x (sleepX x t v)
  unfold sleepX
  split
  ·exact hr x _ _ rfl (by decide)
  ·exact hid
 ·show EnS x (joinX x t v)
  unfold joinX
  split
  ·exact en_end h9 5
  ·split
   ·exact en_tellF h0 _
   ·exact hr x _ _ rfl (by decide)
 ·show EnS x (lockX x t a)
  unfold lockX
  dsimp only
  split
  ·exact hL _
  ·exact (hL _).trans (hr _ _ _ rfl (by decide))
 ·show EnS x (unlockX x t a)
  unfold unlockX
  dsimp only
  split
  ·exact (hL _).trans (en_wake ((unlock_ts h a.toNat t).inL (unlockS x.C.L a.toNat t).1) [])
  ·exact en_end h9 4
 ·show EnS x (waitX g x t a)
  unfold waitX
  dsimp only
  split
  ·have hw:=(wait_ts h a.toNat (g.co.getD a.toNat 0).toNat t).inL (waitS x.C.L a.toNat (g.co.getD a.toNat 0).toNat t).1
   have e:=wakeF_stayT (x:=inL x (waitS x.C.L a.toNat (g.co.getD a.toNat 0).toNat t).1) hw (t:=t) h0 []
   exact (hL _).trans ((en_wake hw []).trans (hr _ _ _ (by rw [e]; rfl) (by decide)))
  ·exact en_end h9 4
 ·show EnS x (signalX g x a)
  unfold signalX
  dsimp only
  split
  ·exact hid
  ·rename_i hn
   exact (hL _).trans (en_moved ((signal_ts h a.toNat (g.co.getD a.toNat 0).toNat).inL (signalS x.C.L a.toNat (g.co.getD a.toNat 0).toNat).1) (by omega))
 ·have:=q5 (.inr (.inr rfl))
  have hco:=hg.co _ (getD_mem (l:=g.co) (e:=a.toNat) (by omega))
  have hall:=broad_all he.L he.N (c:=a.toNat) (m:=(g.co.getD a.toNat 0).toNat) (by show a.toNat < g.co.length; omega) (by show (g.co.getD a.toNat 0).toNat < g.mu.toNat; omega)
  show EnS x (broadX g x a)
  unfold broadX
  dsimp only
  rw [hall]
  refine (hL _).trans (en_moves _ _ _ _ (nodup_wq h _) (fun v hv=>?_))
  obtain ⟨h1,h2⟩:=row_st h (r:=1) (by omega) (k:=a.toNat) (v:=v) hv
  refine ⟨h1,?_⟩
  show (thAt x.C v.toNat).st = 4
  omega
 ·show EnS x (downX x t a)
  unfold downX
  dsimp only
  split
  ·exact hL _
  ·exact (hL _).trans (hr _ _ _ rfl (by decide))
 ·show EnS x (upX x a)
  unfold upX
  dsimp only
  exact (hL _).trans (en_wake ((up_ts h a.toNat).inL (upS x.C.L a.toNat).1) [])
 ·show EnS x (sendX g x t a v)
  have hs:=(send_ts h a.toNat (g.ch.getD a.toNat 0) (t:Int) v).inC (sendC_th x.C a.toNat (g.ch.getD a.toNat 0) (t:Int) v).1
  have hi:EnS x (inC x (sendC x.C a.toNat (g.ch.getD a.toNat 0) (t:Int) v).1):=en_inC (sendC_th x.C a.toNat (g.ch.getD a.toNat 0) (t:Int) v).1
  unfold sendX
  dsimp only
  split
  ·exact hi.trans (hr _ _ _ (thAt_th (sendC_th x.C a.toNat (g.ch.getD a.toNat 0) (t:Int) v).1 t) (by decide))
  ·split
   ·exact hi
   ·split
    ·exact hi.trans (en_wake hs _)
    ·exact hi.trans (en_wake hs _)
 ·show EnS x (recvX x t a)
  unfold recvX
  dsimp only
  split
  ·exact (en_inC (selC_th x.C [a] (t:Int)).1).trans (hr _ _ _ (thAt_th (selC_th x.C [a] (t:Int)).1 t) (by decide))
  ·exact en_taken (selC_th x.C [a] (t:Int)).1 h0 (sel_ts h [a] (t:Int)) _ _
 ·show EnS x (chooseX g x t a)
  unfold chooseX
  dsimp only
  split
  ·exact (en_inC (selC_th x.C (qAt g.cs a.toNat) (t:Int)).1).trans (hr _ _ _ (thAt_th (selC_th x.C (qAt g.cs a.toNat) (t:Int)).1 t) (by decide))
  ·exact en_taken (selC_th x.C (qAt g.cs a.toNat) (t:Int)).1 h0 (sel_ts h (qAt g.cs a.toNat) (t:Int)) _ _
 ·refine (show EnS x (seeX x 0 t v) from ⟨?_,?_⟩)
  ·show nd x.C+cE x.ev = nd x.C+cE (x.ev ++ [(0,(t:Int),v)])
   unfold cE
   rw [List.countP_append]
   rfl
  ·show x.C.th.length+cS x.ev = x.C.th.length+cS (x.ev ++ [(0,(t:Int),v)])
   unfold cS
   rw [List.countP_append]
   rfl
theorem step_en {g:Pg} (hg:GoodP g) {C:Cr} (h:CI g C) {t:Nat} (ht:t < C.th.length) (h0:(thAt C t).st = 0):nd (stepC g C t).1 = nd C+cE (stepC g C t).2.1∧(stepC g C t).1.th.length = C.th.length+cS (stepC g C t).2.1:=by
 have key:EnS ⟨C,[],[],[]⟩ (meetX g (begX g C t) t (stepT g (thAt C t)).2):=by
  obtain ⟨b1,b2,b3,b4⟩:=beg_all hg h ht h0
  have hgt:=thI_ready (h.at t) h0
  rcases step_ok hg hgt with ⟨h1,h2,_⟩ | ⟨c,hc,hr⟩
  ·have hm:=meet_en hg b1 (rq_ok hg hgt) h1 (b2 h1)
   refine EnS.trans (y:=begX g C t) ?_ hm
   exact en_put (x:=⟨C,[],[],[]⟩) (by show (thAt C t).st ≠ 9; omega) (by rw [h2.st]; decide)
  ·unfold begX
   rw [hr]
   show EnS _ (endF ⟨putT C t (endT c),[],[],[]⟩ t c)
   rw [end_beg]
   exact en_end (x:=⟨C,[],[],[]⟩) (by show (thAt C t).st ≠ 9; omega) c
 unfold stepC
 rw [if_neg (by omega),Int.toNat_natCast,if_neg (fun hn=>hn h0)]
 dsimp only
 have k1:=key.nd
 have k2:=key.sp
 have z1:cE [] = 0:=rfl
 have z2:cS [] = 0:=rfl
 dsimp only at k1 k2
 rw [z1] at k1
 rw [z2] at k2
 exact ⟨by omega,by omega⟩
theorem range_getD {α:Type} (T:List α) (d:α):(List.range T.length).map (fun k=>T.getD k d) = T:=by
 refine List.ext_getElem (by simp) (fun i h1 h2=>?_)
 rw [List.getElem_map,List.getElem_range,List.getD_eq_getElem?_getD,List.getElem?_eq_getElem h2]
 rfl
theorem inS_nd (C:Cr):(inS C.th 9).length = nd C:=by
 unfold inS nd
 rw [List.length_map,← List.countP_eq_length_filter]
 have h:=range_getD C.th (⟨9,0,[],[],0⟩:Th)
 have h2:C.th.countP (fun f=>decide (f.st = 9)) = ((List.range C.th.length).map (fun k=>C.th.getD k ⟨9,0,[],[],0⟩)).countP (fun f=>decide (f.st = 9)):=by rw [h]
 rw [h2,List.countP_map]
 rfl
theorem up_nd {C:Cr} {u:Nat} (hu:u < C.th.length) (h1:(thAt C u).st = 1):nd (upTh C u) = nd C:=by
 have:=nd_put C u { thAt C u with st:=0,on:=0 } hu
 rw [if_neg (by omega),if_neg (show ¬ (0:Int) = 9 by decide)] at this
 exact this
theorem tickW_nd:∀ (n:Nat) (C:Cr) (l:List Int),nd (tickW n C l).1 = nd C
 | 0,C,l=>rfl
 | n+1,C,l=>by
  rw [tickW]
  split
  ·rfl
  ·rename_i h0
   rcases firstK_at C C.th.length with e | ⟨u,e,hu,h1,_⟩
   ·rw [e] at h0; exact absurd (by decide) h0
   ·rw [e,Int.toNat_natCast,tickW_nd n _ _,up_nd hu h1]
theorem tick_nd (C:Cr) (n:Int):nd (tickC C n).1 = nd C∧(tickC C n).1.th.length = C.th.length:=by
 have hth:(tick0 C n).th = C.th:=by unfold tick0; split <;> rfl
 unfold tickC
 refine ⟨?_,?_⟩
 ·rw [tickW_nd]
  unfold nd
  rw [hth]
 ·rw [(tickW_now _ _ _).2,hth]
@[reducible] def ceO (p g:Pg) (C:Cr):Objs:=[one (.row 26 7 false [pgD p]),one (.row 26 7 false [pgD g]),one (.row 30 10 false [coreV C]),one (.row 30 10 false [coreV C])]
theorem ev_take (ev:List Ev) (j:Nat) (e:Ev) (h:ev[j]? = some e):cE (ev.take (j+1)) = cE (ev.take j)+(if e.1 = 2 then 1 else 0)∧cS (ev.take (j+1)) = cS (ev.take j)+(if e.1 = 1∧0≤e.2.2 then 1 else 0):=by
 rw [List.take_add_one,h]
 unfold cE cS
 rw [List.countP_append,List.countP_append]
 simp only [Option.toList,List.countP_cons,List.countP_nil,decide_eq_true_eq,Bool.and_eq_true]
 exact ⟨by omega,by omega⟩
theorem law12c (p:Pg) (hp:p.okB) (l:List Int) (hl:lok l):Spec Tryz.prog 12 [pgD p,ints l] [] (fun d os'=>d = .bool true∧os' = []):=by
 have hlm:(l.map (D.int .i64)).length = l.length:=List.length_map ..
 obtain ⟨hl1,hl2⟩:=hl
 refine Spec.frz (post':=fun d=>d = .bool true) ?_
 refine Spec.by Tryz.func12 rfl (by decide) (by decide +kernel) rfl ?_
 refine goA ?_
 refine Call.mk ((good29 p hp).only _ rfl (by rintro d ⟨g,_,rfl⟩; rfl)) ?_
 rintro d os' ⟨⟨g,hg,rfl⟩,rfl⟩
 refine goA ?_
 refine Call.mk (((new44 hg)).only _ rfl (by rintro d rfl; rfl)) ?_; rintro d os' ⟨rfl,rfl⟩
 refine goA ?_
 refine Call.mk (((new18 hg)).only _ rfl (by rintro d rfl; rfl)) ?_; rintro d os' ⟨rfl,rfl⟩
 refine goA ?_
 refine Loop.inv (A:=Nat × Cr) (List.range 181) (fun a=>[(1,ints l),(4,.bool false),(5,.ptr 1 0 7 0 0),(6,.ptr 2 0 10 0 0),(7,.ptr 3 0 10 0 0),(8,.int .i64 (nd a.2:Int)),(9,.int .i64 (a.2.th.length:Int)),(10,.int .i64 (a.1:Int))]) (fun a=>ceO p g a.2) (fun a=>a.1≤l.length∧CI g a.2) (fun a=>l.length - a.1) (0,newC g) ⟨Nat.zero_le _,newC_ci hg⟩ ?_ ?_
 ·exact Weak.start' rfl rfl tld
 rintro ⟨i,C⟩ ⟨hi,hci⟩
 dsimp only at hi hci ⊢
 have h8:=g_th8 hg hci.z
 have hI:=in19 C 0 (by omega)
 have hIl:=inS_len C 0
 have hIm:((inS C.th 0).map (D.int .i64)).length = (inS C.th 0).length:=List.length_map ..
 refine goA ?_
 refine Br.dec (fun h1=>?_) (fun h1=>?_)
 ·refine goA ?_
  refine Br.dec (fun h2=>?_) (fun h2=>?_)
  ·have hil:i < l.length:=by omega
   have hget:(l.map (D.int .i64))[i]? = some (.int .i64 l[i]):=get_map (List.getElem?_eq_getElem hil)
   have hlb:=hl2 _ (List.getElem_mem hil)
   by_cases hz:inS C.th 0 = []
   ·have hzl:((inS C.th 0).map (D.int .i64)).length = 0:=by rw [hIm,hz]; rfl
    have hT:=turn45 hg hci l[i] hlb false
    refine goA ?_
    refine Call.mk ((hI).only _ rfl (by rintro d rfl; rfl)) ?_; rintro d os' ⟨rfl,rfl⟩
    refine goA ?_
    refine Opt.of hget ?_
    refine goA ?_
    refine Call.mk (hT.only _ rfl (by rintro d ⟨E,rfl,_⟩; rfl)) ?_
    rintro d os' ⟨⟨E,rfl,hE,hEt⟩,rfl⟩
    obtain ⟨m,hm⟩:=hEt hz rfl
    obtain ⟨e1,e2⟩:=tick_nd C m
    rw [← hm] at e1 e2
    refine goA ?_
    refine ⟨_,_,_,?_,⟨(i+1,E),?_,rfl,rfl,rfl⟩,?_⟩
    ·show l.length - (i+1) < l.length - i; omega
    ·exact ⟨hil,hE⟩
    ·rw [show (nd C:Int) = (nd E:Int) by rw [e1],show (C.th.length:Int) = (E.th.length:Int) by rw [e2]]
     refine Weak.backT 4 (by simp) (by first | rfl | kernel_rfl) (by kernel_rfl) (bl rfl) tld (by kernel_rfl) (by kernel_rfl)
   ·have hnz:0 < (inS C.th 0).length:=List.length_pos_iff.2 hz
    obtain ⟨j,t,hj,hjl,hjt,hsel,htl,hst⟩:=sel_at (p:=l[i]) hz
    have hA:=around33 l[i] (inS C.th 0).length hlb (by omega)
    rw [hj,← hIm] at hA
    have hS:=step22 hg hci t
    have hR:=step48 hg hci t
    obtain ⟨s1,s2,s3,s4⟩:=step_sti hg hci htl hst
    obtain ⟨n1,n2⟩:=step_en hg hci htl hst
    have hcx:=stepC_ci hg hci t
    have hel:=step_evl hg hci t
    rw [s1] at hS hR
    obtain ⟨⟨X,ev,wk,er⟩,hX⟩:∃ r,stepC g C t = r:=⟨_,rfl⟩
    rw [hX] at hS hR s2 s3 s4 hcx n1 n2 hel
    dsimp only at hS hR s2 s3 s4 hcx n1 n2 hel
    have hxm:(X.th.map thD).length = X.th.length:=List.length_map ..
    have hcm:(C.th.map thD).length = C.th.length:=List.length_map ..
    have hem:(ev.map evD).length = ev.length:=List.length_map ..
    have hx8:=g_th8 hg hcx.z
    have hI9:=in19 X 9 (by omega)
    have hI9m:((inS X.th 9).map (D.int .i64)).length = nd X:=by rw [List.length_map,inS_nd]
    have hxt:=hcx.z.tl
    refine goA ?_
    refine Call.mk ((hI).only _ rfl (by rintro d rfl; rfl)) ?_; rintro d os' ⟨rfl,rfl⟩
    refine goA ?_
    refine Opt.of hget ?_
    refine goA ?_
    refine Call.mk ((hA).only _ rfl (by rintro d rfl; rfl)) ?_; rintro d os' ⟨rfl,rfl⟩
    refine goA ?_
    refine Opt.of (get_map hjt) ?_
    refine goA ?_
    refine Call.mk ((hS).only _ rfl (by rintro d rfl; rfl)) ?_; rintro d os' ⟨rfl,rfl⟩
    refine goA ?_
    refine Call.mk ((hR).only _ rfl (by rintro d rfl; rfl)) ?_; rintro d os' ⟨rfl,rfl⟩
    refine goR ?_
    refine Pt.weak (Weak.on [(1,ints l),(4,.bool false),(5,.ptr 1 0 7 0 0),(6,.ptr 2 0 10 0 0),(7,.ptr 3 0 10 0 0),(8,.int .i64 (nd C:Int)),(9,.int .i64 (C.th.length:Int)),(10,.int .i64 (i:Int)),(16,.ptr 4 0 10 0 0),(17,evs ev),(19,.int .i64 0),(20,.ptr 5 0 10 0 0)] (ceO p g C ++ [one (.row 30 10 false [coreV X]),one (.row 30 10 false [coreV X])])) ?_
    refine goA ?_
    refine Loop.inv (A:=Nat) (List.range 181) (fun k=>[(1,ints l),(4,.bool false),(5,.ptr 1 0 7 0 0),(6,.ptr 2 0 10 0 0),(7,.ptr 3 0 10 0 0),(8,.int .i64 (nd C:Int)),(9,.int .i64 (C.th.length:Int)),(10,.int .i64 (i:Int)),(16,.ptr 4 0 10 0 0),(17,evs ev),(20,.ptr 5 0 10 0 0),(24,.int .i64 (k:Int))]) (fun _=>ceO p g C ++ [one (.row 30 10 false [coreV X]),one (.row 30 10 false [coreV X])]) (fun k=>k≤C.th.length) (fun k=>C.th.length - k) 0 (Nat.zero_le _) ?_ ?_
    ·exact Weak.start' rfl rfl tld
    rintro k hk
    dsimp only at hk ⊢
    refine goA ?_
    refine Br.dec (fun h4=>?_) (fun h4=>?_)
    ·have hkl:k < C.th.length:=by omega
     have hgk:=th_at0 hkl
     have hgx:=th_at0 (C:=X) (t:=k) (by omega)
     refine goA ?_
     refine Opt.of hgk ?_
     refine goA ?_
     refine Br.dec (fun h5=>?_) (fun h5=>?_)
     ·have hkt:k ≠ t:=by rintro rfl; omega
      have e:=s4 k hkl hkt (.inr (.inr h5))
      rw [e] at hgx
      have hsm:=same53 (thAt C k) (thAt C k) (thI_okS hg (hci.at k))
      rw [show decide (thAt C k = thAt C k) = true from decide_eq_true rfl] at hsm
      refine goA ?_
      refine Opt.of hgk ?_
      refine goA ?_
      refine Opt.of hgx ?_
      refine goA ?_
      refine Call.mk ((hsm).only _ rfl (by rintro d rfl; rfl)) ?_; rintro d os' ⟨rfl,rfl⟩
      refine goA ?_
      refine ⟨_,_,_,?_,⟨k+1,?_,rfl,rfl,rfl⟩,?_⟩
      ·show C.th.length - (k+1) < C.th.length - k; omega
      ·show k+1≤C.th.length; omega
      ·refine Weak.backT 6 (by simp) (by first | rfl | kernel_rfl) (by kernel_rfl) (bl rfl) tld (by kernel_rfl) (by kernel_rfl)
     ·refine goA ?_
      refine ⟨_,_,_,?_,⟨k+1,?_,rfl,rfl,rfl⟩,?_⟩
      ·show C.th.length - (k+1) < C.th.length - k; omega
      ·show k+1≤C.th.length; omega
      ·refine Weak.backT 6 (by simp) (by first | rfl | kernel_rfl) (by kernel_rfl) (bl rfl) tld (by kernel_rfl) (by kernel_rfl)
    ·refine goA ?_
     refine Loop.inv (A:=Nat) (List.range 181) (fun j=>[(1,ints l),(4,.bool false),(5,.ptr 1 0 7 0 0),(6,.ptr 2 0 10 0 0),(7,.ptr 3 0 10 0 0),(8,.int .i64 ((nd C+cE (ev.take j):Nat):Int)),(9,.int .i64 ((C.th.length+cS (ev.take j):Nat):Int)),(10,.int .i64 (i:Int)),(17,evs ev),(25,.int .i64 (j:Int))]) (fun _=>ceO p g X) (fun j=>j≤ev.length) (fun j=>ev.length - j) 0 (Nat.zero_le _) ?_ ?_
     ·refine Weak.trans (Weak.on [(1,ints l),(4,.bool false),(5,.ptr 1 0 7 0 0),(6,.ptr 2 0 10 0 0),(7,.ptr 3 0 10 0 0),(8,.int .i64 (nd C:Int)),(9,.int .i64 (C.th.length:Int)),(10,.int .i64 (i:Int)),(17,evs ev),(25,.int .i64 0)] (ceO p g X ++ [one (.row 30 10 false [coreV X]),one (.row 30 10 false [coreV X])])) ?_
      refine Weak.trans (Weak.fin (sl:=[(1,ints l),(4,.bool false),(5,.ptr 1 0 7 0 0),(6,.ptr 2 0 10 0 0),(7,.ptr 3 0 10 0 0),(8,.int .i64 (nd C:Int)),(9,.int .i64 (C.th.length:Int)),(10,.int .i64 (i:Int)),(17,evs ev),(25,.int .i64 0)]) (os:=ceO p g X) 4) ?_
      exact Weak.start' rfl rfl tld
     rintro j hj2
     dsimp only at hj2 ⊢
     have hce:cE (ev.take j)≤ev.length:=by
      have:=List.countP_le_length (l:=ev.take j) (p:=fun e=>decide (e.1 = 2))
      rw [List.length_take] at this
      have h:cE (ev.take j) = List.countP (fun e=>decide (e.1 = 2)) (ev.take j):=rfl
      omega
     have hcs:cS (ev.take j)≤ev.length:=by
      have:=List.countP_le_length (l:=ev.take j) (p:=fun e=>decide (e.1 = 1) && decide (0≤e.2.2))
      rw [List.length_take] at this
      have h:cS (ev.take j) = List.countP (fun e=>decide (e.1 = 1) && decide (0≤e.2.2)) (ev.take j):=rfl
      omega
     have hnC:nd C≤C.th.length:=List.countP_le_length
     refine goA ?_
     refine Br.dec (fun h5=>?_) (fun h5=>?_)
     ·have hjl2:j < ev.length:=by omega
      have hgj:ev[j]? = some ev[j]:=List.getElem?_eq_getElem hjl2
      obtain ⟨k1,k2⟩:=ev_take ev j _ hgj
      refine goA ?_
      refine Opt.of (get_map hgj) ?_
      refine goA ?_
      refine Br.dec (fun h6=>?_) (fun h6=>?_)
      ·rw [if_pos h6] at k1
       rw [if_neg (fun h=>by omega)] at k2
       refine goA ?_
       refine Opt.of (get_map hgj) ?_
       refine goA ?_
       refine ⟨_,_,_,?_,⟨j+1,?_,rfl,rfl,rfl⟩,?_⟩
       ·show ev.length - (j+1) < ev.length - j; omega
       ·show j+1≤ev.length; omega
       ·rw [k1,k2]
        refine Weak.backT 4 (by simp) (by first | rfl | kernel_rfl) (by kernel_rfl) (bl rfl) tld (by kernel_rfl) (by kernel_rfl)
      ·rw [if_neg h6] at k1
       refine goA ?_
       refine Opt.of (get_map hgj) ?_
       refine goA ?_
       refine Br.dec (fun h7=>?_) (fun h7=>?_)
       ·refine goA ?_
        refine Opt.of (get_map hgj) ?_
        refine goA ?_
        refine Br.dec (fun h9=>?_) (fun h9=>?_)
        ·rw [if_pos ⟨h7,h9⟩] at k2
         refine goA ?_
         refine ⟨_,_,_,?_,⟨j+1,?_,rfl,rfl,rfl⟩,?_⟩
         ·show ev.length - (j+1) < ev.length - j; omega
         ·show j+1≤ev.length; omega
         ·rw [k1,k2]
          refine Weak.backT 4 (by simp) (by first | rfl | kernel_rfl) (by kernel_rfl) (bl rfl) tld (by kernel_rfl) (by kernel_rfl)
        ·rw [if_neg (fun h=>h9 h.2)] at k2
         refine goA ?_
         refine ⟨_,_,_,?_,⟨j+1,?_,rfl,rfl,rfl⟩,?_⟩
         ·show ev.length - (j+1) < ev.length - j; omega
         ·show j+1≤ev.length; omega
         ·rw [k1,k2]
          refine Weak.backT 4 (by simp) (by first | rfl | kernel_rfl) (by kernel_rfl) (bl rfl) tld (by kernel_rfl) (by kernel_rfl)
       ·rw [if_neg (fun h=>h7 h.1)] at k2
        refine goA ?_
        refine ⟨_,_,_,?_,⟨j+1,?_,rfl,rfl,rfl⟩,?_⟩
        ·show ev.length - (j+1) < ev.length - j; omega
        ·show j+1≤ev.length; omega
        ·rw [k1,k2]
         refine Weak.backT 4 (by simp) (by first | rfl | kernel_rfl) (by kernel_rfl) (bl rfl) tld (by kernel_rfl) (by kernel_rfl)
     ·have hje:ev.take j = ev:=List.take_of_length_le (by omega)
      rw [hje,← n1,← n2]
      refine goA ?_
      refine Call.mk ((hI9).only _ rfl (by rintro d rfl; rfl)) ?_; rintro d os' ⟨rfl,rfl⟩
      refine goA ?_
      refine ⟨_,_,_,?_,⟨(i+1,X),?_,rfl,rfl,rfl⟩,?_⟩
      ·show l.length - (i+1) < l.length - i; omega
      ·exact ⟨hil,hcx⟩
      ·refine Weak.backT 4 (by simp) (by first | rfl | kernel_rfl) (by kernel_rfl) (bl rfl) tld (by kernel_rfl) (by kernel_rfl)
  ·refine goA ?_
   refine Call.mk ((lives23).only _ rfl (by rintro d rfl; rfl)) ?_; rintro d os' ⟨rfl,rfl⟩
   refine goA ?_
   refine Ret.mk [.tmp 4] rfl ?_; (refine goA ?_)
   exact ⟨_,.same _,rfl,rfl⟩
 ·refine goA ?_
  refine Call.mk ((lives23).only _ rfl (by rintro d rfl; rfl)) ?_; rintro d os' ⟨rfl,rfl⟩
  refine goA ?_
  refine Ret.mk [.tmp 4] rfl ?_; (refine goA ?_)
  exact ⟨_,.same _,rfl,rfl⟩
theorem law12 (p:Pg) (hp:p.okB) (l:List Int) (hl:lok l):Spec Tryz.prog 12 [pgD p,ints l] [] (fun d os'=>d = .bool true):=(law12c p hp l hl).mono (fun d os' h=>h.1)
end Go.Proofs.YtkceciebmkklpaaGreat.V
section
namespace Go.Proofs.YtkceciebmkklpaaGreat.V
open Go Go.Proofs Go.RowKit Go.ChangeShapes Go.WideShapes Go.ChangeAt
set_option maxRecDepth 100000
theorem b3:Tryz.prog.bytesOf 3 = 8:=by kernel_rfl
theorem b23:Tryz.prog.bytesOf 23 = 24:=by kernel_rfl
theorem b45:Tryz.prog.bytesOf 68 = 32:=by kernel_rfl
theorem b139:Tryz.prog.bytesOf 65 = 16:=by kernel_rfl
theorem opens_i:Opens Tryz.prog 3 (D.int .i64) I64:=by
 refine opens_iso (opens_int Tryz.underlying3) (fun x=>x) (fun x=>rfl) (fun x hx=>hx)
theorem opens_is:Opens Tryz.prog 23 ints lok:=by
 refine opens_iso (opens_slice Tryz.underlying23 opens_i (sz:=1) (by kernel_rfl) (by decide)) (fun x=>x) (fun x=>rfl) (fun x hx=>?_)
 have h1:=hx.2.1
 rw [b3] at h1
 exact ⟨h1,hx.2.2⟩
theorem opens_iss:Opens Tryz.prog 24 (fun l:List (List Int)=>.lst 1 false (l.map ints)) (fun l=>l.length * 24≤140737488351232∧∀ x ∈ l,lok x):=by
 refine opens_iso (opens_slice Tryz.underlying24 opens_is (sz:=1) (by kernel_rfl) (by decide)) (fun x=>x) (fun x=>rfl) (fun x hx=>?_)
 have h1:=hx.2.1
 rw [b23] at h1
 exact ⟨h1,hx.2.2⟩
theorem opens_in:Opens Tryz.prog 65 inD (fun x=>I64 x.1∧I64 x.2):=by
 refine opens_iso (opens_struct (P:=Tryz.prog) (t:=65) Tryz.underlying65 (by kernel_rfl) (opensL_cons opens_i (opensL_one opens_i))) (fun x=>(x.1,x.2)) (fun x=>rfl) (fun x hx=>hx)
theorem opens_fu:Opens Tryz.prog 68 fuD (fun f=>I64 f.loc∧f.code.length * 16≤140737488351232∧∀ x ∈ f.code,I64 x.1∧I64 x.2):=by
 refine opens_iso (opens_struct (P:=Tryz.prog) (t:=68) Tryz.underlying68 (by kernel_rfl) (opensL_cons opens_i (opensL_one (opens_slice Tryz.underlying63 opens_in (sz:=2) (by kernel_rfl) (by decide))))) (fun x=>(⟨x.1,x.2⟩:Fu)) (fun x=>rfl) (fun x hx=>?_)
 have h1:=hx.2.2.1
 rw [b139] at h1
 exact ⟨hx.1,h1,hx.2.2.2⟩
theorem opens_pg:Opens Tryz.prog 26 pgD Pg.okB:=by
 refine opens_iso (opens_struct (P:=Tryz.prog) (t:=26) Tryz.underlying26 (by kernel_rfl) (opensL_cons (opens_slice Tryz.underlying22 opens_fu (sz:=2) (by kernel_rfl) (by decide)) (opensL_cons opens_i (opensL_cons opens_is (opensL_cons opens_is (opensL_cons opens_is (opensL_cons opens_iss (opensL_one opens_i))))))))
  (fun x=>(⟨x.1,x.2.1,x.2.2.1,x.2.2.2.1,x.2.2.2.2.1,x.2.2.2.2.2.1,x.2.2.2.2.2.2⟩:Pg)) (fun x=>rfl) (fun x hx=>?_)
 obtain ⟨h1,h2,h3,h4,h5,h6,h7⟩:=hx
 have h12:=h1.2.1
 rw [b45] at h12
 exact ⟨h12,h1.2.2,h2,h3,h4,h5,h6.1,h6.2,h7⟩
end Go.Proofs.YtkceciebmkklpaaGreat.V
end
