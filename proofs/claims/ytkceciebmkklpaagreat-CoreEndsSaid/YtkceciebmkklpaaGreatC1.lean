/- C1: a text of a symbolic executor that is proved sound, and contracts that are proved with it. -/
import Derived.Test.YtkceciebmkklpaaGreatVA
import Derived.Test.YtkceciebmkklpaaGreatVB
import Derived.Test.YtkceciebmkklpaaGreatVT
import Derived.Test.YtkceciebmkklpaaGreatVC
import Derived.Test.YtkceciebmkklpaaGreatC0
import Derived.Laws.Bits64
set_option linter.unusedVariables false
set_option linter.unusedSimpArgs false
namespace Go.Proofs.YtkceciebmkklpaaGreat.V
open Go Go.Proofs
set_option maxRecDepth 100000
set_option maxHeartbeats 40000000
@[reducible] def endT (c:Int):Th:=⟨9,0,[],[],c⟩
theorem ends164 (c:Int):Spec Tryz.prog 133 [.int .i64 c] [] (fun d os'=>d = .tup [thD (endT c),rqD ⟨1,0,c⟩]∧os' = []):=by
 refine Spec.frz (post':=fun d=>d = .tup [thD (endT c),rqD ⟨1,0,c⟩]) ?_
 refine Spec.by Tryz.func133 rfl (by decide) (by decide +kernel) rfl ?_
 refine goA ?_
 refine Call.mk ((end34 c).only _ rfl (by rintro d rfl; rfl)) ?_; rintro d os' ⟨rfl,rfl⟩
 refine goA ?_
 refine Ret.mk [.cell 2 42,.cell 3 138] rfl ?_; (refine goA ?_)
 exact ⟨_,View.same _,rfl,rfl⟩
def needsI (op:Int):Int:=if op = 1∨op = 2∨op = 6∨op = 8∨op = 13∨op = 14∨op = 22∨op = 25 then 1 else if op = 3∨op = 4 then 2 else 0
theorem needs165 (op:Int):Spec Tryz.prog 135 [.int .i64 op] [] (fun d os'=>d = .int .i64 (needsI op)∧os' = []):=by
 refine Spec.by Tryz.func135 rfl (by decide) (by decide +kernel) rfl ?_
 refine goA ?_
 repeat' (refine Br.dec (fun _=>?_) (fun _=>?_) <;> ((refine goA ?_)))
 all_goals
  refine Ret.mk [.tmp _] rfl ?_
  (conv=>whnf)
  refine ⟨?_,rfl⟩
  congr 1
  unfold needsI
  simp [*]
def kindI (op:Int):Int:=if op = 12 then 2 else if op = 11 then 3 else if op = 13 then 4 else if op = 14 then 5 else if op = 15 then 6 else if op = 16 then 7 else if op = 17 then 8 else if op = 18 then 9 else if op = 19 then 10 else if op = 20 then 11 else if op = 21 then 12 else if op = 22 then 13 else if op = 23 then 14 else if op = 24 then 15 else if op = 25 then 16 else 0
theorem kind166 (op:Int):Spec Tryz.prog 137 [.int .i64 op] [] (fun d os'=>d = .int .i64 (kindI op)∧os' = []):=by
 refine Spec.by Tryz.func137 rfl (by decide) (by decide +kernel) rfl ?_
 refine goA ?_
 repeat' (refine Br.dec (fun _=>?_) (fun _=>?_) <;> ((refine goA ?_)))
 all_goals
  refine Ret.mk [.tmp _] rfl ?_
  (conv=>whnf)
  refine ⟨?_,rfl⟩
  congr 1
  unfold kindI
  simp [*]
theorem pushed167 (t:Th) (ht:t.okB) (hsk:t.sk.length≤16) (v:Int):Spec Tryz.prog 138 [thD t,.int .i64 v] [] (fun d os'=>d = .tup [thD (if (pushT t v).2 then (pushT t v).1 else endT 2),rqD (if (pushT t v).2 then ⟨0,0,0⟩ else ⟨1,0,2⟩)]∧os' = []):=by
 have hps:pushR t v = pushT t v:=by
  unfold pushR pushT
  by_cases h:t.sk.length = 16
  ·rw [if_pos (by omega),if_pos h]
  ·rw [if_neg (by omega),if_neg h]
 refine Spec.frz (post':=fun d=>d = .tup [thD (if (pushT t v).2 then (pushT t v).1 else endT 2),rqD (if (pushT t v).2 then ⟨0,0,0⟩ else ⟨1,0,2⟩)]) ?_
 refine Spec.by Tryz.func138 rfl (by decide) (by decide +kernel) rfl ?_
 refine goA ?_
 refine Call.mk ((push132 t ht v).only _ rfl (by rintro d rfl; rfl)) ?_; rintro d os' ⟨rfl,rfl⟩
 rw [hps]
 obtain ⟨t',b,hb⟩:∃ t' b,pushT t v = (t',b):=⟨_,_,rfl⟩
 rw [hb]
 cases b with
 | true =>
  refine goA ?_
  refine Ret.mk [.cell 4 42,.cell 5 138] rfl ?_; (refine goA ?_)
  exact ⟨_,View.same _,rfl,rfl⟩
 | false =>
  refine goA ?_
  refine Call.mk ((ends164 2).only _ rfl (by rintro d rfl; rfl)) ?_; rintro d os' ⟨rfl,rfl⟩
  refine goA ?_
  refine Ret.mk [.cell 4 42,.cell 5 138] rfl ?_; (refine goA ?_)
  exact ⟨_,View.same _,rfl,rfl⟩
theorem pop133m (t:Th) (ht:t.okB):Spec Tryz.prog 136 [thD t] [] (fun d os'=>d = .tup [thD (popM t).1,.int .i64 (popM t).2.1,.bool (popM t).2.2]∧os' = []):=by
 by_cases hk:t.sk = []
 ·rw [popM_nil hk]; exact pop133e t hk
 ·obtain ⟨l,n,hln⟩:∃ l n,t.sk = l ++ [n]:=⟨t.sk.dropLast,t.sk.getLast hk,(List.dropLast_concat_getLast hk).symm⟩
  rw [popM_snoc hln]
  exact pop133 t ht l n hln
def popR:Nat→Th→Th × List Int
 | 0,t=>(t,[])
 | n+1,t=>((popM (popR n t).1).1,(popR n t).2 ++ [(popM (popR n t).1).2.1])
theorem popR_len:∀ (n:Nat) (t:Th),(popR n t).2.length = n
 | 0,t=>rfl
 | n+1,t=>by simp [popR,popR_len n t]
theorem popR_fr:∀ (n:Nat) (t:Th),(popR n t).1.fr = t.fr
 | 0,t=>rfl
 | n+1,t=>by simp only [popR]; rw [popM_fr,popR_fr n t]
theorem popR_sk:∀ (n:Nat) (t:Th),(popR n t).1.sk.length≤t.sk.length
 | 0,t=>Nat.le_refl _
 | n+1,t=>by simp only [popR]; exact Nat.le_trans (popM_sk _) (popR_sk n t)
theorem popR_okB (n:Nat) (t:Th) (h:t.okB):(popR n t).1.okB:=by
 obtain ⟨h1,h2,h3⟩:=h
 refine ⟨by rw [popR_fr]; exact h1,?_,by rw [popR_fr]; exact h3⟩
 have:=popR_sk n t
 omega
theorem does162' (os:Objs):Spec Tryz.prog 105 [] os (fun d os'=>d = .mp os.length 0∧os' = os ++ [one (.map doesM)]):=by
 refine (does162.onto os rfl).mono ?_
 rintro d os' ⟨d1,os1,⟨rfl,rfl⟩,rfl,rfl⟩
 exact ⟨rfl,rfl⟩
def stepX (x:Th × Int × Rq):Th × Rq:=if 0≤x.2.1 then (endT x.2.1,⟨1,0,x.2.1⟩) else (x.1,x.2.2)
def stepT (g:Pg) (t:Th):Th × Rq :=
 match t.fr.getLast? with
 | none=>(t,nq)
 | some f=>match fetchI g f with
  | (x,true)=>stepX (execM g t.fr.dropLast ⟨f.fn,f.pc+1,f.ls⟩ { t with fr:=t.fr.dropLast ++ [⟨f.fn,f.pc+1,f.ls⟩] } x.1 x.2)
  | (_,false)=>(endT 6,⟨1,0,6⟩)
theorem stepT_go {g:Pg} {t:Th} {s:List Fm} {f:Fm} {x:Int × Int} (hs:t.fr = s ++ [f]) (hx:fetchI g f = (x,true)):stepT g t = stepX (execM g s ⟨f.fn,f.pc+1,f.ls⟩ { t with fr:=s ++ [⟨f.fn,f.pc+1,f.ls⟩] } x.1 x.2):=by
 have h1:t.fr.getLast? = some f:=by rw [hs]; simp
 have h2:t.fr.dropLast = s:=by rw [hs]; simp
 simp only [stepT,h1,hx,h2]
theorem stepT_off {g:Pg} {t:Th} {s:List Fm} {f:Fm} {x:Int × Int} (hs:t.fr = s ++ [f]) (hx:fetchI g f = (x,false)):stepT g t = (endT 6,⟨1,0,6⟩):=by
 have h1:t.fr.getLast? = some f:=by rw [hs]; simp
 simp only [stepT,h1,hx]
structure ST (g:Pg) (t:Th) (s:List Fm) (k pc:Nat) (ls:List Int) (u:Fu):Prop where
 fr:t.fr = s ++ [⟨k,pc,ls⟩]
 sl:s.length≤7
 hu:g.fu[k]? = some u
 pcl:pc≤u.code.length
 lsl:(ls.length:Int) = u.loc
 kl:kept ls = true
 sk:t.sk.length≤16
 kp:∀ v ∈ t.sk,kept2 v
theorem ST.of {g:Pg} {t:Th} (ht:GoodT g t):∃ s k pc ls u,ST g t s k pc ls u:=by
 have hfl:=ht.fl
 have hne:t.fr ≠ []:=fun e=>by rw [e] at hfl; simp at hfl
 obtain ⟨s,f,hs⟩:∃ s f,t.fr = s ++ [f]:=⟨t.fr.dropLast,t.fr.getLast hne,(List.dropLast_concat_getLast hne).symm⟩
 have hsn:t.fr.length = s.length+1:=by rw [hs]; simp
 have hof:=ht.fr f (by rw [hs]; simp)
 obtain ⟨fn,fpc,ls⟩:=f
 obtain ⟨k,pc,u,hfn,hpc,hu,hpcl,hls,hkp⟩:=odd_inv hof
 dsimp only at hfn hpc hls hkp
 subst hfn hpc
 exact ⟨s,k,pc,ls,u,hs,by omega,hu,hpcl,hls,hkp,ht.sk,(kept_iff _).1 ht.kp⟩
theorem fetch_in {g:Pg} {k pc:Nat} {ls:List Int} {u:Fu} (hu:g.fu[k]? = some u) {x:Int × Int} (h:fetchI g ⟨k,pc,ls⟩ = (x,true)):x ∈ u.code∧pc < u.code.length:=by
 unfold fetchI at h
 dsimp only at h
 rw [Int.toNat_natCast,hu] at h
 dsimp only at h
 rw [Int.toNat_natCast] at h
 cases hc:u.code[pc]? with
 | none=>rw [hc] at h; cases h
 | some y =>
  rw [hc] at h
  cases h
  exact ⟨List.mem_of_getElem? hc,(List.getElem?_eq_some_iff.1 hc).1⟩
theorem xt_of {g:Pg} (hg:GoodP g) {t:Th} {s:List Fm} {k pc:Nat} {ls:List Int} {u:Fu} (h:ST g t s k pc ls u) {op a:Int} (hx:fetchI g ⟨k,pc,ls⟩ = ((op,a),true)) :
  XT g s ⟨k,(pc:Int)+1,ls⟩ { t with fr:=s ++ [⟨k,(pc:Int)+1,ls⟩] } op a:=by
 obtain ⟨hm,hpl⟩:=fetch_in h.hu hx
 obtain ⟨q1,q2,q3⟩:=hg.fu u (List.mem_of_getElem? h.hu)
 have hin:=q3 _ hm
 obtain ⟨i1,i2,i3,i4,i5,_⟩:=hin
 have:=h.lsl
 exact ⟨rfl,by have:=h.sl; omega,h.sk,h.kp,by show ls.length≤_; omega,i1,fun ho=>by have:=i3 ho; dsimp only at this ⊢; omega,fun ho=>by have:=i5 (.inl ho); dsimp only at this ⊢; omega,fun v hv=>by have:=(hg.fu v hv).1; omega⟩
theorem step97 (g:Pg) (hg:GoodP g) (t:Th) (ht:GoodT g t):Spec Tryz.prog 64 [pgD g,thD t] [] (fun d os'=>d = .tup [thD (stepT g t).1,rqD (stepT g t).2]∧os' = []):=by
 refine Spec.frz (post':=fun d=>d = .tup [thD (stepT g t).1,rqD (stepT g t).2]) ?_
 obtain ⟨s,k,pc,ls,u,h⟩:=ST.of ht
 have hs:=h.fr
 have hsl:=h.sl
 have hget:t.fr[((((t.fr.map frD).length:Nat):Int) - 1).toNat]? = some ⟨k,pc,ls⟩:=by
  have e:((((t.fr.map frD).length:Nat):Int) - 1).toNat = s.length:=by rw [List.length_map,hs]; simp
  rw [e,hs]; simp
 have hlm:(t.fr.map frD).length = s.length+1:=by rw [List.length_map,hs]; simp
 refine Spec.by Tryz.func64 rfl (by decide) (by decide +kernel) rfl ?_
 refine goA ?_
 refine Call.mk ((fetch161 g t s k pc ls u h.hu hs (by omega)).only _ rfl (by rintro d rfl; rfl)) ?_; rintro d os' ⟨rfl,rfl⟩
 obtain ⟨⟨op,a⟩,b,hx⟩:∃ x b,fetchI g ⟨k,pc,[]⟩ = (x,b):=⟨_,_,rfl⟩
 rw [hx]
 have hx':fetchI g ⟨k,pc,ls⟩ = ((op,a),b):=hx
 cases b with
 | false =>
  rw [stepT_off hs hx']
  refine goA ?_
  refine Call.mk ((end55 t 6).only _ rfl (by rintro d rfl; rfl)) ?_; rintro d os' ⟨rfl,rfl⟩
  refine goA ?_
  refine Ret.mk [.cell 4 42,.cell 5 107] rfl ?_; (refine goA ?_)
  exact ⟨_,View.same _,rfl,rfl⟩
 | true =>
  rw [stepT_go hs hx']
  have hxt:=xt_of hg h hx'
  have hpl:=(fetch_in h.hu hx').2
  have hcl:=(hg.fu u (List.mem_of_getElem? h.hu)).2.1
  refine goA ?_
  refine Opt.of (get_map hget) ?_
  refine goA ?_
  refine Call.mk ((jump136 t s ⟨k,pc,ls⟩ hs (by omega) ((pc:Int)+1)).only _ rfl (by rintro d rfl; rfl)) ?_; rintro d os' ⟨rfl,rfl⟩
  refine goA ?_
  refine Call.mk (does162' _) ?_
  rintro d os' ⟨rfl,rfl⟩
  refine goA ?_
  have hsp0:=exec_fn g s ⟨k,(pc:Int)+1,ls⟩ { t with fr:=s ++ [⟨k,(pc:Int)+1,ls⟩] } op a hxt
  generalize execM g s ⟨k,(pc:Int)+1,ls⟩ { t with fr:=s ++ [⟨k,(pc:Int)+1,ls⟩] } op a = x at hsp0 ⊢
  obtain ⟨t',e',q'⟩:=x
  rcases hsp0 with ⟨n,hl,hsp⟩ | ⟨n,d,hl,hd,hsp⟩
  ·refine Fnd.got hl ?_
   refine goA ?_
   refine Call.mk ((hsp).cellAt 5 _ rfl (fun j hj=>one_pos _ hj) rfl rfl (by rintro d y ⟨rfl,rfl⟩; exact ⟨rfl,rfl⟩)) ?_; rintro d os' ⟨y,⟨rfl,rfl⟩,rfl⟩
   refine goA ?_
   refine Br.dec (fun h0=>?_) (fun h0=>?_)
   ·have he:stepX (t',e',q') = (endT e',⟨1,0,e'⟩):=by unfold stepX; exact if_pos h0
    refine goA ?_
    refine Call.mk ((end55 t' e').only _ rfl (by rintro d rfl; rfl)) ?_; rintro d os' ⟨rfl,rfl⟩
    refine goA ?_
    refine Ret.mk [.cell 4 42,.cell 5 107] rfl ?_; (refine goA ?_)
    rw [he]
    exact ⟨_,View.same _,rfl,rfl⟩
   ·have he:stepX (t',e',q') = (t',q'):=by unfold stepX; exact if_neg h0
    refine goA ?_
    refine Ret.mk [.cell 4 42,.cell 5 107] rfl ?_; (refine goA ?_)
    rw [he]
    exact ⟨_,View.same _,rfl,rfl⟩
  ·refine Fnd.got hl ?_
   refine goA ?_
   refine Call.mk ((hsp).cellAt 5 _ rfl (fun j hj=>one_pos _ hj) rfl rfl (by rintro d y ⟨rfl,rfl⟩; exact ⟨rfl,rfl⟩)) ?_; rintro d os' ⟨y,⟨rfl,rfl⟩,rfl⟩
   refine goA ?_
   refine Br.dec (fun h0=>?_) (fun h0=>?_)
   ·have he:stepX (t',e',q') = (endT e',⟨1,0,e'⟩):=by unfold stepX; exact if_pos h0
    refine goA ?_
    refine Call.mk ((end55 t' e').only _ rfl (by rintro d rfl; rfl)) ?_; rintro d os' ⟨rfl,rfl⟩
    refine goA ?_
    refine Ret.mk [.cell 4 42,.cell 5 107] rfl ?_; (refine goA ?_)
    rw [he]
    exact ⟨_,View.same _,rfl,rfl⟩
   ·have he:stepX (t',e',q') = (t',q'):=by unfold stepX; exact if_neg h0
    refine goA ?_
    refine Ret.mk [.cell 4 42,.cell 5 107] rfl ?_; (refine goA ?_)
    rw [he]
    exact ⟨_,View.same _,rfl,rfl⟩
end Go.Proofs.YtkceciebmkklpaaGreat.V
section
namespace Go.Proofs.YtkceciebmkklpaaGreat.V
open Go Go.Proofs
set_option maxRecDepth 100000
set_option maxHeartbeats 40000000
theorem under_t (c:Int):underE (-1) true c = -1:=rfl
theorem under_f (c:Int):underE (-1) false c = c:=rfl
theorem popM_tt {t:Th} (h:0 < t.sk.length):(popM t).2.2 = true∧(popM t).1.sk.length+1 = t.sk.length:=by
 have hk:t.sk ≠ []:=fun e=>by rw [e] at h; simp at h
 have hln:t.sk = t.sk.dropLast ++ [t.sk.getLast hk]:=(List.dropLast_concat_getLast hk).symm
 rw [popM_snoc hln]
 refine ⟨rfl,?_⟩
 show t.sk.dropLast.length+1 = _
 simp; omega
theorem popM_ff {t:Th} (h:t.sk.length = 0):(popM t).2.2 = false:=by rw [popM_nil (List.eq_nil_of_length_eq_zero h)]
@[reducible] def pushX (t:Th) (v:Int):Th × Rq:=(if (pushT t v).2 then (pushT t v).1 else endT 2,if (pushT t v).2 then nq else ⟨1,0,2⟩)
theorem pushL1 (t:Th) (v:Int):stepX (mk3 (pushL t (-1) [v])) = pushX t v:=by
 unfold stepX pushX
 simp only [pushL]
 rcases Bool.eq_false_or_eq_true (pushT t v).2 with h | h <;> simp [h,underE]
variable (g:Pg) (s:List Fm) (f:Fm) (t:Th) (a:Int)
theorem ex0:stepX (execM g s f t 0 a) = pushX t a:=pushL1 t a
theorem ex1 (h:0 < t.sk.length):stepX (execM g s f t 1 a) = ((popM t).1,nq):=by
 show stepX (mk3 (popE t (-1))) = _
 simp only [stepX,popE,(popM_tt h).1,under_t]
 rfl
theorem ex2 (h:0 < t.sk.length) (h16:t.sk.length≤16):stepX (execM g s f t 2 a) = pushX (pushT (popM t).1 (popM t).2.1).1 (popM t).2.1:=by
 show stepX (mk3 (pushL (popE t (-1)).1 (popE t (-1)).2 [(popM t).2.1,(popM t).2.1])) = _
 obtain ⟨h1,h2⟩:=popM_tt h
 have hp:(pushT (popM t).1 (popM t).2.1).2 = true:=by unfold pushT; rw [if_neg (by omega)]
 have e:pushL (popE t (-1)).1 (popE t (-1)).2 [(popM t).2.1,(popM t).2.1] = pushL (pushT (popM t).1 (popM t).2.1).1 (-1) [(popM t).2.1]:=by
  simp only [pushL,popE,h1,under_t,hp]
 rw [e]
 exact pushL1 _ _
theorem pop2_tt (h:1 < t.sk.length):(pop2 t).2.1 = -1:=by
 obtain ⟨h1,h2⟩:=popM_tt (t:=t) (by omega)
 obtain ⟨h3,h4⟩:=popM_tt (t:=(popM t).1) (by omega)
 simp only [pop2,h1,h3,under_t]
theorem ex3 (h:1 < t.sk.length):stepX (execM g s f t 3 a) = pushX (popM (popM t).1).1 ((popM (popM t).1).2.1+(popM t).2.1):=by
 show stepX (mk3 (pushL (pop2 t).1 (pop2 t).2.1 [(pop2 t).2.2.1+(pop2 t).2.2.2])) = _
 rw [pop2_tt t h]
 exact pushL1 _ _
theorem ex4 (h:1 < t.sk.length):stepX (execM g s f t 4 a) = pushX (popM (popM t).1).1 ((popM (popM t).1).2.1 - (popM t).2.1):=by
 show stepX (mk3 (pushL (pop2 t).1 (pop2 t).2.1 [(pop2 t).2.2.1 - (pop2 t).2.2.2])) = _
 rw [pop2_tt t h]
 exact pushL1 _ _
theorem ex5 {v:Int} (hv:f.ls[a.toNat]? = some v):stepX (execM g s f t 5 a) = pushX t v:=by
 show stepX (mk3 (pushL t (-1) [f.ls.getD a.toNat 0])) = _
 rw [List.getD_eq_getElem?_getD,hv]
 exact pushL1 _ _
theorem ex6 (h:0 < t.sk.length):stepX (execM g s f t 6 a) = ({ (popM t).1 with fr:=s ++ [⟨f.fn,f.pc,f.ls.set a.toNat (keep (popM t).2.1)⟩] },nq):=by
 show stepX (mk3 (_,underE (-1) (popM t).2.2 1)) = _
 simp only [stepX,(popM_tt h).1,under_t]
 rfl
theorem ex7:stepX (execM g s f t 7 a) = ({ t with fr:=s ++ [⟨f.fn,a,f.ls⟩] },nq):=rfl
theorem ex8 (h:0 < t.sk.length):stepX (execM g s f t 8 a) = (if (popM t).2.1 = 0 then { (popM t).1 with fr:=s ++ [⟨f.fn,a,f.ls⟩] } else (popM t).1,nq):=by
 show stepX (mk3 (_,underE (-1) (popM t).2.2 1)) = _
 simp only [stepX,(popM_tt h).1,under_t]
 rfl
theorem ex9 {u:Fu} (hu:g.fu[a.toNat]? = some u):stepX (execM g s f t 9 a) = (if (enterT t ⟨a,0,List.replicate u.loc.toNat 0⟩).2 then (enterT t ⟨a,0,List.replicate u.loc.toNat 0⟩).1 else endT 3,if (enterT t ⟨a,0,List.replicate u.loc.toNat 0⟩).2 then nq else ⟨1,0,3⟩):=by
 show stepX (mk3 ((enterT t ⟨a,0,List.replicate ((g.fu[a.toNat]?.map Fu.loc).getD 0).toNat 0⟩).1,if (enterT t ⟨a,0,List.replicate ((g.fu[a.toNat]?.map Fu.loc).getD 0).toNat 0⟩).2 then -1 else 3)) = _
 rw [hu]
 simp only [Option.map_some,Option.getD_some,stepX]
 rcases Bool.eq_false_or_eq_true (enterT t ⟨a,0,List.replicate u.loc.toNat 0⟩).2 with h | h <;> simp [h]
theorem ex10:stepX (execM g s f t 10 a) = (if s = [] then endT 0 else { t with fr:=s },if s = [] then ⟨1,0,0⟩ else nq):=by
 show stepX (mk3 ({ t with fr:=s },if s = [] then 0 else -1)) = _
 by_cases h:s = []
 ·simp only [if_pos h]; rfl
 ·simp only [if_neg h]; rfl
theorem ex26:stepX (execM g s f t 26 a) = (endT 0,⟨1,0,0⟩):=rfl
theorem exR {k:Int} {op:Int} (h:execM g s f t op a = (t,-1,⟨k,a,0⟩)):stepX (execM g s f t op a) = (t,⟨k,a,0⟩):=by rw [h]; rfl
theorem exQ {k:Int} {op:Int} (h0:0 < t.sk.length) (h:execM g s f t op a = ((popE t (-1)).1,(popE t (-1)).2,⟨k,a,(popM t).2.1⟩)):stepX (execM g s f t op a) = ((popM t).1,⟨k,a,(popM t).2.1⟩):=by
 rw [h]
 simp only [stepX,popE,(popM_tt h0).1,under_t]
 rfl
theorem ex_under {op:Int} (h:(t.sk.length:Int) < needsI op):stepX (execM g s f t op a) = (endT 1,⟨1,0,1⟩):=by
 have fin:∀ (x:Th) (q:Rq),stepX (x,1,q) = (endT 1,⟨1,0,1⟩):=fun x q=>rfl
 have push1:∀ (l:List Int) (x:Th),(pushL x 1 l).2 = 1:=by
  intro l
  induction l with
  | nil=>intro x; rfl
  | cons v l ih=>intro x; simp only [pushL]; rw [show underE 1 (pushT x v).2 2 = 1 by simp [underE]]; exact ih _
 have h1:∀ {P:Prop},(t.sk.length:Int) < 1→((popM t).2.2 = false→P)→P:=fun hl k=>k (popM_ff (by omega))
 unfold needsI at h
 split at h
 ·rename_i hc
  have hb:=popM_ff (t:=t) (by omega)
  rcases hc with rfl | rfl | rfl | rfl | rfl | rfl | rfl | rfl
  ·show stepX (mk3 (popE t (-1))) = _
   simp only [mk3,popE,hb,under_f]; exact fin _ _
  ·show stepX (mk3 (pushL (popE t (-1)).1 (popE t (-1)).2 _)) = _
   simp only [mk3,popE,hb,under_f,push1]; exact fin _ _
  ·show stepX (mk3 (_,underE (-1) (popM t).2.2 1)) = _
   simp only [mk3,hb,under_f]; exact fin _ _
  ·show stepX (mk3 (_,underE (-1) (popM t).2.2 1)) = _
   simp only [mk3,hb,under_f]; exact fin _ _
  ·show stepX ((popE t (-1)).1,(popE t (-1)).2,_) = _
   simp only [popE,hb,under_f]; exact fin _ _
  ·show stepX ((popE t (-1)).1,(popE t (-1)).2,_) = _
   simp only [popE,hb,under_f]; exact fin _ _
  ·show stepX ((popE t (-1)).1,(popE t (-1)).2,_) = _
   simp only [popE,hb,under_f]; exact fin _ _
  ·show stepX ((popE t (-1)).1,(popE t (-1)).2,_) = _
   simp only [popE,hb,under_f]; exact fin _ _
 ·split at h
  ·rename_i hc
   have hp:(pop2 t).2.1 = 1:=by
    unfold pop2
    dsimp only
    by_cases h0:t.sk.length = 0
    ·rw [popM_ff h0,under_f]; simp [underE]
    ·obtain ⟨g1,g2⟩:=popM_tt (t:=t) (by omega)
     rw [g1,under_t,popM_ff (t:=(popM t).1) (by omega),under_f]
   rcases hc with rfl | rfl
   ·show stepX (mk3 (pushL (pop2 t).1 (pop2 t).2.1 _)) = _
    simp only [mk3,hp,push1]; exact fin _ _
   ·show stepX (mk3 (pushL (pop2 t).1 (pop2 t).2.1 _)) = _
    simp only [mk3,hp,push1]; exact fin _ _
  ·omega
end Go.Proofs.YtkceciebmkklpaaGreat.V
end
namespace Go.Proofs.YtkceciebmkklpaaGreat.V
open Go Go.Proofs
set_option maxRecDepth 100000
set_option maxHeartbeats 40000000
theorem kept_of {l:List Int} (h:∀ v ∈ l,kept2 v):kept l = true:=(kept_iff _).2 h
theorem gPush {g:Pg} {t:Th} (ht:GoodT g t) (v:Int):(pushX t v = ((pushT t v).1,nq)∧GoodT g (pushT t v).1)∨pushX t v = (endT 2,⟨1,0,2⟩):=by
 obtain ⟨h1,h2,h3,h4,h5,h6,h7⟩:=ht
 unfold pushX pushT
 by_cases h:t.sk.length = 16
 ·right; rw [if_pos h]; rfl
 ·left
  rw [if_neg h]
  refine ⟨rfl,h1,h2,h3,by simp; omega,kept_of ?_,h6,h7⟩
  intro x hx
  rcases List.mem_append.1 hx with hx | hx
  ·exact (kept_iff _).1 h5 x hx
  ·simp only [List.mem_singleton] at hx; subst hx; exact keep_range v
theorem gPop {g:Pg} {t:Th} (ht:GoodT g t):GoodT g (popM t).1:=by
 obtain ⟨h1,h2,h3,h4,h5,h6,h7⟩:=ht
 have hv:=popM_v ((kept_iff _).1 h5)
 have hs:=popM_sk t
 have hf:=popM_fr t
 have hrest:(popM t).1.st = t.st∧(popM t).1.on = t.on∧(popM t).1.code = t.code:=by unfold popM; split <;> exact ⟨rfl,rfl,rfl⟩
 refine ⟨hrest.1.trans h1,hrest.2.1.trans h2,hrest.2.2.trans h3,by omega,kept_of hv.2,by rw [hf]; exact h6,by rw [hf]; exact h7⟩
theorem gTop {g:Pg} {t:Th} (ht:GoodT g t) {s:List Fm} {f f':Fm} (hs:t.fr = s ++ [f]) (ho:oddF g f' = false):GoodT g { t with fr:=s ++ [f'] }:=by
 obtain ⟨h1,h2,h3,h4,h5,h6,h7⟩:=ht
 refine ⟨h1,h2,h3,h4,h5,by rw [hs] at h6; simpa using h6,?_⟩
 intro x hx
 rcases List.mem_append.1 hx with hx | hx
 ·exact h7 x (by rw [hs]; simp [hx])
 ·simp only [List.mem_singleton] at hx; subst hx; exact ho
def StepOk (g:Pg) (r:Th × Rq):Prop:=(r.2.kd ≠ 1∧GoodT g r.1∧(r.2.kd = 0→r.2 = nq))∨∃ c,(c = 0∨c = 1∨c = 2∨c = 3∨c = 6)∧r = (endT c,⟨1,0,c⟩)
theorem okPush {g:Pg} {t:Th} (ht:GoodT g t) (v:Int):StepOk g (pushX t v):=by
 rcases gPush ht v with ⟨h1,h2⟩ | h
 ·rw [h1]; exact .inl ⟨by show (0:Int) ≠ 1; decide,h2,fun _=>rfl⟩
 ·rw [h]; exact .inr ⟨2,by simp,rfl⟩
theorem okPlain {g:Pg} {t:Th} (ht:GoodT g t):StepOk g (t,nq):=.inl ⟨by show (0:Int) ≠ 1; decide,ht,fun _=>rfl⟩
theorem okAsk {g:Pg} {t:Th} (ht:GoodT g t) {k a v:Int} (h0:k ≠ 0) (h1:k ≠ 1):StepOk g (t,⟨k,a,v⟩):=.inl ⟨h1,ht,fun h=>absurd h h0⟩
theorem step_ok {g:Pg} (hg:GoodP g) {t:Th} (ht:GoodT g t):StepOk g (stepT g t):=by
 obtain ⟨s,k,pc,ls,u,h⟩:=ST.of ht
 obtain ⟨⟨op,a⟩,b,hx⟩:∃ x b,fetchI g ⟨k,pc,ls⟩ = (x,b):=⟨_,_,rfl⟩
 cases b with
 | false=>rw [stepT_off h.fr hx]; exact .inr ⟨6,by simp,rfl⟩
 | true =>
  rw [stepT_go h.fr hx]
  dsimp only
  have hxt:=xt_of hg h hx
  have hpl:=(fetch_in h.hu hx).2
  have hgu:=hg.fu u (List.mem_of_getElem? h.hu)
  have hin:=hgu.2.2 _ (fetch_in h.hu hx).1
  obtain ⟨i1,i2,i3,i4,i5,_⟩:=hin
  have hlsl:=h.lsl
  have hloc:=hgu.1
  have odd:∀ (q:Int) (l:List Int),0≤q→q≤u.code.length→l.length = ls.length→kept l = true→oddF g ⟨k,q,l⟩ = false:=fun q l h0 h1 h2 h3=>odd_not h.hu ⟨h0,h1⟩ (by omega) hloc.1 h3
  obtain ⟨t1,ht1⟩:∃ t1:Th,t1 = { t with fr:=s ++ [⟨k,(pc:Int)+1,ls⟩] }:=⟨_,rfl⟩
  have hG:GoodT g t1:=by rw [ht1]; exact gTop ht h.fr (odd _ ls (by omega) (by omega) rfl h.kl)
  have hfr1:t1.fr = s ++ [⟨k,(pc:Int)+1,ls⟩]:=by rw [ht1]
  rw [← ht1] at hxt ⊢
  by_cases hu:(t1.sk.length:Int) < needsI op
  ·rw [ex_under g s _ t1 a hu]; exact .inr ⟨1,by simp,rfl⟩
  have hpG:=gPop hG
  have hppG:=gPop hpG
  have hpf:(popM t1).1.fr = s ++ [⟨k,(pc:Int)+1,ls⟩]:=by rw [popM_fr]; exact hfr1
  have hc:op = 0∨op = 1∨op = 2∨op = 3∨op = 4∨op = 5∨op = 6∨op = 7∨op = 8∨op = 9∨op = 10∨op = 11∨op = 12∨op = 13∨op = 14∨op = 15∨op = 16∨op = 17∨op = 18∨op = 19∨op = 20∨op = 21∨op = 22∨op = 23∨op = 24∨op = 25∨op = 26:=by have:=hxt.opr; omega
  have n1:needsI op = 1→0 < t1.sk.length:=fun e=>by omega
  have n2:needsI op = 2→1 < t1.sk.length:=fun e=>by omega
  dsimp only at i3 i4 i5
  rcases hc with rfl | rfl | rfl | rfl | rfl | rfl | rfl | rfl | rfl | rfl | rfl | rfl | rfl | rfl | rfl | rfl | rfl | rfl | rfl | rfl | rfl | rfl | rfl | rfl | rfl | rfl | rfl
  ·rw [ex0]; exact okPush hG _
  ·rw [ex1 g s _ t1 a (n1 rfl)]; exact okPlain hpG
  ·rw [ex2 g s _ t1 a (n1 rfl) hG.sk]
   rcases gPush hpG (popM t1).2.1 with ⟨_,h2⟩ | h2
   ·exact okPush h2 _
   ·exfalso
    have htt:=(popM_tt (n1 rfl)).2
    have h16:=hG.sk
    have hne:¬ (popM t1).1.sk.length = 16:=by omega
    unfold pushX pushT at h2
    simp [hne] at h2
  ·rw [ex3 g s _ t1 a (n2 rfl)]; exact okPush hppG _
  ·rw [ex4 g s _ t1 a (n2 rfl)]; exact okPush hppG _
  ·obtain ⟨a0,a1⟩:=hxt.lo (.inl rfl)
   dsimp only at a1
   rw [ex5 g s _ t1 a (List.getElem?_eq_getElem (l:=ls) (i:=a.toNat) (by omega))]; exact okPush hG _
  ·obtain ⟨a0,a1⟩:=hxt.lo (.inr rfl)
   rw [ex6 g s _ t1 a (n1 rfl)]
   refine okPlain (gTop hpG hpf (odd ((pc:Int)+1) _ (by omega) (by omega) (by simp) (kept_of ?_)))
   intro y hy
   rcases List.mem_or_eq_of_mem_set hy with hy | rfl
   ·exact (kept_iff _).1 h.kl y hy
   ·exact keep_range _
  ·have:=i4 (.inl rfl)
   rw [ex7]; exact okPlain (gTop hG hfr1 (odd a ls (by omega) (by omega) rfl h.kl))
  ·have:=i4 (.inr rfl)
   rw [ex8 g s _ t1 a (n1 rfl)]
   split
   ·exact okPlain (gTop hpG hpf (odd a ls (by omega) (by omega) rfl h.kl))
   ·exact okPlain hpG
  ·obtain ⟨a0,a1⟩:=hxt.fu rfl
   obtain ⟨v,hv⟩:∃ v,g.fu[a.toNat]? = some v:=⟨_,List.getElem?_eq_getElem (by omega)⟩
   rw [ex9 g s _ t1 a hv]
   unfold enterT
   by_cases h8:t1.fr.length = 8
   ·rw [if_pos h8]; exact .inr ⟨3,by simp,rfl⟩
   ·rw [if_neg h8]
    have hgv:=hg.fu v (List.mem_of_getElem? hv)
    obtain ⟨g1,g2,g3,g4,g5,g6,g7⟩:=hG
    refine okPlain ⟨g1,g2,g3,g4,g5,by simp; omega,?_⟩
    intro x hx
    rcases List.mem_append.1 hx with hx | hx
    ·exact g7 x hx
    ·simp only [List.mem_singleton] at hx; subst hx
     have:=odd_not (pc:=0) (l:=List.replicate v.loc.toNat 0) hv ⟨by omega,by omega⟩ (by simp) hgv.1.1 (kept_of (fun y hy=>by rw [List.eq_of_mem_replicate hy]; exact ⟨by decide,by decide⟩))
     rwa [show ((a.toNat:Nat):Int) = a by omega] at this
  ·rw [ex10]
   by_cases hz:s = []
   ·rw [if_pos hz,if_pos hz]; exact .inr ⟨0,by simp,rfl⟩
   ·rw [if_neg hz,if_neg hz]
    obtain ⟨g1,g2,g3,g4,g5,g6,g7⟩:=hG
    have:=List.length_pos_iff.2 hz
    refine okPlain ⟨g1,g2,g3,g4,g5,⟨this,by have:=h.sl; show s.length≤8; omega⟩,fun x hx=>g7 x (by rw [hfr1]; simp [show x ∈ s from hx])⟩
  ·rw [exR g s _ t1 a (op:=11) (k:=3) rfl]; exact okAsk hG (by decide) (by decide)
  ·rw [exR g s _ t1 a (op:=12) (k:=2) rfl]; exact okAsk hG (by decide) (by decide)
  ·rw [exQ g s _ t1 a (op:=13) (k:=4) (n1 rfl) rfl]; exact okAsk hpG (by decide) (by decide)
  ·rw [exQ g s _ t1 a (op:=14) (k:=5) (n1 rfl) rfl]; exact okAsk hpG (by decide) (by decide)
  ·rw [exR g s _ t1 a (op:=15) (k:=6) rfl]; exact okAsk hG (by decide) (by decide)
  ·rw [exR g s _ t1 a (op:=16) (k:=7) rfl]; exact okAsk hG (by decide) (by decide)
  ·rw [exR g s _ t1 a (op:=17) (k:=8) rfl]; exact okAsk hG (by decide) (by decide)
  ·rw [exR g s _ t1 a (op:=18) (k:=9) rfl]; exact okAsk hG (by decide) (by decide)
  ·rw [exR g s _ t1 a (op:=19) (k:=10) rfl]; exact okAsk hG (by decide) (by decide)
  ·rw [exR g s _ t1 a (op:=20) (k:=11) rfl]; exact okAsk hG (by decide) (by decide)
  ·rw [exR g s _ t1 a (op:=21) (k:=12) rfl]; exact okAsk hG (by decide) (by decide)
  ·rw [exQ g s _ t1 a (op:=22) (k:=13) (n1 rfl) rfl]; exact okAsk hpG (by decide) (by decide)
  ·rw [exR g s _ t1 a (op:=23) (k:=14) rfl]; exact okAsk hG (by decide) (by decide)
  ·rw [exR g s _ t1 a (op:=24) (k:=15) rfl]; exact okAsk hG (by decide) (by decide)
  ·rw [exQ g s _ t1 a (op:=25) (k:=16) (n1 rfl) rfl]; exact okAsk hpG (by decide) (by decide)
  ·rw [ex26]; exact .inr ⟨0,by simp,rfl⟩
@[reducible] def g0:Pg:=⟨[],0,[],[],[],[],0⟩
def tellT (t:Th) (l:List Int):Th × Bool:=if 0≤(pushL t (-1) l).2 then (endT (pushL t (-1) l).2,false) else ((pushL t (-1) l).1,true)
theorem pushL_2:∀ (l:List Int) (t:Th),(pushL t 2 l).2 = 2
 | [],t=>rfl
 | v :: l,t=>by simp only [pushL]; rw [show underE 2 (pushT t v).2 2 = 2 by simp [underE]]; exact pushL_2 l _
theorem pushL_e:∀ (l:List Int) (t:Th),(pushL t (-1) l).2 = -1∨(pushL t (-1) l).2 = 2
 | [],t=>.inl rfl
 | v :: l,t=>by
  simp only [pushL]
  rcases Bool.eq_false_or_eq_true (pushT t v).2 with h | h
  ·rw [h,under_t]; exact pushL_e l _
  ·rw [h,under_f]; exact .inr (pushL_2 l _)
theorem pushL_app:∀ (l m:List Int) (t:Th) (e:Int),pushL t e (l ++ m) = pushL (pushL t e l).1 (pushL t e l).2 m
 | [],m,t,e=>rfl
 | v :: l,m,t,e=>by simp only [List.cons_append,pushL]; exact pushL_app l m _ _
theorem pushL_take {t:Th} {l:List Int} {i:Nat} (h:(pushL t (-1) (l.take i)).2 = 2):tellT t l = (endT 2,false):=by
 have:pushL t (-1) l = pushL (pushL t (-1) (l.take i)).1 2 (l.drop i):=by
  conv=>lhs; rw [← List.take_append_drop i l]
  rw [pushL_app,h]
 unfold tellT
 rw [this,pushL_2]
 rfl
theorem tell99 (t:Th) (l:List Int) (hsk:t.sk.length≤16) (hl:l.length≤1000000):Spec Tryz.prog 220 [thD t,ints l] [] (fun d os'=>d = .tup [thD (tellT t l).1,.bool (tellT t l).2]∧os' = []):=by
 refine Spec.frz (post':=fun d=>d = .tup [thD (tellT t l).1,.bool (tellT t l).2]) ?_
 refine Spec.by Tryz.func220 rfl (by decide) (by decide +kernel) rfl ?_
 refine goR ?_
 ((with_reducible refine Pt.go ?_); conv=>whnf)
 refine goR ?_
 ((with_reducible refine Pt.go ?_); conv=>whnf)
 refine goR ?_
 refine Pt.weak (Weak.frzO (fun _=>false) [] 2 (ty:=154) (sz:=17) (es:=[.agg [.nils,.int .i64 0,.nils,.nils,.nils,.nils,.int .i64 0,.int .i64 t.st,.int .i64 t.on,frs t.fr,ints t.sk,.int .i64 t.code,.int .i64 0,.int .i64 (-1),.int .i64 0,.int .i64 0,.int .i64 0]]) rfl rfl [mD g0 t 0 (-1) nq] rfl (.cons (.agg (.cons (View.nils 2 false) (.cons (.same _) (.cons (View.nils 1 false) (.cons (View.nils 1 false) (.cons (View.nils 1 false) (.cons (View.nils 1 false) (.same _)))))))) .nil) trivial) ?_
 refine goA ?_
 refine Call.mk ((mpush168 g0 t 0 (-1) nq l hsk hl).cellAt 2 _ rfl (fun j hj=>one_pos _ hj) rfl rfl (by rintro d y ⟨rfl,rfl⟩; exact ⟨rfl,rfl⟩)) ?_; rintro d os' ⟨y,⟨rfl,rfl⟩,rfl⟩
 refine goA ?_
 refine Br.dec (fun h0=>?_) (fun h0=>?_)
 ·have he:tellT t l = (endT (pushL t (-1) l).2,false):=by unfold tellT; rw [if_pos h0]
  refine goA ?_
  refine Call.mk ((end55 t (pushL t (-1) l).2).only _ rfl (by rintro d rfl; rfl)) ?_; rintro d os' ⟨rfl,rfl⟩
  refine goA ?_
  refine Ret.mk [.cell 4 42,.tmp 5] rfl ?_; (refine goA ?_)
  rw [he]
  exact ⟨_,View.same _,rfl,rfl⟩
 ·have he:tellT t l = ((pushL t (-1) l).1,true):=by unfold tellT; rw [if_neg h0]
  refine goA ?_
  refine Ret.mk [.cell 4 42,.tmp 5] rfl ?_; (refine goA ?_)
  rw [he]
  exact ⟨_,View.same _,rfl,rfl⟩
theorem pushL_okB:∀ (l:List Int) (t:Th) (e:Int),t.sk.length≤16→t.okB→(pushL t e l).1.okB
 | [],t,e,_,h=>h
 | v :: l,t,e,hs,h=>by
  simp only [pushL]
  refine pushL_okB l _ _ (pushT_sk t v hs) ?_
  obtain ⟨h1,h2,h3⟩:=h
  have:=pushT_sk t v hs
  have hf:(pushT t v).1.fr = t.fr:=by unfold pushT; split <;> rfl
  exact ⟨by rw [hf]; exact h1,by omega,by rw [hf]; exact h3⟩
theorem tell100 (t:Th) (ht:t.okB) (l:List Int) (hsk:t.sk.length≤16) (hl:l.length≤1000000):Spec Tryz.prog 230 [thD t,ints l] [] (fun d os'=>d = .tup [thD (tellT t l).1,.bool (tellT t l).2]∧os' = []):=by
 refine Spec.frz (post':=fun d=>d = .tup [thD (tellT t l).1,.bool (tellT t l).2]) ?_
 have hlm:(l.map (D.int .i64)).length = l.length:=List.length_map ..
 refine Spec.by Tryz.func230 rfl (by decide) (by decide +kernel) rfl ?_
 refine goA ?_
 refine Loop.inv (A:=Nat) (List.range 31) (fun i=>[(1,ints l),(2,.ptr 0 0 5 0 0),(4,.ptr 1 0 5 0 0),(5,.bool false),(6,.ptr 2 0 5 0 0),(7,.int .i64 (i:Int))]) (fun i=>[one (.row 42 5 false [thD t]),one (.row 42 5 false [z29]),one (.row 42 5 false [thD (pushL t (-1) (l.take i)).1])]) (fun i=>i≤l.length∧(pushL t (-1) (l.take i)).2 = -1) (fun i=>l.length - i) 0 ⟨Nat.zero_le _,rfl⟩ ?_ ?_
 ·exact Weak.start' rfl rfl tld
 rintro i ⟨hi,hm⟩
 refine goA ?_
 refine Br.dec (fun h=>?_) (fun h=>?_)
 ·have hil:i < l.length:=by omega
  have hget:l[i]? = some l[i]:=List.getElem?_eq_getElem hil
  have htk:l.take (i+1) = l.take i ++ [l[i]]:=by rw [List.take_add_one,hget]; rfl
  have hp:=pushL_sk (l.take i) t (-1) hsk
  have hB:(pushL t (-1) (l.take i)).1.okB:=pushL_okB _ _ _ hsk ht
  refine goA ?_
  refine Opt.of (get_map hget) ?_
  refine goA ?_
  refine Call.mk ((push132 (pushL t (-1) (l.take i)).1 hB l[i]).only _ rfl (by rintro d rfl; rfl)) ?_; rintro d os' ⟨rfl,rfl⟩
  have hps:pushR (pushL t (-1) (l.take i)).1 l[i] = pushT (pushL t (-1) (l.take i)).1 l[i]:=by
   unfold pushR pushT
   by_cases h16:(pushL t (-1) (l.take i)).1.sk.length = 16
   ·rw [if_pos (by omega),if_pos h16]
   ·rw [if_neg (by omega),if_neg h16]
  rw [hps]
  have hsn:=pushL_snoc l[i] (l.take i) t (-1)
  rw [← htk,hm] at hsn
  obtain ⟨u,b,hub⟩:∃ u b,pushT (pushL t (-1) (l.take i)).1 l[i] = (u,b):=⟨_,_,rfl⟩
  rw [hub] at hsn ⊢
  dsimp only at hsn ⊢
  cases b with
  | true =>
   rw [under_t] at hsn
   refine goA ?_
   refine ⟨_,_,_,?_,⟨i+1,?_,rfl,rfl,rfl⟩,?_⟩
   ·omega
   ·exact ⟨hil,by rw [hsn]⟩
   ·refine Weak.backT 3 (by simp) ?_ (by kernel_rfl) (bl rfl) tld (by kernel_rfl) (by kernel_rfl)
    exact congrArg (fun r=>([one (.row 42 5 false [thD t]),one (.row 42 5 false [z29]),one (.row 42 5 false [thD r])]:Objs)) (by rw [hsn])
  | false =>
   rw [under_f] at hsn
   have he:=pushL_take (t:=t) (l:=l) (i:=i+1) (by rw [hsn])
   refine goA ?_
   refine Call.mk ((end34 2).only _ rfl (by rintro d rfl; rfl)) ?_; rintro d os' ⟨rfl,rfl⟩
   refine goA ?_
   refine Ret.mk [.cell 4 42,.tmp 5] rfl ?_; (refine goA ?_)
   rw [he]
   exact ⟨_,View.same _,rfl,rfl⟩
 ·have hil:i = l.length:=by omega
  subst hil
  rw [List.take_length] at hm
  have he:tellT t l = ((pushL t (-1) l).1,true):=by unfold tellT; rw [if_neg (by omega)]
  refine goA ?_
  refine Ret.mk [.cell 4 42,.tmp 5] rfl ?_; (refine goA ?_)
  rw [he,List.take_length]
  exact ⟨_,View.same _,rfl,rfl⟩
theorem getD_set' {α:Type} (l:List α) (e i:Nat) (x d:α):(l.set e x).getD i d = if e = i∧e < l.length then x else l.getD i d:=by
 rw [List.getD_eq_getElem?_getD,List.getD_eq_getElem?_getD,List.getElem?_set]
 by_cases h:e = i
 ·subst h
  by_cases h2:e < l.length
  ·simp [h2]
  ·simp [h2]
 ·simp [h]
structure Xs where
 C:Cr
 ev:List Ev
 wk:List Int
 wp:List Int
def thAt (C:Cr) (t:Nat):Th:=C.th.getD t (endT 0)
def putT (C:Cr) (t:Nat) (f:Th):Cr:={ C with th:=C.th.set t f }
def seeX (x:Xs) (k:Int) (t:Nat) (n:Int):Xs:={ x with ev:=x.ev ++ [(k,(t:Int),n)] }
def restX (x:Xs) (t:Nat) (st on:Int):Xs:={ x with C:=putT x.C t { thAt x.C t with st:=st,on:=on } }
def deadX (x:Xs) (t:Nat) (c:Int):Xs:=seeX { x with C:=putT x.C t (endT c) } 2 t c
def tellE (E:Xs→Nat→Int→Xs) (x:Xs) (t:Nat) (l:List Int):Xs × Bool :=
 if (tellT (thAt x.C t) l).2 then ({ x with C:=putT x.C t (tellT (thAt x.C t) l).1 },true) else (E x t 2,false)
def wakeE (E:Xs→Nat→Int→Xs) (x:Xs) (t:Nat) (l:List Int):Xs :=
 if (tellE E (restX { x with wk:=x.wk ++ [(t:Int)] } t 0 0) t l).2 then
  { (tellE E (restX { x with wk:=x.wk ++ [(t:Int)] } t 0 0) t l).1 with wp:=(tellE E (restX { x with wk:=x.wk ++ [(t:Int)] } t 0 0) t l).1.wp ++ [(t:Int)] }
 else (tellE E (restX { x with wk:=x.wk ++ [(t:Int)] } t 0 0) t l).1
def joins (x:Xs) (t k:Nat):Bool:=decide ((thAt x.C k).st = 2∧(thAt x.C k).on = (t:Int))
def endR (E:Xs→Nat→Int→Xs) (t:Nat) (c:Int) (y:Xs) (k:Nat):Xs:=if joins y t k then wakeE E y k [c] else y
def endX:Nat→Xs→Nat→Int→Xs
 | 0,x,t,c=>deadX x t c
 | n+1,x,t,c=>(List.range x.C.th.length).foldl (endR (endX n) t c) (deadX x t c)
def nj (C:Cr):Nat:=C.th.countP (fun f=>decide (f.st = 2))
structure Tame (t:Nat) (x y:Xs):Prop where
 len:y.C.th.length = x.C.th.length
 rest:y.C = { x.C with th:=y.C.th }
 join:∀ k,(thAt y.C k).st = 2→thAt y.C k = thAt x.C k
 stay:∀ k,k ≠ t→(thAt x.C k).st ≠ 2→thAt y.C k = thAt x.C k
 chg:∀ k,thAt y.C k = thAt x.C k∨(thAt y.C k).st = 0∨(thAt y.C k).st = 9
theorem Tame.refl (t:Nat) (x:Xs):Tame t x x:=⟨rfl,rfl,fun _ _=>rfl,fun _ _ _=>rfl,fun _=>.inl rfl⟩
theorem thAt_put (C:Cr) (t k:Nat) (f:Th):thAt (putT C t f) k = if t = k∧t < C.th.length then f else thAt C k:=getD_set' C.th t k f (endT 0)
theorem Tame.trans {t u:Nat} {x y z:Xs} (h:Tame t x y) (h2:Tame u y z) (hu:u = t∨(thAt y.C u).st = 2∨(thAt x.C u).st = 2):Tame t x z:=by
 refine ⟨h2.len.trans h.len,?_,fun k hk=>?_,fun k hk hs=>?_,fun k=>?_⟩
 rotate_right
 ·rcases h2.chg k with e | e
  ·rw [e]; exact h.chg k
  ·exact .inr e
 ·rw [h2.rest,h.rest]
 ·have e:=h2.join k hk
  rw [e] at hk ⊢
  exact h.join k hk
 ·have e:=h.stay k hk hs
  rw [h2.stay k ?_ (by rw [e]; exact hs),e]
  rintro rfl
  rcases hu with rfl | hu | hu
  ·exact hk rfl
  ·rw [e] at hu; exact hs hu
  ·exact hs hu
theorem put_tame (x:Xs) (t:Nat) (f:Th) (ev:List Ev) (wk wp:List Int) (hf:t < x.C.th.length→f.st = 0∨f.st = 9):Tame t x ⟨putT x.C t f,ev,wk,wp⟩:=by
 refine ⟨by simp [putT],rfl,fun k hk=>?_,fun k hk hs=>?_,fun k=>?_⟩
 ·show thAt (putT x.C t f) k = _
  have hk2:(thAt (putT x.C t f) k).st = 2:=hk
  rw [thAt_put] at hk2 ⊢
  split
  ·rename_i h; rw [if_pos h] at hk2; have:=hf h.2; omega
  ·rfl
 ·show thAt (putT x.C t f) k = _
  rw [thAt_put,if_neg (fun h=>hk h.1.symm)]
 ·show thAt (putT x.C t f) k = _∨(thAt (putT x.C t f) k).st = 0∨(thAt (putT x.C t f) k).st = 9
  rw [thAt_put]
  split
  ·rename_i h; exact .inr (hf h.2)
  ·exact .inl rfl
theorem dead_tame (x:Xs) (t:Nat) (c:Int):Tame t x (deadX x t c):=put_tame x t (endT c) _ _ _ (fun _=>.inr rfl)
theorem rest_tame (x:Xs) (t:Nat) (wk:List Int):Tame t x (restX { x with wk:=wk } t 0 0):=put_tame x t _ _ _ _ (fun _=>.inl rfl)
theorem pushL_st:∀ (l:List Int) (f:Th) (e:Int),(pushL f e l).1.st = f.st∧(pushL f e l).1.on = f.on
 | [],f,e=>⟨rfl,rfl⟩
 | v :: l,f,e=>by
  rw [pushL]
  have:=pushL_st l (pushT f v).1 (underE e (pushT f v).2 2)
  have h2:(pushT f v).1.st = f.st∧(pushT f v).1.on = f.on:=by unfold pushT; split <;> exact ⟨rfl,rfl⟩
  exact ⟨this.1.trans h2.1,this.2.trans h2.2⟩
theorem tellT_st {f:Th} {l:List Int} (h:(tellT f l).2 = true):(tellT f l).1.st = f.st∧(tellT f l).1.on = f.on:=by
 unfold tellT at h ⊢
 split
 ·rename_i h2; rw [if_pos h2] at h; cases h
 ·exact pushL_st l f (-1)
theorem tell_tame {E:Xs→Nat→Int→Xs} (hE:∀ x t c,Tame t x (E x t c)) (x:Xs) (t:Nat) (l:List Int) (hs:t < x.C.th.length→(thAt x.C t).st = 0):Tame t x (tellE E x t l).1:=by
 unfold tellE
 split
 ·rename_i h
  obtain ⟨h1,h2⟩:=tellT_st h
  exact put_tame x t _ _ _ _ (fun ht=>.inl (h1.trans (hs ht)))
 ·exact hE x t 2
theorem rest_st (x:Xs) (t:Nat) (st on:Int) (ht:t < x.C.th.length):thAt (restX x t st on).C t = { thAt x.C t with st:=st,on:=on }:=by
 show thAt (putT x.C t _) t = _
 rw [thAt_put,if_pos ⟨rfl,ht⟩]
theorem rest_st0 (x:Xs) (t:Nat) (h:t < x.C.th.length):(thAt (restX x t 0 0).C t).st = 0:=by rw [rest_st x t 0 0 h]
theorem rest_len (x:Xs) (t:Nat) (st on:Int):(restX x t st on).C.th.length = x.C.th.length:=by simp [restX,putT]
theorem wake_tame {E:Xs→Nat→Int→Xs} (hE:∀ x t c,Tame t x (E x t c)) (x:Xs) (t:Nat) (l:List Int):Tame t x (wakeE E x t l):=by
 have h1:Tame t x (restX { x with wk:=x.wk ++ [(t:Int)] } t 0 0):=rest_tame x t (x.wk ++ [(t:Int)])
 have h2:=h1.trans (tell_tame hE _ t l (fun h=>rest_st0 { x with wk:=x.wk ++ [(t:Int)] } t (by rw [rest_len] at h; exact h))) (Or.inl rfl)
 unfold wakeE
 split
 ·exact ⟨h2.len,h2.rest,h2.join,h2.stay,h2.chg⟩
 ·exact h2
theorem endR_tame {E:Xs→Nat→Int→Xs} (hE:∀ x t c,Tame t x (E x t c)) (x:Xs) (t:Nat) (c:Int) (y:Xs) (h:Tame t x y) (k:Nat):Tame t x (endR E t c y k):=by
 unfold endR
 split
 ·rename_i hj
  exact h.trans (wake_tame hE y k [c]) (Or.inr (Or.inl (of_decide_eq_true hj).1))
 ·exact h
theorem fold_tame {E:Xs→Nat→Int→Xs} (hE:∀ x t c,Tame t x (E x t c)) (x:Xs) (t:Nat) (c:Int):∀ (l:List Nat) (y:Xs),Tame t x y→Tame t x (l.foldl (endR E t c) y)
 | [],y,h=>h
 | k :: l,y,h=>fold_tame hE x t c l _ (endR_tame hE x t c y h k)
theorem end_tame:∀ (n:Nat) (x:Xs) (t:Nat) (c:Int),Tame t x (endX n x t c)
 | 0,x,t,c=>dead_tame x t c
 | n+1,x,t,c=>by
  rw [endX]
  exact fold_tame (end_tame n) x t c _ _ (dead_tame x t c)
def okT (f:Th):Prop:=f.sk.length≤16∧f.okB
theorem okT_end (c:Int):okT (endT c):=⟨by show (0:Nat)≤16; omega,by show (0:Nat)≤_; omega,by show (0:Nat)≤_; omega,fun f hf=>by cases hf⟩
theorem nj_put (C:Cr) (t:Nat) (f:Th) (ht:t < C.th.length):nj (putT C t f)+(if (thAt C t).st = 2 then 1 else 0) = nj C+(if f.st = 2 then 1 else 0):=by
 have e:thAt C t = C.th[t]:=by unfold thAt; rw [List.getD_eq_getElem?_getD,List.getElem?_eq_getElem ht]; rfl
 unfold nj putT
 dsimp only
 rw [List.countP_set ht,e]
 have hp:(if (decide (C.th[t].st = 2)) = true then 1 else 0)≤C.th.countP (fun f=>decide (f.st = 2)):=by
  split
  ·rename_i h; exact List.countP_pos_iff.2 ⟨_,List.getElem_mem ht,h⟩
  ·omega
 simp only [decide_eq_true_eq] at hp ⊢
 omega
theorem thAt_lt {C:Cr} {t:Nat} (ht:t < C.th.length):thAt C t = C.th[t]:=by unfold thAt; rw [List.getD_eq_getElem?_getD,List.getElem?_eq_getElem ht]; rfl
theorem thAt_ge {C:Cr} {t:Nat} (ht:C.th.length≤t):thAt C t = endT 0:=by unfold thAt; rw [List.getD_eq_getElem?_getD,List.getElem?_eq_none ht]; rfl
theorem lt_of_st {C:Cr} {t:Nat} (h:(thAt C t).st ≠ 9):t < C.th.length:=by
 rcases Nat.lt_or_ge t C.th.length with h1 | h1
 ·exact h1
 ·rw [thAt_ge h1] at h; exact absurd rfl h
structure XB (m b w:Nat) (x:Xs):Prop where
 jn:nj x.C≤m
 tl:x.C.th.length≤100
 th:∀ f ∈ x.C.th,okT f
 ev:x.ev.length+nj x.C≤b
 wp:x.wp.length+nj x.C≤b
 wk:x.wk.length+nj x.C≤w
theorem XB.le {m b b' w w':Nat} {x:Xs} (h:XB m b w x) (hb:b≤b') (hw:w≤w'):XB m b' w' x:=⟨h.jn,h.tl,h.th,by have:=h.ev; omega,by have:=h.wp; omega,by have:=h.wk; omega⟩
theorem XB.at {m b w:Nat} {x:Xs} (h:XB m b w x) (t:Nat):okT (thAt x.C t):=by
 rcases Nat.lt_or_ge t x.C.th.length with h1 | h1
 ·rw [thAt_lt h1]; exact h.th _ (List.getElem_mem h1)
 ·rw [thAt_ge h1]; exact okT_end 0
theorem mem_put {C:Cr} {t:Nat} {f g:Th} (h:g ∈ (putT C t f).th):g ∈ C.th∨g = f:=List.mem_or_eq_of_mem_set h
theorem put_xb {m b w:Nat} {x:Xs} (h:XB m b w x) {t:Nat} (ht:t < x.C.th.length) {f:Th} (hf:okT f) (h2:f.st ≠ 2) (ev:List Ev) (wk wp:List Int) :
  XB m (max (b+ev.length - x.ev.length) (b+wp.length - x.wp.length)) (w+wk.length - x.wk.length) ⟨putT x.C t f,ev,wk,wp⟩∧((thAt x.C t).st = 2→0 < m∧0 < b∧0 < w∧XB (m - 1) (max (b - 1+ev.length - x.ev.length) (b - 1+wp.length - x.wp.length)) (w - 1+wk.length - x.wk.length) ⟨putT x.C t f,ev,wk,wp⟩):=by
 have hn:=nj_put x.C t f ht
 rw [if_neg h2] at hn
 have hT:∀ g ∈ (putT x.C t f).th,okT g:=fun g hg=>by
  rcases mem_put hg with hg | rfl
  ·exact h.th g hg
  ·exact hf
 have hl:(putT x.C t f).th.length≤100:=by simpa [putT] using h.tl
 have h1:=h.ev
 have h3:=h.wp
 have h4:=h.wk
 have h5:=h.jn
 refine ⟨⟨?_,hl,hT,?_,?_,?_⟩,fun hj=>?_⟩
 ·show nj (putT x.C t f)≤m
  split at hn <;> omega
 ·show ev.length+nj (putT x.C t f)≤_
  split at hn <;> omega
 ·show wp.length+nj (putT x.C t f)≤_
  split at hn <;> omega
 ·show wk.length+nj (putT x.C t f)≤_
  split at hn <;> omega
 ·rw [if_pos hj] at hn
  refine ⟨by omega,by omega,by omega,?_,hl,hT,?_,?_,?_⟩
  ·show nj (putT x.C t f)≤m - 1
   omega
  ·show ev.length+nj (putT x.C t f)≤_
   omega
  ·show wp.length+nj (putT x.C t f)≤_
   omega
  ·show wk.length+nj (putT x.C t f)≤_
   omega
theorem dead_xb {m b w:Nat} {x:Xs} (h:XB m b w x) {t:Nat} (ht:t < x.C.th.length) (c:Int):XB m (b+1) w (deadX x t c):=by
 have:=(put_xb h ht (okT_end c) (by show (9:Int) ≠ 2; decide) (x.ev ++ [(2,(t:Int),c)]) x.wk x.wp).1
 exact this.le (by rw [List.length_append,List.length_singleton]; omega) (by omega)
theorem rest_xb {m b w:Nat} {x:Xs} (h:XB m b w x) {t:Nat} (ht:t < x.C.th.length) (v st on:Int) (hst:st ≠ 2):XB m b (w+1) (restX { x with wk:=x.wk ++ [v] } t st on)∧((thAt x.C t).st = 2→∃ m' b',m = m'+1∧b = b'+1∧XB m' b' w (restX { x with wk:=x.wk ++ [v] } t st on)):=by
 obtain ⟨h1,h2⟩:=put_xb h ht (f:={ thAt x.C t with st:=st,on:=on }) (h.at t) hst x.ev (x.wk ++ [v]) x.wp
 rw [List.length_append,List.length_singleton] at h1 h2
 refine ⟨h1.le (by omega) (by omega),fun hj=>?_⟩
 obtain ⟨a1,a2,a3,a4⟩:=h2 hj
 exact ⟨m - 1,b - 1,by omega,by omega,a4.le (by omega) (by omega)⟩
theorem tellT_ok {f:Th} {l:List Int} (h:okT f):okT (tellT f l).1:=by
 unfold tellT
 split
 ·exact okT_end _
 ·exact ⟨pushL_sk l f _ h.1,pushL_okB l f _ h.1 h.2⟩
def XBk (E:Xs→Nat→Int→Xs):Prop:=∀ (m b w:Nat) (x:Xs) (t:Nat) (c:Int),XB m b w x→t < x.C.th.length→XB m (b+1) w (E x t c)
theorem tell_xb {E:Xs→Nat→Int→Xs} (hE:XBk E) {m b w:Nat} {x:Xs} (h:XB m b w x) {t:Nat} (ht:t < x.C.th.length) (l:List Int):XB m (b+1) w (tellE E x t l).1∧((tellE E x t l).2 = true→XB m b w (tellE E x t l).1):=by
 have key:(tellT (thAt x.C t) l).2 = true→XB m b w { x with C:=putT x.C t (tellT (thAt x.C t) l).1 }:=fun hb=>by
  have hn:=nj_put x.C t (tellT (thAt x.C t) l).1 ht
  rw [(tellT_st hb).1] at hn
  have hnn:nj (putT x.C t (tellT (thAt x.C t) l).1) = nj x.C:=by omega
  refine ⟨by show nj (putT x.C t _)≤m; rw [hnn]; exact h.jn,by simpa [putT] using h.tl,fun f hf=>?_,by show x.ev.length+nj (putT x.C t _)≤b; rw [hnn]; exact h.ev,by show x.wp.length+nj (putT x.C t _)≤b; rw [hnn]; exact h.wp,by show x.wk.length+nj (putT x.C t _)≤w; rw [hnn]; exact h.wk⟩
  rcases mem_put (C:=x.C) hf with hf | rfl
  ·exact h.th f hf
  ·exact tellT_ok (h.at t)
 unfold tellE
 split
 ·rename_i hb
  exact ⟨(key hb).le (by omega) (Nat.le_refl _),fun _=>key hb⟩
 ·exact ⟨hE _ _ _ _ _ _ h ht,fun h=>by cases h⟩
theorem wake_xb {E:Xs→Nat→Int→Xs} (hE:XBk E) {m b w:Nat} {x:Xs} (h:XB m b w x) {t:Nat} (ht:t < x.C.th.length) (l:List Int):XB m (b+1) (w+1) (wakeE E x t l)∧((thAt x.C t).st = 2→XB m b w (wakeE E x t l)):=by
 have key:∀ m a w,XB m a w (restX { x with wk:=x.wk ++ [(t:Int)] } t 0 0)→XB m (a+1) w (wakeE E x t l):=fun m a w ha=>by
  have h2:=tell_xb hE ha (t:=t) (by rw [rest_len]; exact ht) l
  unfold wakeE
  split
  ·rename_i hb
   have h3:=h2.2 hb
   exact ⟨h3.jn,h3.tl,h3.th,by have:=h3.ev; show (tellE E _ t l).1.ev.length+nj (tellE E _ t l).1.C≤_; omega,by have:=h3.wp; show ((tellE E _ t l).1.wp ++ [_]).length+nj (tellE E _ t l).1.C≤_; rw [List.length_append,List.length_singleton]; omega,h3.wk⟩
  ·exact h2.1
 obtain ⟨h1,h2⟩:=rest_xb h ht (t:Int) 0 0 (by decide)
 refine ⟨key m b _ h1,fun hj=>?_⟩
 obtain ⟨m',a,rfl,rfl,ha⟩:=h2 hj
 have h3:=key m' a w ha
 exact ⟨by have:=h3.jn; omega,h3.tl,h3.th,h3.ev,h3.wp,h3.wk⟩
theorem joins_lt {y:Xs} {t k:Nat} (h:joins y t k = true):k < y.C.th.length∧(thAt y.C k).st = 2:=by
 have h1:=(of_decide_eq_true h).1
 exact ⟨lt_of_st (by omega),h1⟩
theorem fold_xb {E:Xs→Nat→Int→Xs} (hE:XBk E) {m b w:Nat} (t:Nat) (c:Int):∀ (l:List Nat) (y:Xs),XB m b w y→XB m b w (l.foldl (endR E t c) y)
 | [],y,h=>h
 | k :: l,y,h=>fold_xb hE t c l _ (by
  unfold endR
  split
  ·rename_i hj
   exact (wake_xb hE h (joins_lt hj).1 [c]).2 (joins_lt hj).2
  ·exact h)
theorem end_xb:∀ (n:Nat),XBk (endX n)
 | 0=>fun _ _ _ _ _ _ h ht=>dead_xb h ht _
 | n+1=>fun _ _ _ _ _ _ h ht=>by
  rw [endX]
  exact fold_xb (end_xb n) _ _ _ _ (dead_xb h ht _)
theorem fold_filter {E:Xs→Nat→Int→Xs} (hE:∀ x t c,Tame t x (E x t c)) (x:Xs) (t:Nat) (c:Int):∀ (l:List Nat) (y:Xs),Tame t x y→l.foldl (endR E t c) y = (l.filter (fun k=>decide ((thAt x.C k).st = 2))).foldl (endR E t c) y
 | [],y,h=>rfl
 | k :: l,y,h=>by
  by_cases hk:(thAt x.C k).st = 2
  ·rw [List.filter_cons,if_pos (decide_eq_true hk)]
   exact fold_filter hE x t c l _ (endR_tame hE x t c y h k)
  ·have e:endR E t c y k = y:=by
    unfold endR
    rw [if_neg]
    intro hj
    have h2:=(joins_lt hj).2
    exact hk (by rw [← h.join k h2]; exact h2)
   rw [List.filter_cons,if_neg (by rw [decide_eq_false hk]; decide),List.foldl_cons,e]
   exact fold_filter hE x t c l y h
@[reducible] def xS (g:Pg) (u:Int) (x:Xs):D:=xD g x.C u x.ev x.wk
def RC (g:Pg) (u:Int) (n:Nat):Prop:=∀ (x:Xs) (t:Nat) (c:Int) (b w:Nat),XB n b w x→b≤50000→w≤50000→t < x.C.th.length→Spec Tryz.prog 144 [xS g u x,.int .i64 t,.int .i64 c] [] (fun d os'=>d = xS g u (endX n x t c)∧os' = [])
theorem th_at0 {C:Cr} {t:Nat} (ht:t < C.th.length):(C.th.map thD)[t]? = some (thD (thAt C t)):=by
 rw [thAt_lt ht]; exact get_map (List.getElem?_eq_getElem ht)
theorem with95p (C:Cr) (t:Nat) (ht:t < C.th.length) (f:Th) (hl:C.th.length≤100):Spec Tryz.prog 95 [coreV C,.int .i64 t,thD f] [] (fun d os'=>d = coreV (putT C t f)∧os' = []):=with95 C t ht f (by omega)
theorem tell200 {g:Pg} {u:Int} {n b w:Nat} (hE:RC g u n) {x:Xs} (hx:XB n b w x) (hb:b≤50000) (hw:w≤50000) {t:Nat} (ht:t < x.C.th.length) (l:List Int) (hl:l.length≤1000) :
  Spec Tryz.prog 200 [xS g u x,.int .i64 t,ints l] [] (fun d os'=>d = xS g u (tellE (endX n) x t l).1∧os' = []):=by
 have hg:=th_at0 ht
 have hm:(x.C.th.map thD).length = x.C.th.length:=List.length_map ..
 obtain ⟨⟨f,b2⟩,hT⟩:∃ r,tellT (thAt x.C t) l = r:=⟨_,rfl⟩
 have hs:=tell100 (thAt x.C t) (hx.at t).2 l (hx.at t).1 (by omega)
 rw [hT] at hs
 cases b2 with
 | true =>
  have hR:(tellE (endX n) x t l).1 = { x with C:=putT x.C t f }:=by unfold tellE; rw [hT,if_pos rfl]
  rw [hR]
  refine Spec.frz (post':=fun d=>d = xS g u { x with C:=putT x.C t f }) ?_
  refine Spec.by Tryz.func200 rfl (by decide) (by decide +kernel) rfl ?_
  refine goA ?_
  refine Opt.of hg ?_
  refine goA ?_
  refine Call.mk ((hs).only _ rfl (by rintro d rfl; rfl)) ?_; rintro d os' ⟨rfl,rfl⟩
  refine goA ?_
  refine Call.mk ((with95p x.C t ht f hx.tl).only _ rfl (by rintro d rfl; rfl)) ?_; rintro d os' ⟨rfl,rfl⟩
  refine goA ?_
  refine Ret.mk [.cell 6 142] rfl ?_; (refine goA ?_)
  exact ⟨_,.same _,rfl,rfl⟩
 | false =>
  have hR:(tellE (endX n) x t l).1 = endX n x t 2:=by unfold tellE; rw [hT,if_neg Bool.false_ne_true]
  rw [hR]
  refine Spec.frz (post':=fun d=>d = xS g u (endX n x t 2)) ?_
  refine Spec.by Tryz.func200 rfl (by decide) (by decide +kernel) rfl ?_
  refine goA ?_
  refine Opt.of hg ?_
  refine goA ?_
  refine Call.mk ((hs).only _ rfl (by rintro d rfl; rfl)) ?_; rintro d os' ⟨rfl,rfl⟩
  refine goA ?_
  refine Call.mk ((hE x t 2 b w hx hb hw ht).only _ rfl (by rintro d rfl; rfl)) ?_; rintro d os' ⟨rfl,rfl⟩
  refine goA ?_
  refine Ret.mk [.cell 6 142] rfl ?_; (refine goA ?_)
  exact ⟨_,.same _,rfl,rfl⟩
theorem int_snocO (l:List Int) (v:Int):O.row 3 1 true (l.map (D.int .i64) ++ [.int .i64 v]) = O.row 3 1 true ((l ++ [v]).map (D.int .i64)):=by
 rw [List.map_append]; rfl
@[reducible] def xW (g:Pg) (C:Cr) (t:Int) (ev:List Ev) (w:D):D:=.agg [.lst 2 false (g.fu.map fuD),.int .i64 g.mu,ints g.co,ints g.se,ints g.ch,.lst 1 false (g.cs.map ints),.int .i64 g.th,.int .i64 C.now,ths C.th,ints C.L.ow,ints C.L.co,lists C.bu,lists C.L.lk,lists C.L.wq,lists C.L.dq,lists C.sq,lists C.rq,.int .i64 t,evs ev,w]
@[reducible] def zX:D:=.agg [.nils,.int .i64 0,.nils,.nils,.nils,.nils,.int .i64 0,.int .i64 0,.nils,.nils,.nils,.nils,.nils,.nils,.nils,.nils,.nils,.int .i64 0,.nils,.nils]
theorem wk_view {g:Pg} {C:Cr} {u:Int} {ev:List Ev} {F:Nat→Bool} {os:Objs} {k:Nat} {l:List Int} (hF:F k = true) (hat:os.at k 0 = .row 3 1 true (l.map (D.int .i64))):View F os (xW g C u ev (.sl k 0 1 0 l.length none)) (xW g C u ev (ints l)) :=
 .agg (.cons (.same _) (.cons (.same _) (.cons (.same _) (.cons (.same _) (.cons (.same _) (.cons (.same _) (.cons (.same _) (.cons (.same _) (.cons (.same _) (.cons (.same _) (.cons (.same _) (.cons (.same _) (.cons (.same _) (.cons (.same _) (.cons (.same _) (.cons (.same _) (.cons (.same _) (.cons (.same _) (.cons (.same _) (.cons (View.slAll (f:=false) hF hat (List.length_map ..) (by simp) (ViewL.same _) (pureL_map (fun _=>rfl) _)) .nil))))))))))))))))))))
theorem wake199 {g:Pg} {u:Int} {n b w:Nat} (hE:RC g u n) {x:Xs} {t:Nat} (hx:XB n b w (restX { x with wk:=x.wk ++ [(t:Int)] } t 0 0)) (hb:b≤50000) (hw:w≤50000) (ht:t < x.C.th.length) (l:List Int) (hl:l.length≤1000) :
  Spec Tryz.prog 199 [xS g u x,.int .i64 t,ints l] [] (fun d os'=>d = xS g u (wakeE (endX n) x t l)∧os' = []):=by
 have hm:(x.wk.map (D.int .i64)).length = x.wk.length:=List.length_map ..
 have hwk:=hx.wk
 have hwl:x.wk.length+1≤w:=by
  have:(x.wk ++ [(t:Int)]).length+nj _≤w:=hwk
  rw [List.length_append,List.length_singleton] at this; omega
 have htl:x.C.th.length≤100:=by have:=hx.tl; rwa [rest_len] at this
 have hR:xS g u (wakeE (endX n) x t l) = xS g u (tellE (endX n) (restX { x with wk:=x.wk ++ [(t:Int)] } t 0 0) t l).1:=by
  unfold wakeE
  split <;> rfl
 rw [hR]
 have hs:=tell200 hE hx hb hw (t:=t) (by rw [rest_len]; exact ht) l hl
 have hr:=rest146 g x.C u x.ev (x.wk ++ [(t:Int)]) t ht (by omega) 0 0
 rw [show xD g { x.C with th:=x.C.th.set t { x.C.th[t] with st:=0,on:=0 } } u x.ev (x.wk ++ [(t:Int)]) = xS g u (restX { x with wk:=x.wk ++ [(t:Int)] } t 0 0) by
  unfold restX putT; rw [thAt_lt ht]] at hr
 obtain ⟨y,hy⟩:∃ y,restX { x with wk:=x.wk ++ [(t:Int)] } t 0 0 = y:=⟨_,rfl⟩
 rw [hy] at hs hr
 rw [hy]
 refine Spec.frz (post':=fun d=>d = xS g u (tellE (endX n) y t l).1) ?_
 refine Spec.by Tryz.func199 rfl (by decide) (by decide +kernel) rfl ?_
 refine goA ?_
 refine And.intro (fun h=>?_) (fun h=>?_)
 ·have he:x.wk = []:=List.map_eq_nil_iff.1 h
  rw [he,List.nil_append] at hr
  refine goA ?_
  refine App.only false rfl rfl ?_
  refine goA ?_
  refine App.only false rfl rfl ?_
  refine goA ?_
  refine Call.mk ((hr).only _ rfl (by rintro d rfl; rfl)) ?_; rintro d os' ⟨rfl,rfl⟩
  refine goA ?_
  refine Call.mk ((hs).only _ rfl (by rintro d rfl; rfl)) ?_; rintro d os' ⟨rfl,rfl⟩
  refine goA ?_
  refine Ret.mk [.cell 6 142] rfl ?_; (refine goA ?_)
  exact ⟨_,.same _,rfl,rfl⟩
 ·refine And.intro (by rw [hm]; show x.wk.length * 8≤_; omega) (And.intro (by omega) ?_)
  rw [show D.pureL (x.wk.map (D.int .i64)) = true from pureL_map (fun _=>rfl) _]
  refine App.own ?_
  refine goA ?_
  refine App.only false rfl rfl ?_
  refine goR ?_
  refine Pt.weak (Weak.on [(1,.int .i64 t),(2,ints l),(3,.ptr 0 0 20 0 0),(6,.ptr 1 0 20 0 0)] [one (.row 142 20 false [xW g x.C u x.ev (.sl 3 0 1 0 ((x.wk.map (D.int .i64)).length+1) none)]),one (.row 142 20 false [zX]),one .gone,one (.row 3 1 true (x.wk.map (D.int .i64) ++ [.int .i64 t]))]) ?_
  rw [int_snocO,show (x.wk.map (D.int .i64)).length+1 = (x.wk ++ [(t:Int)]).length by rw [List.length_append,List.length_singleton,List.length_map]]
  refine Pt.weak (Weak.frzO (fun i=>Nat.beq i 3) [] 0 (es:=[xW g x.C u x.ev (.sl 3 0 1 0 (x.wk ++ [(t:Int)]).length none)]) rfl rfl [xW g x.C u x.ev (ints (x.wk ++ [(t:Int)]))] rfl (.cons (wk_view (l:=x.wk ++ [(t:Int)]) rfl rfl) .nil) trivial) ?_
  refine goA ?_
  refine Call.mk ((hr).only _ rfl (by rintro d rfl; rfl)) ?_; rintro d os' ⟨rfl,rfl⟩
  refine goA ?_
  refine Call.mk ((hs).only _ rfl (by rintro d rfl; rfl)) ?_; rintro d os' ⟨rfl,rfl⟩
  refine goA ?_
  refine Ret.mk [.cell 6 142] rfl ?_; (refine goA ?_)
  exact ⟨_,.same _,rfl,rfl⟩
theorem end144m {g:Pg} {u:Int} {n:Nat} {E:Xs→Nat→Int→Xs} (hEt:∀ x t c,Tame t x (E x t c)) (hEx:XBk E)
  (hW:∀ (y:Xs) (k:Nat) (c:Int) (b w:Nat),XB n b w y→b≤50001→w≤50000→(thAt y.C k).st = 2→Spec Tryz.prog 199 [xS g u y,.int .i64 k,ints [c]] [] (fun d os'=>d = xS g u (wakeE E y k [c])∧os' = []))
  {x:Xs} {t:Nat} {c:Int} {b w:Nat} (hx:XB n b w x) (hb:b≤50000) (hw:w≤50000) (ht:t < x.C.th.length) :
  Spec Tryz.prog 144 [xS g u x,.int .i64 t,.int .i64 c] [] (fun d os'=>d = xS g u ((List.range x.C.th.length).foldl (endR E t c) (deadX x t c))∧os' = []):=by
 obtain ⟨x0,hx0⟩:∃ x0,deadX x t c = x0:=⟨_,rfl⟩
 have hxb:=dead_xb hx ht c
 have hlen:x0.C.th.length = x.C.th.length:=by rw [← hx0]; simp [deadX,seeX,putT]
 have hsee:=see151 g (putT x.C t (endT c)) u x.ev x.wk 2 t c (by have:=hx.ev; omega)
 rw [show xD g (putT x.C t (endT c)) u (x.ev ++ [(2,(t:Int),c)]) x.wk = xS g u x0 by rw [← hx0]; rfl] at hsee
 have htl:=hx.tl
 rw [hx0] at hxb ⊢
 obtain ⟨R,hR⟩:∃ R,(List.range x.C.th.length).foldl (endR E t c) x0 = R:=⟨_,rfl⟩
 rw [hR]
 refine Spec.frz (post':=fun d=>d = xS g u R) ?_
 refine Spec.by Tryz.func144 rfl (by decide) (by decide +kernel) rfl ?_
 refine goA ?_
 refine Call.mk ((end34 c).only _ rfl (by rintro d rfl; rfl)) ?_; rintro d os' ⟨rfl,rfl⟩
 refine goA ?_
 refine Call.mk ((with95p x.C t ht (endT c) hx.tl).only _ rfl (by rintro d rfl; rfl)) ?_; rintro d os' ⟨rfl,rfl⟩
 refine goA ?_
 refine Call.mk ((hsee).only _ rfl (by rintro d rfl; rfl)) ?_; rintro d os' ⟨rfl,rfl⟩
 refine goA ?_
 refine Loop.inv (A:=Nat × Xs) (List.range 52) (fun a=>[(1,.int .i64 t),(2,.int .i64 c),(3,.ptr 0 0 20 0 0),(6,.ptr 1 0 20 0 0),(7,.int .i64 (a.1:Int))]) (fun a=>[one (.row 142 20 false [xS g u a.2]),one (.row 142 20 false [zX])]) (fun a=>a.1≤x.C.th.length∧((List.range x.C.th.length).drop a.1).foldl (endR E t c) a.2 = R∧Tame t x0 a.2∧XB n (b+1) w a.2) (fun a=>x.C.th.length - a.1) (0,x0) ⟨Nat.zero_le _,hR,Tame.refl _ _,hxb⟩ ?_ ?_
 ·exact Weak.start' rfl rfl tld
 rintro ⟨i,y⟩ ⟨hi,hy,hty,hyb⟩
 dsimp only at hi hy hty hyb ⊢
 have hyl:y.C.th.length = x.C.th.length:=by rw [hty.len,hlen]
 have hmy:(y.C.th.map thD).length = y.C.th.length:=List.length_map ..
 refine goA ?_
 refine Br.dec (fun h0=>?_) (fun h0=>?_)
 ·have hil:i < x.C.th.length:=by omega
  have hk:i < y.C.th.length:=by omega
  rw [List.drop_eq_getElem_cons (by rw [List.length_range]; exact hil),List.foldl_cons,List.getElem_range] at hy
  have hgk:=th_at0 hk
  refine goA ?_
  refine Opt.of hgk ?_
  refine goA ?_
  refine Br.dec (fun h1=>?_) (fun h1=>?_)
  ·refine goA ?_
   refine Opt.of hgk ?_
   refine goA ?_
   refine Br.dec (fun h2=>?_) (fun h2=>?_)
   ·have hj:joins y t i = true:=decide_eq_true ⟨h1,h2⟩
    rw [endR,if_pos hj] at hy
    have hzb:=(wake_xb hEx hyb hk [c]).2 h1
    have htw:Tame t x0 (wakeE E y i [c]):=hty.trans (wake_tame hEt y i [c]) (Or.inr (Or.inl h1))
    refine goA ?_
    refine App.only false rfl rfl ?_
    refine goA ?_
    refine Call.mk ((hW y i c (b+1) w hyb (by omega) hw h1).only _ rfl (by rintro d rfl; rfl)) ?_; rintro d os' ⟨rfl,rfl⟩
    refine goA ?_
    refine ⟨_,_,_,?_,⟨(i+1,wakeE E y i [c]),?_,rfl,rfl,rfl⟩,?_⟩
    ·show x.C.th.length - (i+1) < x.C.th.length - i; omega
    ·exact ⟨hil,hy,htw,hzb⟩
    ·refine Weak.backT 2 (by simp) (by first | rfl | kernel_rfl) (by kernel_rfl) (bl rfl) tld (by kernel_rfl) (by kernel_rfl)
   ·have hj:¬ joins y t i = true:=fun hj=>h2 (of_decide_eq_true hj).2
    rw [endR,if_neg hj] at hy
    refine goA ?_
    refine ⟨_,_,_,?_,⟨(i+1,y),?_,rfl,rfl,rfl⟩,?_⟩
    ·show x.C.th.length - (i+1) < x.C.th.length - i; omega
    ·exact ⟨hil,hy,hty,hyb⟩
    ·refine Weak.backT 2 (by simp) (by first | rfl | kernel_rfl) (by kernel_rfl) (bl rfl) tld (by kernel_rfl) (by kernel_rfl)
  ·have hj:¬ joins y t i = true:=fun hj=>h1 (of_decide_eq_true hj).1
   rw [endR,if_neg hj] at hy
   refine goA ?_
   refine ⟨_,_,_,?_,⟨(i+1,y),?_,rfl,rfl,rfl⟩,?_⟩
   ·show x.C.th.length - (i+1) < x.C.th.length - i; omega
   ·exact ⟨hil,hy,hty,hyb⟩
   ·refine Weak.backT 2 (by simp) (by first | rfl | kernel_rfl) (by kernel_rfl) (bl rfl) tld (by kernel_rfl) (by kernel_rfl)
 ·have hie:i = x.C.th.length:=by omega
  have hyR:y = R:=by rw [hie,List.drop_eq_nil_of_le (by rw [List.length_range]; exact Nat.le_refl _)] at hy; exact hy
  refine goA ?_
  refine Ret.mk [.cell 6 142] rfl ?_; (refine goA ?_)
  exact ⟨_,.same _,rfl,by rw [hyR]; rfl⟩
theorem no_joinR {C:Cr} (h:nj C≤0) (k:Nat):(thAt C k).st ≠ 2:=by
 intro h2
 have hk:=lt_of_st (C:=C) (t:=k) (by omega)
 have:0 < nj C:=List.countP_pos_iff.2 ⟨C.th[k],List.getElem_mem hk,by rw [thAt_lt hk] at h2; exact decide_eq_true h2⟩
 omega
theorem end_allR (g:Pg) (u:Int):∀ (n:Nat),RC g u n
 | 0=>fun x t c b w hx hb hw ht=>by
  have h:=end144m (E:=endX 0) (g:=g) (u:=u) (end_tame 0) (end_xb 0) (fun y k c b w hy _ _ h2=>absurd h2 (no_joinR hy.jn k)) (c:=c) hx hb hw ht
  rw [fold_filter (end_tame 0) (deadX x t c) t c _ _ (Tame.refl t _)] at h
  rw [List.filter_eq_nil_iff.2 (fun k _=>by
   rw [decide_eq_false (no_joinR (dead_xb hx ht c).jn k)]; decide)] at h
  exact h
 | n+1=>fun x t c b w hx hb hw ht=>by
  refine end144m (E:=endX n) (end_tame n) (end_xb n) (fun y k c b w hy hb2 hw2 h2=>?_) hx hb hw ht
  have hk:=lt_of_st (C:=y.C) (t:=k) (by omega)
  obtain ⟨m',b',e1,e2,hr⟩:=(rest_xb hy hk (k:Int) 0 0 (by decide)).2 h2
  have:n = m':=by omega
  subst this
  exact wake199 (end_allR g u n) hr (by omega) hw2 hk [c] (by simp)
theorem wrapu {n:Int} (h0:0≤n) (h1:n < 18446744073709551616):n = IntKind.u64.wrap n:=by rw [IntKind.wrap_u64]; omega
theorem and32 (a:Int) (h0:0≤a) (h1:a < 4294967296):a = IntKind.u64.wrap (BitVec.ofInt IntKind.u64.bits a &&& BitVec.ofInt IntKind.u64.bits 4294967295).toNat:=by
 obtain ⟨n,rfl⟩:=Int.eq_ofNat_of_zero_le h0
 have hn:n < 4294967296:=by omega
 have e:(BitVec.ofInt IntKind.u64.bits (n:Int) &&& BitVec.ofInt IntKind.u64.bits 4294967295).toNat = n:=by
  rw [BitVec.toNat_and]
  have e1:(BitVec.ofInt IntKind.u64.bits (n:Int)).toNat = n:=by
   rw [BitVec.toNat_ofInt]
   show ((n:Int) % ((2 ^ 64:Nat):Int)).toNat = n
   omega
  have e2:(BitVec.ofInt IntKind.u64.bits 4294967295).toNat = 2 ^ 32 - 1:=by decide
  rw [e1,e2,Nat.and_two_pow_sub_one_eq_mod]
  exact Nat.mod_eq_of_lt hn
 rw [e]
 exact wrapu h0 (by omega)
theorem shr32 (a:Int) (h0:0≤a) (h1:a < 4294967296):0 = a / 2 ^ min (32:Int).toNat IntKind.u64.bits:=by
 have:min (32:Int).toNat IntKind.u64.bits = 32:=by decide
 rw [this]
 omega
theorem mul226 (a b:Int) (ha:0≤a∧a≤1000) (hb:0≤b∧b≤1000) (hab:a * b≤1000000∧0≤a * b):Spec Tryz.prog 229 [.int .u64 a,.int .u64 b] [] (fun d os'=>d = .tup [.int .u64 0,.int .u64 (a * b)]∧os' = []):=by
 refine Spec.by Tryz.func229 rfl (by decide) (by decide +kernel) rfl ?_
 refine goA ?_
 refine Nm.mk a (and32 a (by omega) (by omega)) ?_
 refine goA ?_
 refine Nm.mk 0 (shr32 a (by omega) (by omega)) ?_
 refine goA ?_
 refine Nm.mk b (and32 b (by omega) (by omega)) ?_
 refine goA ?_
 refine Nm.mk 0 (shr32 b (by omega) (by omega)) ?_
 refine goA ?_
 refine Ar.mk (a * b) (wrapu (by omega) (by omega)) ?_
 refine goA ?_
 refine Ar.mk 0 (by rw [Int.zero_mul]; exact wrapu (by omega) (by omega)) ?_
 refine goA ?_
 refine Nm.mk 0 (shr32 (a * b) (by omega) (by omega)) ?_
 refine goA ?_
 refine Ar.mk 0 (wrapu (by omega) (by omega)) ?_
 refine goA ?_
 refine Nm.mk 0 (and32 0 (by omega) (by omega)) ?_
 refine goA ?_
 refine Nm.mk 0 (shr32 0 (by omega) (by omega)) ?_
 refine goA ?_
 refine Ar.mk 0 (by rw [Int.mul_zero]; exact wrapu (by omega) (by omega)) ?_
 refine goA ?_
 refine Ar.mk 0 (wrapu (by omega) (by omega)) ?_
 refine goA ?_
 refine Ar.mk 0 (wrapu (by omega) (by omega)) ?_
 refine goA ?_
 refine Ar.mk 0 (wrapu (by omega) (by omega)) ?_
 refine goA ?_
 refine Nm.mk 0 (shr32 0 (by omega) (by omega)) ?_
 refine goA ?_
 refine Ar.mk 0 (wrapu (by omega) (by omega)) ?_
 refine goA ?_
 refine Ar.mk (a * b) (wrapu (by omega) (by omega)) ?_
 refine goA ?_
 exact Ret.mk [.tmp 4,.tmp 5] rfl ⟨rfl,rfl⟩
theorem mul193 (a b:Int) (ha:0≤a∧a≤1000) (hb:0≤b∧b≤1000) (hab:a * b≤1000000∧0≤a * b):Spec Tryz.prog 197 [.int .u64 a,.int .u64 b] [] (fun d os'=>d = .tup [.int .u64 0,.int .u64 (a * b)]∧os' = []):=by
 refine Spec.by Tryz.func197 rfl (by decide) (by decide +kernel) rfl ?_
 refine goA ?_
 refine Call.mk ((mul226 a b ha hb hab).only _ rfl (by rintro d rfl; rfl)) ?_; rintro d os' ⟨rfl,rfl⟩
 refine goA ?_
 exact Ret.mk [.tmp 4,.tmp 5] rfl ⟨rfl,rfl⟩
def repL148 (v:Int) (n k:Nat):List Int:=List.replicate k v ++ List.replicate (n - k) 0
theorem rep148_len (v:Int) (n k:Nat) (h:k≤n):(repL148 v n k).length = n:=by simp [repL148]; omega
theorem rep148_splice (v:Int) (n k j:Nat) (h:k+j≤n):splice ((repL148 v n k).map (D.int .i64)) k (List.replicate j (D.int .i64 v)) = (repL148 v n (k+j)).map (D.int .i64):=by
 have e1:((repL148 v n k).map (D.int .i64)).take k = List.replicate k (D.int .i64 v):=by
  simp only [repL148,List.map_append,List.map_replicate]
  exact List.take_left' (by simp)
 have e2:((repL148 v n k).map (D.int .i64)).drop (k+(List.replicate j (D.int .i64 v)).length) = List.replicate (n - (k+j)) (D.int .i64 0):=by
  simp only [repL148,List.map_append,List.map_replicate,List.length_replicate]
  rw [List.drop_append,List.drop_eq_nil_of_le (by simp)]
  simp
  omega
 rw [splice,e1,e2]
 simp only [repL148,List.map_append,List.map_replicate]
 rw [← List.append_assoc,List.replicate_append_replicate]
theorem repeat148 (v:Int) (n:Nat) (hn:n≤1000):Spec Tryz.prog 129 [ints [v],.int .i64 n] [] (fun d os'=>d = .sl 0 0 1 0 n none∧os' = [rowI (List.replicate n v)]):=by
 refine Spec.by Tryz.func129 rfl (by decide) (by decide +kernel) rfl ?_
 refine goA ?_
 refine Ar.mk 1 (wrapu (by omega) (by omega)) ?_
 refine goA ?_
 refine Ar.mk (n:Int) (wrapu (by omega) (by omega)) ?_
 refine goA ?_
 refine Call.mk ((mul193 1 (n:Int) (by omega) (by omega) (by omega)).only _ rfl (by rintro d rfl; rfl)) ?_; rintro d os' ⟨rfl,rfl⟩
 rw [Int.one_mul]
 refine goA ?_
 rw [Int.toNat_natCast]
 refine App.own ?_
 refine goA ?_
 cases n with
 | zero =>
  refine Nm.mk 0 (Nat.min_zero _).symm ?_
  refine ⟨fun _=>?_,fun h=>absurd h (by decide)⟩
  refine goA ?_
  refine Loop.inv (A:=Unit) (List.range 48) (fun _=>[(7,.sl 0 0 1 0 0 none),(8,.int .i64 0)]) (fun _=>[rowI []]) (fun _=>True) (fun _=>0) () trivial ?_ ?_
  ·exact Weak.start' rfl rfl tld
  intro _ _
  refine goA ?_
  exact Ret.mk [.tmp 4] rfl ⟨rfl,rfl⟩
 | succ n =>
  refine Nm.mk 1 (by show 1 = min 1 (n+1); omega) ?_
  refine ⟨fun h=>absurd h (by decide),fun _=>?_⟩
  refine goA ?_
  refine Loop.inv (A:=Nat) (List.range 48) (fun k=>[(7,.sl 0 0 1 0 (n+1) none),(8,.int .i64 (k:Int))]) (fun k=>[rowI (repL148 v (n+1) k)]) (fun k=>1≤k∧k≤n+1) (fun k=>n+1 - k) 1 ⟨Nat.le_refl _,by omega⟩ ?_ ?_
  ·have h1:=rep148_splice v (n+1) 0 1 (by omega)
   have e:(repL148 v (n+1) 0).map (D.int .i64) = List.replicate (n+1) (D.int .i64 0):=by simp [repL148]
   rw [e] at h1
   exact Weak.trans (Weak.objs (os':=[rowI (repL148 v (n+1) 1)]) (congrArg (fun r=>([one (.row 3 1 true r)]:Objs)) h1)) (Weak.start' rfl rfl tld)
  intro k hk
  have hkl:=rep148_len v (n+1) k hk.2
  have hkm:((repL148 v (n+1) k).map (D.int .i64)).length = n+1:=by rw [List.length_map]; exact hkl
  refine goA ?_
  refine Br.dec (fun h1=>?_) (fun h1=>?_)
  ·refine goA ?_
   obtain ⟨j,hj⟩:∃ j,min k (n+1 - k) = j:=⟨_,rfl⟩
   have hnews:List.take j (List.take ((k:Int).toNat - Int.toNat 0) (List.drop (0+Int.toNat 0) ((repL148 v (n+1) k).map (D.int .i64)))) = List.replicate j (D.int .i64 v):=by
    rw [show (k:Int).toNat - Int.toNat 0 = k by omega,show 0+Int.toNat 0 = 0 by rfl,List.drop_zero,List.take_take,show min j k = j by omega]
    simp only [repL148,List.map_append,List.map_replicate]
    rw [List.take_append_of_le_length (by simp; omega),List.take_replicate]
    congr 1; omega
   have hmin:j = min (List.take ((k:Int).toNat - Int.toNat 0) (List.drop (0+Int.toNat 0) ((repL148 v (n+1) k).map (D.int .i64)))).length (((n+1:Nat):Int).toNat - (k:Int).toNat):=by
    rw [List.length_take,List.length_drop,hkm]; omega
   refine Nm.mk j hmin ?_
   dsimp only
   rw [hnews]
   refine ⟨fun h=>absurd h (by omega),fun _=>?_⟩
   refine ⟨fun _=>by rw [← List.map_replicate]; exact pureL_map (fun _=>rfl) _,?_⟩
   refine goA ?_
   refine ⟨_,_,_,?_,⟨k+j,?_,rfl,rfl,rfl⟩,?_⟩
   ·show n+1 - (k+j) < n+1 - k; omega
   ·exact ⟨by omega,by omega⟩
   ·have h2:=rep148_splice v (n+1) k j (by omega)
    have e0:0+(k:Int).toNat = k:=by omega
    refine Weak.backT 1 (by simp) ?_ (by kernel_rfl) (bl rfl) tld (by kernel_rfl) (by kernel_rfl)
    rw [e0]
    exact congrArg (fun r=>([one (.row 3 1 true r)]:Objs)) h2
  ·obtain rfl:k = n+1:=by omega
   refine goA ?_
   refine Ret.mk [.tmp 4] rfl ⟨rfl,?_⟩
   have e:repL148 v (n+1) (n+1) = List.replicate (n+1) v:=by simp [repL148]
   rw [e]
theorem Spec.rowAt {P:Program} {f:FuncId} {args:List D} {t:TypeId} {sz e off:Nat} {pr:Bool} {es:List D} {post:D→List D→Prop} (h:Spec P f (.ptr 0 0 sz e off :: args) [one (.row t sz pr es)] (fun d os'=>∃ es',post d es'∧os' = [one (.row t sz pr es')]))
  (i:Nat) (os:Objs) (hat:os.at i 0 = .row t sz pr es) (hargs:D.pureL args = true) (hx:D.pureL es = true) (hp:∀ d y,post d y→d.pure = true∧D.pureL y = true) :
  Spec P f (.ptr i 0 sz e off :: args) os (fun d os'=>∃ es',post d es'∧os' = os.put i 0 (.row t sz pr es')):=by
 have hil:=lt_of_at (os:=os) (i:=i) (j:=0) (by rw [hat]; simp)
 have:=h.frame os [(i,0)] rfl (by simp) (fun k p hk=>by
  cases k with
  | zero =>
   simp at hk; subst hk
   refine ⟨hil,?_,?_,fun j hj=>one_pos _ hj⟩
   ·rw [hat]
    show _ = O.mapId _ (.row t sz pr es)
    cases pr <;> simp only [O.mapId,mapIdL_pure _ _ hx]
   ·show O.sgl _ (.row t sz pr es) = true
    cases pr <;> simp [O.sgl,sglL_pure _ _ hx]
  | succ k=>simp at hk) (by simp [D.sglL,D.sgl,sglL_pure _ _ hargs])
 have e1:D.mapIdL (lead [(i,0)] os.length) (.ptr 0 0 sz e off :: args) = .ptr i 0 sz e off :: args:=by
  simp only [D.mapIdL,D.mapId,lead,mapIdL_pure _ _ hargs]
  rfl
 rw [e1] at this
 refine this.mono ?_
 rintro d os' ⟨d1,os1,⟨y,hy,rfl⟩,rfl,rfl⟩
 obtain ⟨h1,h2⟩:=hp _ _ hy
 refine ⟨y,by rw [mapId_pure _ _ h1]; exact hy,?_⟩
 simp only [merge,putAll,List.drop_one,List.length_cons,List.length_nil,List.drop_succ_cons,List.drop_zero,List.map_nil,List.append_nil,List.tail_cons]
 show os.put i 0 (O.mapId _ (.row t sz pr y)) = _
 cases pr <;> simp [O.mapId,mapIdL_pure _ _ h2]
theorem Weak.retellP {n0:Nat} {m:List (Nat × D)} {os:Objs} (k:Nat) {t:TypeId} {sz:Nat} {es:List D} (hk:os.at k 0 = .row t sz true es) (es':List D) (hl:es'.length = es.length) (h:∀ I us,repL bot I es us→repL bot I es' us) :
  Weak n0 { m:=m,objs:=os } { m:=m,objs:=os.put k 0 (.row t sz true es') }:=by
 intro ρ I w tm h1 h2 h3
 obtain ⟨g1,g2⟩:=h1.retell (k:=k) (by show os.at k 0 ≠ .gone; rw [hk]; simp) (.row t sz true es') (by
  intro p hp hok
  rw [show ({ m:=m,objs:=os }:St).objs = os from rfl,hk] at hok
  obtain ⟨a1,a2,a3⟩:=hok
  refine ⟨by rw [hl]; exact a1,a2,fun hpos=>?_⟩
  obtain ⟨arr,us,b1,b2,b3,b4,b5⟩:=a3 hpos
  exact ⟨arr,us,b1,b2,h I us b3,b4,b5⟩)
 exact ⟨ρ,I,g1,h2,Im.le_refl _,by rw [length_put]; exact h3,fun _ _ _=>rfl,fun _ hb=>.inl hb,g2⟩
theorem rep_full {ρ:Pl} {I:Im} {v:Value} {sz:Nat} {es:List D} (h:rep ρ I (.lst sz true es) v):rep ρ I (.lst sz false es) v:=by
 rw [rep] at h ⊢
 obtain ⟨A,c,us,e,h1,hm,h2,h3⟩:=h
 exact ⟨A,c,us,e,h1,hm,(fun h=>Bool.noConfusion h),h3⟩
theorem repL_set2 {ρ:Pl} {I:Im} {d d':D} (h:∀ v,rep ρ I d v→rep ρ I d' v):∀ (l:List D) (e:Nat) (vs:List Value),repL ρ I (l.set e d) vs→repL ρ I (l.set e d') vs
 | [],_,_,hr=>hr
 | x :: l,0,vs,hr=>by
  obtain ⟨u,us,rfl,hu,hr⟩:=repL_cons.1 hr
  exact repL_cons.2 ⟨u,us,rfl,h u hu,hr⟩
 | x :: l,e+1,vs,hr=>by
  obtain ⟨u,us,rfl,hu,hr⟩:=repL_cons.1 hr
  exact repL_cons.2 ⟨u,us,rfl,hu,repL_set2 h l e us hr⟩
theorem pureL_rows (Ls:List (List Int)):D.pureL (Ls.map ints) = true:=pureL_map (fun _=>rfl) _
theorem set_ints (Ls:List (List Int)) (e:Nat) (L:List Int):(Ls.map ints).set e (ints L) = (Ls.set e L).map ints:=by rw [List.map_set]
theorem push149 (Ls:List (List Int)) (e:Nat) (L:List Int) (hL:Ls[e]? = some L) (t:Int) (hl:L.length≤1000000):Spec Tryz.prog 221 [.ptr 0 0 1 e 0,.int .i64 t] [rowC Ls] (fun d os'=>∃ es',(d = .tup []∧es' = (Ls.set e (L ++ [t])).map ints)∧os' = [one (.row 23 1 true es')]):=by
 have hlm:(L.map (D.int .i64)).length = L.length:=List.length_map ..
 refine Spec.by Tryz.func221 rfl (by decide) (by decide +kernel) rfl ?_
 refine goA ?_
 refine Opt.of (get_map hL) ?_
 refine goA ?_
 refine Nm.mk (L.map (D.int .i64)) (by simp [List.take_of_length_le]) ?_
 refine goA ?_
 refine App.only false rfl rfl ?_
 refine goA ?_
 refine App.only false rfl rfl ?_
 refine goA ?_
 refine Opt.of (get_map hL) ?_
 refine goA ?_
 refine Ret.mk [] rfl ⟨_,⟨rfl,?_⟩,rfl⟩
 rw [← set_ints]
 exact congrArg (fun r=>(Ls.map ints).set e (.lst 1 false r)) (map_snoc _ _)
def headQ (L:List Int):Int:=L.headD (-1)
theorem pop156 (Ls:List (List Int)) (e:Nat) (L:List Int) (hL:Ls[e]? = some L) (hl:L.length≤1000000):Spec Tryz.prog 223 [.ptr 0 0 1 e 0] [rowC Ls] (fun d os'=>∃ es',(d = .int .i64 (headQ L)∧es' = (Ls.set e L.tail).map ints)∧os' = [one (.row 23 1 true es')]):=by
 cases L with
 | nil =>
  refine Spec.by Tryz.func223 rfl (by decide) (by decide +kernel) rfl ?_
  refine goA ?_
  refine Opt.of (get_map hL) ?_
  refine goA ?_
  refine Ret.mk [.tmp 2] rfl ⟨_,⟨rfl,?_⟩,rfl⟩
  rw [← set_ints]
  exact (set_same hL).symm
 | cons v L =>
  have hlm:(L.map (D.int .i64)).length = L.length:=List.length_map ..
  refine Spec.by Tryz.func223 rfl (by decide) (by decide +kernel) rfl ?_
  refine goA ?_
  refine Opt.of (get_map hL) ?_
  refine goA ?_
  refine Nm.mk (L.map (D.int .i64)) (by simp [List.take_of_length_le]) ?_
  refine goR ?_
  refine Opt.of (get_map hL) ?_
  refine goA ?_
  refine Ret.weak (Weak.on [(2,.int .i64 v)] [one (.row 23 1 true ((Ls.map ints).set e (.lst 1 true (L.map (D.int .i64)))))]) ?_
  refine Ret.weak (Weak.retellP 0 rfl ((Ls.map ints).set e (ints L)) (by rw [List.length_set,List.length_set]) (fun I us=>repL_set2 (fun v=>rep_full) _ _ _)) ?_
  refine Ret.mk [.tmp 2] rfl ⟨_,⟨rfl,?_⟩,rfl⟩
  rw [← set_ints]
  rfl
def sumL (l:List (List Int)):Nat:=(l.map List.length).sum
structure LkL (nm nw ns:Nat) (S:Lk):Prop where
 ow:S.ow.length = nm
 co:S.co.length = ns
 lk:S.lk.length = nm
 wq:S.wq.length = nw
 dq:S.dq.length = ns
 tot:sumL S.lk+sumL S.wq+sumL S.dq≤1000
theorem sumL_mem:∀ {l:List (List Int)} {L:List Int},L ∈ l→L.length≤sumL l
 | x :: l,L,h=>by
  unfold sumL
  rcases List.mem_cons.1 h with rfl | h
  ·simp
  ·have:=sumL_mem h; unfold sumL at this; simp; omega
theorem LkL.l1 {nm nw ns:Nat} {S:Lk} (h:LkL nm nw ns S):∀ L ∈ S.lk,L.length≤1000:=fun L hL=>by have:=sumL_mem hL; have:=h.tot; omega
theorem LkL.l2 {nm nw ns:Nat} {S:Lk} (h:LkL nm nw ns S):∀ L ∈ S.wq,L.length≤1000:=fun L hL=>by have:=sumL_mem hL; have:=h.tot; omega
theorem LkL.l3 {nm nw ns:Nat} {S:Lk} (h:LkL nm nw ns S):∀ L ∈ S.dq,L.length≤1000:=fun L hL=>by have:=sumL_mem hL; have:=h.tot; omega
structure Pyl where
 g:Pg
 now:Int
 t:Int
 th:D
 bu:D
 sq:D
 rq:D
 sn:D
 wk:D
@[reducible] def lkD (A:Pyl) (nm nw ns:Nat):D:=.agg [.lst 2 false (A.g.fu.map fuD),.int .i64 A.g.mu,ints A.g.co,ints A.g.se,ints A.g.ch,.lst 1 false (A.g.cs.map ints),.int .i64 A.g.th,.int .i64 A.now,A.th,.sl 0 0 1 0 nm none,.sl 1 0 1 0 ns none,A.bu,.sl 2 0 1 0 nm none,.sl 3 0 1 0 nw none,.sl 4 0 1 0 ns none,A.sq,A.rq,.int .i64 A.t,A.sn,A.wk]
@[reducible] def lkC (A:Pyl) (nm nw ns:Nat):Fam:=one (.row 105 20 false [lkD A nm nw ns])
@[reducible] def lkO (A:Pyl) (nm nw ns:Nat) (S:Lk) (r:Objs):Objs:=rowI S.ow :: rowI S.co :: rowC S.lk :: rowC S.wq :: rowC S.dq :: lkC A nm nw ns :: r
@[reducible] def lkP:D:=.ptr 5 0 20 0 7
theorem rowI_at (l:List Int) (m:Nat) (h:m < l.length):(l.map (D.int .i64))[0+m]? = some (.int .i64 (l.getD m 0)):=by
 rw [Nat.zero_add,List.getElem?_map,List.getD_eq_getElem?_getD,List.getElem?_eq_getElem h]; rfl
def qAt (l:List (List Int)) (m:Nat):List Int:=l.getD m []
theorem qAt_get (l:List (List Int)) (m:Nat) (h:m < l.length):l[m]? = some (qAt l m):=by
 rw [qAt,List.getD_eq_getElem?_getD,List.getElem?_eq_getElem h]; rfl
theorem qAt_mem {l:List (List Int)} {m:Nat} (h:m < l.length):qAt l m ∈ l:=List.mem_of_getElem? (qAt_get l m h)
theorem rowC_at (l:List (List Int)) (m:Nat) (h:m < l.length):(l.map ints)[0+m]? = some (ints (qAt l m)):=by
 rw [Nat.zero_add]; exact get_map (qAt_get l m h)
def handS (S:Lk) (m:Nat):Lk:={ S with ow:=S.ow.set m (headQ (qAt S.lk m)),lk:=S.lk.set m (qAt S.lk m).tail }
def lockS (S:Lk) (m:Nat) (t:Int):Lk × Bool:=if S.ow.getD m 0 ≠ -1 then ({ S with lk:=S.lk.set m (qAt S.lk m ++ [t]) },false) else ({ S with ow:=S.ow.set m t },true)
def unlockS (S:Lk) (m:Nat) (t:Int):Lk × Int × Int:=if S.ow.getD m 0 ≠ t then (S,-1,10) else (handS S m,headQ (qAt S.lk m),0)
theorem pushK (os:Objs) (k:Nat) (Ls:List (List Int)) (e:Nat) (he:e < Ls.length) (hl:∀ L ∈ Ls,L.length≤1000) (t:Int) (hat:os.at k 0 = .row 23 1 true (Ls.map ints)) {e':Nat} (hee:e = e') :
  Spec Tryz.prog 221 [.ptr k 0 1 e' 0,.int .i64 t] os (fun d os'=>d = .tup []∧os' = os.put k 0 (.row 23 1 true ((Ls.set e (qAt Ls e ++ [t])).map ints)))  := by
 subst hee
 refine ((push149 Ls e _ (qAt_get Ls e he) t (by have:=hl _ (qAt_mem he); omega)).rowAt k os hat rfl (pureL_rows _) (by rintro d y ⟨rfl,rfl⟩; exact ⟨rfl,pureL_rows _⟩)).mono ?_
 rintro d os' ⟨es,⟨rfl,rfl⟩,rfl⟩
 exact ⟨rfl,rfl⟩
theorem popK (os:Objs) (k:Nat) (Ls:List (List Int)) (e:Nat) (he:e < Ls.length) (hl:∀ L ∈ Ls,L.length≤1000) (hat:os.at k 0 = .row 23 1 true (Ls.map ints)) {e':Nat} (hee:e = e') :
  Spec Tryz.prog 223 [.ptr k 0 1 e' 0] os (fun d os'=>d = .int .i64 (headQ (qAt Ls e))∧os' = os.put k 0 (.row 23 1 true ((Ls.set e (qAt Ls e).tail).map ints)))  := by
 subst hee
 refine ((pop156 Ls e _ (qAt_get Ls e he) (by have:=hl _ (qAt_mem he); omega)).rowAt k os hat rfl (pureL_rows _) (by rintro d y ⟨rfl,rfl⟩; exact ⟨rfl,pureL_rows _⟩)).mono ?_
 rintro d os' ⟨es,⟨rfl,rfl⟩,rfl⟩
 exact ⟨rfl,rfl⟩
theorem hand150 {A:Pyl} {nm nw ns:Nat} {S:Lk} (h:LkL nm nw ns S) (m:Nat) (hm:m < nm) (r:Objs):Spec Tryz.prog 222 [lkP,.int .i64 m] (lkO A nm nw ns S r) (fun d os'=>d = .int .i64 (headQ (qAt S.lk m))∧os' = lkO A nm nw ns (handS S m) r):=by
 have h1:=h.ow
 have h2:=h.lk
 have h1m:(S.ow.map (D.int .i64)).length = nm:=by rw [List.length_map]; exact h1
 have h2m:(S.lk.map ints).length = nm:=by rw [List.length_map]; exact h2
 have hg:=rowI_at S.ow m (by omega)
 have hg2:=rowI_at (S.ow.set m (headQ (qAt S.lk m))) m (by rw [List.length_set]; omega)
 have he:(S.ow.map (D.int .i64)).set (0+(m:Int).toNat) (D.int .i64 (headQ (qAt S.lk m))) = (S.ow.set m (headQ (qAt S.lk m))).map (D.int .i64):=by rw [show 0+(m:Int).toNat = m by omega,List.map_set]
 have hv:(S.ow.set m (headQ (qAt S.lk m))).getD m 0 = headQ (qAt S.lk m):=by rw [List.getD_eq_getElem?_getD,List.getElem?_set_self (by omega)]; rfl
 rw [hv] at hg2
 refine Spec.by Tryz.func222 rfl (by decide) (by decide +kernel) rfl ?_
 refine goA ?_
 refine Call.mk (popK _ 2 S.lk m (by omega) h.l1 rfl (by omega)) ?_
 rintro d os' ⟨rfl,rfl⟩
 refine goA ?_
 refine Opt.of hg ?_
 refine goA ?_
 rw [he]
 refine Opt.of hg2 ?_
 refine goA ?_
 exact Ret.mk [.tmp 4] rfl ⟨rfl,rfl⟩
theorem lock67 {A:Pyl} {nm nw ns:Nat} {S:Lk} (h:LkL nm nw ns S) (m:Nat) (hm:m < nm) (t:Int) (r:Objs):Spec Tryz.prog 183 [lkP,.int .i64 m,.int .i64 t] (lkO A nm nw ns S r) (fun d os'=>d = .bool (lockS S m t).2∧os' = lkO A nm nw ns (lockS S m t).1 r):=by
 have h1:=h.ow
 have h2:=h.lk
 have h1m:(S.ow.map (D.int .i64)).length = nm:=by rw [List.length_map]; exact h1
 have h2m:(S.lk.map ints).length = nm:=by rw [List.length_map]; exact h2
 have hg:=rowI_at S.ow m (by omega)
 have he:(S.ow.map (D.int .i64)).set (0+(m:Int).toNat) (D.int .i64 t) = (S.ow.set m t).map (D.int .i64):=by rw [show 0+(m:Int).toNat = m by omega,List.map_set]
 unfold lockS
 by_cases hc:S.ow.getD m 0 = -1
 ·rw [if_neg (by omega)]
  refine Spec.by Tryz.func183 rfl (by decide) (by decide +kernel) rfl ?_
  refine goA ?_
  refine Opt.of hg ?_
  refine goA ?_
  refine Opt.of hg ?_
  refine goA ?_
  refine Ret.mk [.tmp 6] rfl ⟨rfl,?_⟩
  exact congrArg (fun x=>one (.row 3 1 true x) :: rowI S.co :: rowC S.lk :: rowC S.wq :: rowC S.dq :: lkC A nm nw ns :: r) he
 ·rw [if_pos hc]
  refine Spec.by Tryz.func183 rfl (by decide) (by decide +kernel) rfl ?_
  refine goA ?_
  refine Opt.of hg ?_
  refine goA ?_
  refine Call.mk (pushK _ 2 S.lk m (by omega) h.l1 t rfl (by omega)) ?_
  rintro d os' ⟨rfl,rfl⟩
  refine goA ?_
  exact Ret.mk [.tmp 6] rfl ⟨rfl,rfl⟩
theorem unlock68 {A:Pyl} {nm nw ns:Nat} {S:Lk} (h:LkL nm nw ns S) (m:Nat) (hm:m < nm) (t:Int) (r:Objs):Spec Tryz.prog 184 [lkP,.int .i64 m,.int .i64 t] (lkO A nm nw ns S r) (fun d os'=>d = .tup [.int .i64 (unlockS S m t).2.1,.int .i64 (unlockS S m t).2.2]∧os' = lkO A nm nw ns (unlockS S m t).1 r):=by
 have h1:=h.ow
 have h1m:(S.ow.map (D.int .i64)).length = nm:=by rw [List.length_map]; exact h1
 have hg:=rowI_at S.ow m (by omega)
 unfold unlockS
 by_cases hc:S.ow.getD m 0 = t
 ·rw [if_neg (by omega)]
  refine Spec.by Tryz.func184 rfl (by decide) (by decide +kernel) rfl ?_
  refine goA ?_
  refine Opt.of hg ?_
  refine goA ?_
  refine Call.mk (hand150 h m hm r) ?_
  rintro d os' ⟨rfl,rfl⟩
  refine goA ?_
  exact Ret.mk [.tmp _,.tmp _] rfl ⟨rfl,rfl⟩
 ·rw [if_pos hc]
  refine Spec.by Tryz.func184 rfl (by decide) (by decide +kernel) rfl ?_
  refine goA ?_
  refine Opt.of hg ?_
  refine goA ?_
  exact Ret.mk [.tmp _,.tmp _] rfl ⟨rfl,rfl⟩
theorem sumL_set:∀ (l:List (List Int)) (e:Nat) (x:List Int),e < l.length→sumL (l.set e x)+(qAt l e).length = sumL l+x.length
 | [],e,x,h=>by simp at h
 | y :: l,0,x,_=>by simp [sumL,qAt]; omega
 | y :: l,e+1,x,h=>by
  have:=sumL_set l e x (by simpa using h)
  simp [sumL,qAt] at this ⊢
  omega
theorem qAt_set (l:List (List Int)) (e:Nat) (x:List Int) (h:e < l.length):qAt (l.set e x) e = x:=by
 rw [qAt,List.getD_eq_getElem?_getD,List.getElem?_set_self h]; rfl
theorem set_qAt (l:List (List Int)) (e:Nat) (h:e < l.length):l.set e (qAt l e) = l:=by
 apply List.ext_getElem?
 intro j
 rw [List.getElem?_set]
 by_cases hj:e = j
 ·subst hj; rw [if_pos rfl,if_pos h,qAt_get l e h]
 ·rw [if_neg hj]
structure LkN (S:Lk):Prop where
 ow:∀ v ∈ S.ow,-1≤v
 co:∀ v ∈ S.co,0≤v∧v≤1073741824
 lk:∀ L ∈ S.lk,∀ v ∈ L,0≤v
 wq:∀ L ∈ S.wq,∀ v ∈ L,0≤v
 dq:∀ L ∈ S.dq,∀ v ∈ L,0≤v
theorem mem_set2 {α:Type} {l:List α} {e:Nat} {x y:α} (h:y ∈ l.set e x):y ∈ l∨y = x:=List.mem_or_eq_of_mem_set h
theorem qAt_all {p:Int→Prop} {l:List (List Int)} (h:∀ L ∈ l,∀ v ∈ L,p v) (e:Nat):∀ v ∈ qAt l e,p v:=by
 intro v hv
 unfold qAt at hv
 rw [List.getD_eq_getElem?_getD] at hv
 cases hg:l[e]? with
 | none=>rw [hg] at hv; simp at hv
 | some L=>rw [hg] at hv; exact h L (List.mem_of_getElem? hg) v hv
theorem set_all {p:Int→Prop} {l:List (List Int)} (h:∀ L ∈ l,∀ v ∈ L,p v) {e:Nat} {x:List Int} (hx:∀ v ∈ x,p v):∀ L ∈ l.set e x,∀ v ∈ L,p v:=by
 intro L hL
 rcases mem_set2 hL with hL | rfl
 ·exact h L hL
 ·exact hx
theorem lock_tot {nm nw ns:Nat} {S:Lk} (h:LkL nm nw ns S) (m:Nat) (hm:m < nm) (t:Int):sumL (lockS S m t).1.lk≤sumL S.lk+1∧(lockS S m t).1.wq = S.wq∧(lockS S m t).1.dq = S.dq∧(lockS S m t).1.co = S.co:=by
 unfold lockS
 split
 ·have:=sumL_set S.lk m (qAt S.lk m ++ [t]) (by have:=h.lk; omega)
  rw [List.length_append,List.length_singleton] at this
  exact ⟨by show sumL (S.lk.set m _)≤_; omega,rfl,rfl,rfl⟩
 ·exact ⟨by show sumL S.lk≤_; omega,rfl,rfl,rfl⟩
theorem lock_len {nm nw ns:Nat} {S:Lk} (h:LkL nm nw ns S) (m:Nat) (t:Int):(lockS S m t).1.ow.length = nm∧(lockS S m t).1.lk.length = nm:=by
 unfold lockS
 split <;> simp [h.ow,h.lk]
theorem lock_ok {nm nw ns:Nat} {S:Lk} (h:LkL nm nw ns S) (hn:LkN S) {m:Nat} (hm:m < nm) {t:Int} (ht:0≤t) (h1:sumL S.lk+sumL S.wq+sumL S.dq≤999):LkL nm nw ns (lockS S m t).1∧LkN (lockS S m t).1:=by
 obtain ⟨g1,g2,g3,g4⟩:=lock_tot h m hm t
 obtain ⟨k1,k2⟩:=lock_len h m t
 refine ⟨⟨k1,by rw [g4]; exact h.co,k2,by rw [g2]; exact h.wq,by rw [g3]; exact h.dq,by rw [g2,g3]; omega⟩,⟨?_,by rw [g4]; exact hn.co,?_,by rw [g2]; exact hn.wq,by rw [g3]; exact hn.dq⟩⟩
 ·unfold lockS
  split
  ·exact hn.ow
  ·intro v hv
   rcases mem_set2 hv with hv | rfl
   ·exact hn.ow v hv
   ·omega
 ·unfold lockS
  split
  ·exact set_all hn.lk (fun v hv=>by
    rcases List.mem_append.1 hv with hv | hv
    ·exact qAt_all hn.lk m v hv
    ·simp at hv; omega)
  ·exact hn.lk
def signalS (S:Lk) (c m:Nat):Lk × Int × Bool:=match qAt S.wq c with
 | []=>(S,-1,false)
 | t :: q=>((lockS { S with wq:=S.wq.set c q } m t).1,t,(lockS { S with wq:=S.wq.set c q } m t).2)
theorem sigq_ok {nm nw ns:Nat} {S:Lk} (h:LkL nm nw ns S) (hn:LkN S) {c:Nat} (hc:c < nw) {t:Int} {q:List Int} (hq:qAt S.wq c = t :: q):LkL nm nw ns { S with wq:=S.wq.set c q }∧LkN { S with wq:=S.wq.set c q }∧0≤t∧sumL S.lk+sumL (S.wq.set c q)+sumL S.dq+1≤1000:=by
 have:=sumL_set S.wq c q (by have:=h.wq; omega)
 rw [hq,List.length_cons] at this
 have hall:=qAt_all hn.wq c
 rw [hq] at hall
 have ht:=h.tot
 exact ⟨⟨h.ow,h.co,h.lk,by simp [h.wq],h.dq,by show sumL S.lk+sumL (S.wq.set c q)+sumL S.dq≤1000; omega⟩,⟨hn.ow,hn.co,hn.lk,set_all hn.wq (fun v hv=>hall v (by simp [hv])),hn.dq⟩,hall t (by simp),by omega⟩
theorem signal_ok {nm nw ns:Nat} {S:Lk} (h:LkL nm nw ns S) (hn:LkN S) {c m:Nat} (hc:c < nw) (hm:m < nm):LkL nm nw ns (signalS S c m).1∧LkN (signalS S c m).1:=by
 unfold signalS
 split
 ·exact ⟨h,hn⟩
 ·rename_i t q hq
  obtain ⟨g1,g2,g3,g4⟩:=sigq_ok h hn hc hq
  exact lock_ok g1 g2 hm g3 (by show sumL S.lk+sumL (S.wq.set c q)+sumL S.dq≤999; omega)
theorem signal90 {A:Pyl} {nm nw ns:Nat} {S:Lk} (h:LkL nm nw ns S) (hn:LkN S) (c m:Nat) (hc:c < nw) (hm:m < nm) (r:Objs):Spec Tryz.prog 187 [lkP,.int .i64 c,.int .i64 m] (lkO A nm nw ns S r) (fun d os'=>d = .tup [.int .i64 (signalS S c m).2.1,.bool (signalS S c m).2.2]∧os' = lkO A nm nw ns (signalS S c m).1 r):=by
 have h1:=h.wq
 have h1m:(S.wq.map ints).length = nw:=by rw [List.length_map]; exact h1
 have hg:=rowC_at S.wq c (by omega)
 cases hq:qAt S.wq c with
 | nil =>
  have e:signalS S c m = (S,-1,false):=by unfold signalS; rw [hq]
  rw [e]
  refine Spec.by Tryz.func187 rfl (by decide) (by decide +kernel) rfl ?_
  refine goA ?_
  refine Call.mk (popK _ 3 S.wq c (by omega) h.l2 rfl (by omega)) ?_
  rintro d os' ⟨rfl,rfl⟩
  rw [hq]
  refine goA ?_
  refine Ret.mk [.tmp _,.tmp _] rfl ⟨rfl,?_⟩
  have e2:S.wq.set c ([]:List Int).tail = S.wq:=by have:=set_qAt S.wq c (by omega); rw [hq] at this; exact this
  exact congrArg (fun x=>rowI S.ow :: rowI S.co :: rowC S.lk :: rowC x :: rowC S.dq :: lkC A nm nw ns :: r) e2
 | cons t q =>
  obtain ⟨g1,g2,g3,g4⟩:=sigq_ok h hn hc hq
  have e:signalS S c m = ((lockS { S with wq:=S.wq.set c q } m t).1,t,(lockS { S with wq:=S.wq.set c q } m t).2):=by unfold signalS; rw [hq]
  rw [e]
  refine Spec.by Tryz.func187 rfl (by decide) (by decide +kernel) rfl ?_
  refine goA ?_
  refine Call.mk (popK _ 3 S.wq c (by omega) h.l2 rfl (by omega)) ?_
  rintro d os' ⟨rfl,rfl⟩
  rw [hq]
  have ht:¬ (headQ (t :: q) = -1):=by show ¬ (t = -1); omega
  refine goA ?_
  refine Call.mk (lock67 g1 m hm t r) ?_
  rintro d os' ⟨rfl,rfl⟩
  refine goA ?_
  exact Ret.mk [.tmp _,.tmp _] rfl ⟨rfl,rfl⟩
def downS (S:Lk) (s:Nat) (t:Int):Lk × Bool:=if S.co.getD s 0 = 0 then ({ S with dq:=S.dq.set s (qAt S.dq s ++ [t]) },false) else ({ S with co:=S.co.set s (S.co.getD s 0 - 1) },true)
def upS (S:Lk) (s:Nat):Lk × Int:=match qAt S.dq s with
 | []=>(if S.co.getD s 0 < 1073741824 then { S with co:=S.co.set s (S.co.getD s 0+1) } else S,-1)
 | t :: q=>({ S with dq:=S.dq.set s q },t)
def waitS (S:Lk) (c m:Nat) (t:Int):Lk × Int × Int:=if S.ow.getD m 0 ≠ t then (S,-1,10) else ({ handS S m with wq:=S.wq.set c (qAt S.wq c ++ [t]) },headQ (qAt S.lk m),0)
theorem getD_mem {l:List Int} {e:Nat} (h:e < l.length):l.getD e 0 ∈ l:=by
 rw [List.getD_eq_getElem?_getD,List.getElem?_eq_getElem h]; exact List.getElem_mem h
theorem down71 {A:Pyl} {nm nw ns:Nat} {S:Lk} (h:LkL nm nw ns S) (hn:LkN S) (s:Nat) (hs:s < ns) (t:Int) (r:Objs):Spec Tryz.prog 190 [lkP,.int .i64 s,.int .i64 t] (lkO A nm nw ns S r) (fun d os'=>d = .bool (downS S s t).2∧os' = lkO A nm nw ns (downS S s t).1 r):=by
 have h1:=h.co
 have h2:=h.dq
 have h1m:(S.co.map (D.int .i64)).length = ns:=by rw [List.length_map]; exact h1
 have h2m:(S.dq.map ints).length = ns:=by rw [List.length_map]; exact h2
 have hg:=rowI_at S.co s (by omega)
 have hv:=hn.co _ (getD_mem (l:=S.co) (e:=s) (by omega))
 have he:(S.co.map (D.int .i64)).set (0+(s:Int).toNat) (D.int .i64 (S.co.getD s 0 - 1)) = (S.co.set s (S.co.getD s 0 - 1)).map (D.int .i64):=by rw [show 0+(s:Int).toNat = s by omega,List.map_set]
 unfold downS
 by_cases hc:S.co.getD s 0 = 0
 ·rw [if_pos hc]
  refine Spec.by Tryz.func190 rfl (by decide) (by decide +kernel) rfl ?_
  refine goA ?_
  refine Opt.of hg ?_
  refine goA ?_
  refine Call.mk (pushK _ 4 S.dq s (by omega) h.l3 t rfl (by omega)) ?_
  rintro d os' ⟨rfl,rfl⟩
  refine goA ?_
  exact Ret.mk [.tmp 6] rfl ⟨rfl,rfl⟩
 ·rw [if_neg hc]
  refine Spec.by Tryz.func190 rfl (by decide) (by decide +kernel) rfl ?_
  refine goA ?_
  refine Opt.of hg ?_
  refine goA ?_
  refine Opt.of hg ?_
  refine goA ?_
  refine Opt.of hg ?_
  refine goA ?_
  refine Ret.mk [.tmp 6] rfl ⟨rfl,?_⟩
  exact congrArg (fun x=>rowI S.ow :: one (.row 3 1 true x) :: rowC S.lk :: rowC S.wq :: rowC S.dq :: lkC A nm nw ns :: r) he
theorem up72 {A:Pyl} {nm nw ns:Nat} {S:Lk} (h:LkL nm nw ns S) (hn:LkN S) (s:Nat) (hs:s < ns) (r:Objs):Spec Tryz.prog 191 [lkP,.int .i64 s] (lkO A nm nw ns S r) (fun d os'=>d = .int .i64 (upS S s).2∧os' = lkO A nm nw ns (upS S s).1 r):=by
 have h1:=h.co
 have h2:=h.dq
 have h1m:(S.co.map (D.int .i64)).length = ns:=by rw [List.length_map]; exact h1
 have h2m:(S.dq.map ints).length = ns:=by rw [List.length_map]; exact h2
 have hg:=rowI_at S.co s (by omega)
 have hv:=hn.co _ (getD_mem (l:=S.co) (e:=s) (by omega))
 have he:(S.co.map (D.int .i64)).set (0+(s:Int).toNat) (D.int .i64 (S.co.getD s 0+1)) = (S.co.set s (S.co.getD s 0+1)).map (D.int .i64):=by rw [show 0+(s:Int).toNat = s by omega,List.map_set]
 have hall:=qAt_all hn.dq s
 unfold upS
 cases hq:qAt S.dq s with
 | nil =>
  have e2:S.dq.set s ([]:List Int).tail = S.dq:=by have:=set_qAt S.dq s (by omega); rw [hq] at this; exact this
  dsimp only
  by_cases hc:S.co.getD s 0 < 1073741824
  ·rw [if_pos hc]
   refine Spec.by Tryz.func191 rfl (by decide) (by decide +kernel) rfl ?_
   refine goA ?_
   refine Call.mk (popK _ 4 S.dq s (by omega) h.l3 rfl (by omega)) ?_
   rintro d os' ⟨rfl,rfl⟩
   rw [hq,e2]
   have hh:headQ [] = -1:=rfl
   rw [hh]
   refine goA ?_
   refine Opt.of hg ?_
   refine goA ?_
   refine Opt.of hg ?_
   refine goA ?_
   refine Opt.of hg ?_
   refine goA ?_
   refine Ret.mk [.tmp 4] rfl ⟨rfl,?_⟩
   exact congrArg (fun x=>rowI S.ow :: one (.row 3 1 true x) :: rowC S.lk :: rowC S.wq :: rowC S.dq :: lkC A nm nw ns :: r) he
  ·rw [if_neg hc]
   refine Spec.by Tryz.func191 rfl (by decide) (by decide +kernel) rfl ?_
   refine goA ?_
   refine Call.mk (popK _ 4 S.dq s (by omega) h.l3 rfl (by omega)) ?_
   rintro d os' ⟨rfl,rfl⟩
   rw [hq,e2]
   have hh:headQ [] = -1:=rfl
   rw [hh]
   refine goA ?_
   refine Opt.of hg ?_
   refine goA ?_
   exact Ret.mk [.tmp 4] rfl ⟨rfl,rfl⟩
 | cons t q =>
  rw [hq] at hall
  have ht0:=hall t (by simp)
  dsimp only
  refine Spec.by Tryz.func191 rfl (by decide) (by decide +kernel) rfl ?_
  refine goA ?_
  refine Call.mk (popK _ 4 S.dq s (by omega) h.l3 rfl (by omega)) ?_
  rintro d os' ⟨rfl,rfl⟩
  rw [hq]
  have ht:¬ (headQ (t :: q) = -1):=by show ¬ (t = -1); omega
  refine goA ?_
  exact Ret.mk [.tmp 4] rfl ⟨rfl,rfl⟩
theorem wait89 {A:Pyl} {nm nw ns:Nat} {S:Lk} (h:LkL nm nw ns S) (c m:Nat) (hc:c < nw) (hm:m < nm) (t:Int) (r:Objs):Spec Tryz.prog 186 [lkP,.int .i64 c,.int .i64 m,.int .i64 t] (lkO A nm nw ns S r) (fun d os'=>d = .tup [.int .i64 (waitS S c m t).2.1,.int .i64 (waitS S c m t).2.2]∧os' = lkO A nm nw ns (waitS S c m t).1 r):=by
 have h1:=h.wq
 have h1m:(S.wq.map ints).length = nw:=by rw [List.length_map]; exact h1
 unfold waitS
 by_cases hcc:S.ow.getD m 0 = t
 ·have e:unlockS S m t = (handS S m,headQ (qAt S.lk m),0):=by unfold unlockS; rw [if_neg (by omega)]
  rw [if_neg (by omega)]
  refine Spec.by Tryz.func186 rfl (by decide) (by decide +kernel) rfl ?_
  refine goA ?_
  refine Call.mk (unlock68 h m hm t r) ?_
  rw [e]
  rintro d os' ⟨rfl,rfl⟩
  refine goA ?_
  refine Call.mk (pushK _ 3 S.wq c (by omega) h.l2 t rfl (by omega)) ?_
  rintro d os' ⟨rfl,rfl⟩
  refine goA ?_
  exact Ret.mk [.tmp _,.tmp _] rfl ⟨rfl,rfl⟩
 ·have e:unlockS S m t = (S,-1,10):=by unfold unlockS; rw [if_pos hcc]
  rw [if_pos hcc]
  refine Spec.by Tryz.func186 rfl (by decide) (by decide +kernel) rfl ?_
  refine goA ?_
  refine Call.mk (unlock68 h m hm t r) ?_
  rw [e]
  rintro d os' ⟨rfl,rfl⟩
  refine goA ?_
  exact Ret.mk [.tmp _,.tmp _] rfl ⟨rfl,rfl⟩
def bcast (c m:Nat):Nat→Lk→List Int→Int→Lk × List Int × Int
 | 0,S,all,got=>(S,all,got)
 | n+1,S,all,got=>match qAt S.wq c with
  | []=>(S,all,got)
  | t :: _=>bcast c m n (signalS S c m).1 (all ++ [t]) (if (signalS S c m).2.2 then t else got)
def broadS (S:Lk) (c m:Nat):Lk × List Int × Int:=bcast c m (qAt S.wq c).length S [] (-1)
theorem bcast_cons {c m n:Nat} {S:Lk} {all:List Int} {got t:Int} {q:List Int} (hq:qAt S.wq c = t :: q):bcast c m (n+1) S all got = bcast c m n (signalS S c m).1 (all ++ [t]) (if (signalS S c m).2.2 then t else got):=by
 show (match qAt S.wq c with
  | []=>(S,all,got)
  | t :: _=>bcast c m n (signalS S c m).1 (all ++ [t]) (if (signalS S c m).2.2 then t else got)) = _
 rw [hq]
theorem signal_wq {nm nw ns:Nat} {S:Lk} (h:LkL nm nw ns S) (hn:LkN S) {c m:Nat} (hc:c < nw) (hm:m < nm) {t:Int} {q:List Int} (hq:qAt S.wq c = t :: q):qAt (signalS S c m).1.wq c = q∧(signalS S c m).2.1 = t:=by
 obtain ⟨g1,g2,g3,g4⟩:=sigq_ok h hn hc hq
 have e:signalS S c m = ((lockS { S with wq:=S.wq.set c q } m t).1,t,(lockS { S with wq:=S.wq.set c q } m t).2):=by unfold signalS; rw [hq]
 rw [e]
 obtain ⟨_,k2,_⟩:=lock_tot g1 m hm t
 refine ⟨?_,rfl⟩
 show qAt (lockS { S with wq:=S.wq.set c q } m t).1.wq c = q
 rw [k2]
 exact qAt_set S.wq c q (by have:=h.wq; omega)
structure Py where
 g:Pg
 now:Int
 t:Int
 th:List Th
 bu:List (List Int)
 sq:List (List Int)
 rq:List (List Int)
 ev:List Ev
 wp:List Int
@[reducible] def Py.A (P:Py):Pyl:=⟨P.g,P.now,P.t,.sl 6 0 5 0 P.th.length none,.sl 7 0 1 0 P.bu.length none,.sl 8 0 1 0 P.sq.length none,.sl 9 0 1 0 P.rq.length none,.sl 10 0 3 0 P.ev.length none,.sl 11 0 1 0 P.wp.length none⟩
@[reducible] def rowE (l:List Ev):Fam:=one (.row 84 3 true (l.map evD))
@[reducible] def pyO (P:Py) (nm nw ns:Nat) (S:Lk) (r:Objs):Objs:=lkO P.A nm nw ns S (rowT P.th :: rowC P.bu :: rowC P.sq :: rowC P.rq :: rowE P.ev :: rowI P.wp :: r)
theorem broad189 {P:Py} {nm nw ns:Nat} {S:Lk} (h:LkL nm nw ns S) (hn:LkN S) (c m:Nat) (hc:c < nw) (hm:m < nm):Spec Tryz.prog 189 [lkP,.int .i64 c,.int .i64 m] (pyO P nm nw ns S []) (fun d os'=>d = .tup [ints (broadS S c m).2.1,.int .i64 (broadS S c m).2.2]∧os' = pyO P nm nw ns (broadS S c m).1 []):=by
 obtain ⟨R,hR⟩:∃ R,broadS S c m = R:=⟨_,rfl⟩
 rw [hR]
 refine Spec.by Tryz.func189 rfl (by decide) (by decide +kernel) rfl ?_
 refine goR ?_
 ((with_reducible refine Pt.go ?_); conv=>whnf)
 refine goR ?_
 ((with_reducible refine Pt.go ?_); conv=>whnf)
 refine goR ?_
 refine Pt.weak (Weak.trans (Weak.on [(8,.nils),(0,lkP),(1,.int .i64 c),(2,.int .i64 m)] (pyO P nm nw ns S [])) (Weak.nilrow 8 rfl 3 1 true)) ?_
 refine goA ?_
 refine Loop.inv (A:=Lk × List Int × Int) (List.range 29) (fun x=>[(8,.sl 12 0 1 0 x.2.1.length none),(0,lkP),(1,.int .i64 c),(2,.int .i64 m),(9,.int .i64 x.2.2)]) (fun x=>pyO P nm nw ns x.1 [rowI x.2.1])
  (fun x=>LkL nm nw ns x.1∧LkN x.1∧bcast c m (qAt x.1.wq c).length x.1 x.2.1 x.2.2 = R∧x.2.1.length+(qAt x.1.wq c).length≤1000) (fun x=>(qAt x.1.wq c).length) (S,[],-1) ⟨h,hn,hR,by have:=h.l2 _ (qAt_mem (l:=S.wq) (m:=c) (by have:=h.wq; omega)); show ([]:List Int).length+(qAt S.wq c).length≤1000; rw [List.length_nil]; omega⟩ ?_ ?_
 ·exact Weak.start' rfl rfl tld
 rintro ⟨S1,all,got⟩ ⟨hl1,hn1,hR1,hb1⟩
 dsimp only at hl1 hn1 hR1 hb1 ⊢
 have hallm:(all.map (D.int .i64)).length = all.length:=List.length_map ..
 cases hq:qAt S1.wq c with
 | nil =>
  have e:signalS S1 c m = (S1,-1,false):=by unfold signalS; rw [hq]
  have hRe:R = (S1,all,got):=by rw [← hR1,hq]; rfl
  rw [hRe]
  refine goA ?_
  refine Call.mk (signal90 (A:=P.A) hl1 hn1 c m hc hm _) ?_
  rw [e]
  rintro d os' ⟨rfl,rfl⟩
  refine goA ?_
  refine Ret.frz (fun i=>Nat.beq i 12) [(6,ints all)] ⟨View.slAll rfl rfl hallm (by simp) (ViewL.same _) (pureL_map (fun _=>rfl) _),trivial⟩ ?_
  refine Ret.trim 12 (by simp) rfl (bl rfl) ?_
  exact Ret.mk [.tmp 6,.tmp 7] rfl ⟨rfl,rfl⟩
 | cons t q =>
  obtain ⟨g1,g2⟩:=signal_ok hl1 hn1 hc hm
  obtain ⟨g3,g4⟩:=signal_wq hl1 hn1 hc hm hq
  obtain ⟨_,_,ht0,_⟩:=sigq_ok hl1 hn1 hc hq
  have hRe:bcast c m q.length (signalS S1 c m).1 (all ++ [t]) (if (signalS S1 c m).2.2 then t else got) = R:=by rw [← bcast_cons hq,← hR1,hq]; rfl
  rw [hq,List.length_cons] at hb1
  obtain ⟨S2,hS2⟩:∃ S2,(signalS S1 c m).1 = S2:=⟨_,rfl⟩
  obtain ⟨b,hb⟩:∃ b,(signalS S1 c m).2.2 = b:=⟨_,rfl⟩
  rw [hS2] at g1 g2 g3 hRe
  rw [hb] at hRe
  cases b with
  | false =>
   refine goA ?_
   refine Call.mk (signal90 (A:=P.A) hl1 hn1 c m hc hm _) ?_
   rw [hS2,g4,hb]
   rintro d os' ⟨rfl,rfl⟩
   refine goA ?_
   refine App.only false rfl rfl ?_
   refine goA ?_
   refine ⟨_,_,_,?_,⟨(S2,all ++ [t],got),?_,rfl,rfl,rfl⟩,?_⟩
   ·show (qAt S2.wq c).length < _; rw [g3,List.length_cons]; omega
   ·exact ⟨g1,g2,by show bcast c m (qAt S2.wq c).length S2 (all ++ [t]) got = R; rw [g3]; exact hRe,by show (all ++ [t]).length+(qAt S2.wq c).length≤1000; rw [g3,List.length_append,List.length_singleton]; omega⟩
   ·refine Weak.trans (Weak.on [(8,.sl 13 0 1 0 (all.length+1) none),(0,lkP),(1,.int .i64 c),(2,.int .i64 m),(9,.int .i64 got)] (pyO P nm nw ns S2 [one .gone,one (.row 3 1 true (all.map (D.int .i64) ++ [D.int .i64 t]))])) ?_
    rw [map_snoc,show all.length+1 = (all ++ [t]).length by rw [List.length_append,List.length_singleton]]
    refine Weak.trans (Weak.shift 13 12 (by decide) (by simp) (bl rfl) (bl rfl) (fun j=>by cases j <;> rfl) rfl) ?_
    refine Weak.backT 13 (by simp) (by first | rfl | kernel_rfl) (by kernel_rfl) (bl rfl) tld (by kernel_rfl) (by kernel_rfl)
  | true =>
   refine goA ?_
   refine Call.mk (signal90 (A:=P.A) hl1 hn1 c m hc hm _) ?_
   rw [hS2,g4,hb]
   rintro d os' ⟨rfl,rfl⟩
   refine goA ?_
   refine App.only false rfl rfl ?_
   refine goA ?_
   refine ⟨_,_,_,?_,⟨(S2,all ++ [t],t),?_,rfl,rfl,rfl⟩,?_⟩
   ·show (qAt S2.wq c).length < _; rw [g3,List.length_cons]; omega
   ·exact ⟨g1,g2,by show bcast c m (qAt S2.wq c).length S2 (all ++ [t]) t = R; rw [g3]; exact hRe,by show (all ++ [t]).length+(qAt S2.wq c).length≤1000; rw [g3,List.length_append,List.length_singleton]; omega⟩
   ·refine Weak.trans (Weak.on [(8,.sl 13 0 1 0 (all.length+1) none),(0,lkP),(1,.int .i64 c),(2,.int .i64 m),(9,.int .i64 t)] (pyO P nm nw ns S2 [one .gone,one (.row 3 1 true (all.map (D.int .i64) ++ [D.int .i64 t]))])) ?_
    rw [map_snoc,show all.length+1 = (all ++ [t]).length by rw [List.length_append,List.length_singleton]]
    refine Weak.trans (Weak.shift 13 12 (by decide) (by simp) (bl rfl) (bl rfl) (fun j=>by cases j <;> rfl) rfl) ?_
    refine Weak.backT 13 (by simp) (by first | rfl | kernel_rfl) (by kernel_rfl) (bl rfl) tld (by kernel_rfl) (by kernel_rfl)
theorem push225 (Ls:List (List Int)) (e:Nat) (L:List Int) (hL:Ls[e]? = some L) (l:List Int) (hl:L.length≤1000) (hl2:l.length≤1000) (hn:l ≠ []):Spec Tryz.prog 225 [.ptr 0 0 1 e 0,ints l] [rowC Ls] (fun d os'=>∃ y,(d = .tup []∧y = (Ls.set e (L ++ l)).map ints)∧os' = [one (.row 23 1 true y)]):=by
 have hLm:(L.map (D.int .i64)).length = L.length:=List.length_map ..
 have hln:(l.map (D.int .i64)) ≠ []:=fun h=>hn (List.map_eq_nil_iff.1 h)
 refine Spec.by Tryz.func225 rfl (by decide) (by decide +kernel) rfl ?_
 refine goA ?_
 refine Opt.of (get_map hL) ?_
 refine goA ?_
 refine Nm.mk (L.map (D.int .i64)) (by simp [List.take_of_length_le]) ?_
 refine goA ?_
 refine And.intro (fun h=>absurd h hln) (fun _=>?_)
 have hlm:(l.map (D.int .i64)).length = l.length:=List.length_map ..
 refine And.intro (by rw [hLm,hlm]; show (L.length+l.length) * 8≤_; omega) (And.intro (by rw [hLm]; omega) ?_)
 refine App.only false rfl (pureL_map (fun _=>rfl) _) ?_
 refine goA ?_
 refine Opt.of (get_map hL) ?_
 refine goA ?_
 refine Ret.mk [] rfl ⟨_,⟨rfl,?_⟩,rfl⟩
 rw [← set_ints]
 exact congrArg (fun r=>(Ls.map ints).set e (.lst 1 false r)) List.map_append.symm
theorem shift240 (Ls:List (List Int)) (e:Nat) (L:List Int) (n:Nat) (hL:Ls[e]? = some L) (hl:L.length≤1000) (hn:n≤L.length) (hn0:0 < n):Spec Tryz.prog 240 [.ptr 0 0 1 e 0,.int .i64 n] [rowC Ls] (fun d os'=>∃ y,(d = .lst 1 true ((L.take n).map (D.int .i64))∧y = (Ls.set e (L.drop n)).map ints)∧os' = [one (.row 23 1 true y)]):=by
 have hLm:(L.map (D.int .i64)).length = L.length:=List.length_map ..
 refine Spec.by Tryz.func240 rfl (by decide) (by decide +kernel) rfl ?_
 refine goA ?_
 refine Opt.of (get_map hL) ?_
 refine goA ?_
 refine Nm.mk ((L.drop n).map (D.int .i64)) (by rw [Int.toNat_natCast,Int.toNat_natCast,List.take_length,List.map_drop]) ?_
 refine goR ?_
 refine Opt.of (get_map hL) ?_
 refine goA ?_
 refine Nm.mk ((L.take n).map (D.int .i64)) (by rw [Int.toNat_natCast,List.map_take]; rfl) ?_
 refine goA ?_
 refine Ret.weak (Weak.on [(4,.lst 1 true ((L.take n).map (D.int .i64)))] [one (.row 23 1 true ((Ls.map ints).set e (.lst 1 true ((L.drop n).map (D.int .i64)))))]) ?_
 refine Ret.weak (Weak.retellP 0 rfl ((Ls.map ints).set e (ints (L.drop n))) (by rw [List.length_set,List.length_set]) (fun I us=>repL_set2 (fun v=>rep_full) _ _ _)) ?_
 refine Ret.mk [.tmp 4] rfl ⟨_,⟨rfl,?_⟩,rfl⟩
 rw [← set_ints]
theorem pushJ (os:Objs) (k:Nat) (Ls:List (List Int)) (e:Nat) (he:e < Ls.length) (hl:∀ L ∈ Ls,L.length≤1000) (l:List Int) (hl2:l.length≤1000) (hn:l ≠ []) (hat:os.at k 0 = .row 23 1 true (Ls.map ints)) {e':Nat} (hee:e = e') :
  Spec Tryz.prog 225 [.ptr k 0 1 e' 0,ints l] os (fun d os'=>d = .tup []∧os' = os.put k 0 (.row 23 1 true ((Ls.set e (qAt Ls e ++ l)).map ints))):=by
 subst hee
 refine ((push225 Ls e _ (qAt_get Ls e he) l (hl _ (qAt_mem he)) hl2 hn).rowAt k os hat rfl (pureL_rows _) (by rintro d y ⟨rfl,rfl⟩; exact ⟨rfl,pureL_rows _⟩)).mono ?_
 rintro d os' ⟨es,⟨rfl,rfl⟩,rfl⟩
 exact ⟨rfl,rfl⟩
theorem shiftJ (os:Objs) (k:Nat) (Ls:List (List Int)) (e n:Nat) (he:e < Ls.length) (hl:∀ L ∈ Ls,L.length≤1000) (hn:n≤(qAt Ls e).length) (hn0:0 < n) (hat:os.at k 0 = .row 23 1 true (Ls.map ints)) {e':Nat} (hee:e = e') :
  Spec Tryz.prog 240 [.ptr k 0 1 e' 0,.int .i64 n] os (fun d os'=>d = .lst 1 true (((qAt Ls e).take n).map (D.int .i64))∧os' = os.put k 0 (.row 23 1 true ((Ls.set e ((qAt Ls e).drop n)).map ints))):=by
 subst hee
 refine ((shift240 Ls e _ n (qAt_get Ls e he) (hl _ (qAt_mem he)) hn hn0).rowAt k os hat rfl (pureL_rows _) (by rintro d y ⟨rfl,rfl⟩; exact ⟨rfl,pureL_rows _⟩)).mono ?_
 rintro d os' ⟨es,⟨rfl,rfl⟩,rfl⟩
 exact ⟨rfl,rfl⟩
theorem pyO_bu {P:Py} {nm nw ns:Nat} {S:Lk} {r:Objs} {X:List (List Int)} (hX:X.length = P.bu.length):(pyO P nm nw ns S r).put 7 0 (.row 23 1 true (X.map ints)) = pyO { P with bu:=X } nm nw ns S r:=by
 have e:P.A = Py.A { P with bu:=X }:=by show Pyl.mk _ _ _ _ _ _ _ _ _ = Pyl.mk _ _ _ _ _ _ _ _ _; rw [hX]
 show lkO P.A nm nw ns S _ = lkO (Py.A { P with bu:=X }) nm nw ns S _
 rw [e]
 rfl
theorem pyO_sq {P:Py} {nm nw ns:Nat} {S:Lk} {r:Objs} {X:List (List Int)} (hX:X.length = P.sq.length):(pyO P nm nw ns S r).put 8 0 (.row 23 1 true (X.map ints)) = pyO { P with sq:=X } nm nw ns S r:=by
 have e:P.A = Py.A { P with sq:=X }:=by show Pyl.mk _ _ _ _ _ _ _ _ _ = Pyl.mk _ _ _ _ _ _ _ _ _; rw [hX]
 show lkO P.A nm nw ns S _ = lkO (Py.A { P with sq:=X }) nm nw ns S _
 rw [e]
 rfl
theorem pyO_rq {P:Py} {nm nw ns:Nat} {S:Lk} {r:Objs} {X:List (List Int)} (hX:X.length = P.rq.length):(pyO P nm nw ns S r).put 9 0 (.row 23 1 true (X.map ints)) = pyO { P with rq:=X } nm nw ns S r:=by
 have e:P.A = Py.A { P with rq:=X }:=by show Pyl.mk _ _ _ _ _ _ _ _ _ = Pyl.mk _ _ _ _ _ _ _ _ _; rw [hX]
 show lkO P.A nm nw ns S _ = lkO (Py.A { P with rq:=X }) nm nw ns S _
 rw [e]
 rfl
def headS (q:List Int):Int × Int × Bool:=match q with
 | s :: w :: _=>(s,w,true)
 | _=>(-1,0,false)
theorem sender239 {P:Py} {nm nw ns:Nat} {S:Lk} (c:Nat) (hc:c < P.sq.length) (hl:∀ L ∈ P.sq,L.length≤1000) (h1:(qAt P.sq c).length ≠ 1) (r:Objs):Spec Tryz.prog 239 [lkP,.int .i64 c] (pyO P nm nw ns S r) (fun d os'=>d = .tup [.int .i64 (headS (qAt P.sq c)).1,.int .i64 (headS (qAt P.sq c)).2.1,.bool (headS (qAt P.sq c)).2.2]∧os' = pyO { P with sq:=P.sq.set c ((qAt P.sq c).drop 2) } nm nw ns S r):=by
 have hsm:(P.sq.map ints).length = P.sq.length:=List.length_map ..
 have hg:=rowC_at P.sq c hc
 cases hq:qAt P.sq c with
 | nil =>
  rw [hq] at hg
  refine Spec.by Tryz.func239 rfl (by decide) (by decide +kernel) rfl ?_
  refine goA ?_
  refine Opt.of hg ?_
  refine goA ?_
  refine Ret.mk [.tmp 4,.tmp 5,.tmp 6] rfl ⟨rfl,?_⟩
  have e:P.sq.set c [] = P.sq:=by have:=set_qAt P.sq c hc; rwa [hq] at this
  rw [List.drop_nil,e]
 | cons s q =>
  cases q with
  | nil=>rw [hq] at h1; exact absurd rfl h1
  | cons w q =>
   rw [hq] at hg
   refine Spec.by Tryz.func239 rfl (by decide) (by decide +kernel) rfl ?_
   refine goA ?_
   refine Opt.of hg ?_
   refine goA ?_
   refine Call.mk (shiftJ _ 8 P.sq c 2 hc hl (by rw [hq]; simp) (by omega) rfl (by simp)) ?_
   rw [hq]
   rintro d os' ⟨rfl,rfl⟩
   refine goA ?_
   exact Ret.mk [.tmp 4,.tmp 5,.tmp 6] rfl ⟨rfl,pyO_sq (List.length_set ..)⟩
def canB (bu sq:List (List Int)) (c:Nat):Bool:=decide (0 < ((qAt bu c).length:Int)+((qAt sq c).length:Int))
theorem ready226 (C:Cr) (c:Nat) (hb:c < C.bu.length) (hs:c < C.sq.length) (h1:(qAt C.bu c).length≤1000) (h2:(qAt C.sq c).length≤1000):Spec Tryz.prog 226 [coreV C,.int .i64 c] [] (fun d os'=>d = .bool (canB C.bu C.sq c)∧os' = []):=by
 have hbm:(C.bu.map ints).length = C.bu.length:=List.length_map ..
 have hsm:(C.sq.map ints).length = C.sq.length:=List.length_map ..
 have hg1:(C.bu.map ints)[c]? = some (ints (qAt C.bu c)):=get_map (qAt_get _ _ hb)
 have hg2:(C.sq.map ints)[c]? = some (ints (qAt C.sq c)):=get_map (qAt_get _ _ hs)
 have hl1:((qAt C.bu c).map (D.int .i64)).length = (qAt C.bu c).length:=List.length_map ..
 have hl2:((qAt C.sq c).map (D.int .i64)).length = (qAt C.sq c).length:=List.length_map ..
 refine Spec.frz (post':=fun d=>d = .bool (canB C.bu C.sq c)) ?_
 refine Spec.by Tryz.func226 rfl (by decide) (by decide +kernel) rfl ?_
 refine goA ?_
 refine Opt.of hg1 ?_
 refine goA ?_
 refine Opt.of hg2 ?_
 refine goA ?_
 refine Ret.mk [.tmp 4] rfl ?_; (refine goA ?_)
 refine ⟨_,.same _,rfl,?_⟩
 rw [hl1,hl2]
 rfl
def takeB (bu sq:List (List Int)) (c:Nat):List (List Int) × List (List Int) × Int × Int :=
 match qAt bu c with
 | []=>(bu,sq.set c ((qAt sq c).drop 2),(headS (qAt sq c)).2.1,(headS (qAt sq c)).1)
 | v :: b=>(bu.set c (if (headS (qAt sq c)).2.2 then b ++ [(headS (qAt sq c)).2.1] else b),sq.set c ((qAt sq c).drop 2),v,(headS (qAt sq c)).1)
theorem set_all1k {l:List (List Int)} (h:∀ L ∈ l,L.length≤1000) {e:Nat} {x:List Int} (hx:x.length≤1000):∀ L ∈ l.set e x,L.length≤1000:=by
 intro L hL
 rcases mem_set2 hL with hL | rfl
 ·exact h L hL
 ·exact hx
theorem take227 {P:Py} {nm nw ns:Nat} {S:Lk} (c:Nat) (hc:c < P.sq.length) (hl:∀ L ∈ P.sq,L.length≤1000) (h1:(qAt P.sq c).length ≠ 1) (hcb:c < P.bu.length) (hlb:∀ L ∈ P.bu,L.length≤900) (r:Objs):Spec Tryz.prog 227 [lkP,.int .i64 c] (pyO P nm nw ns S r) (fun d os'=>d = .tup [.int .i64 (takeB P.bu P.sq c).2.2.1,.int .i64 (takeB P.bu P.sq c).2.2.2]∧os' = pyO { P with bu:=(takeB P.bu P.sq c).1,sq:=(takeB P.bu P.sq c).2.1 } nm nw ns S r):=by
 have hbm:(P.bu.map ints).length = P.bu.length:=List.length_map ..
 have hg:=rowC_at P.bu c hcb
 have hlq:=hlb _ (qAt_mem hcb)
 obtain ⟨X,hX⟩:∃ X,P.sq.set c ((qAt P.sq c).drop 2) = X:=⟨_,rfl⟩
 have hs:=sender239 (P:=P) (nm:=nm) (nw:=nw) (ns:=ns) (S:=S) c hc hl h1 r
 unfold takeB
 rw [hX] at hs ⊢
 obtain ⟨⟨s,w,b⟩,hh⟩:∃ h,headS (qAt P.sq c) = h:=⟨_,rfl⟩
 rw [hh] at hs ⊢
 dsimp only at hs ⊢
 cases hq:qAt P.bu c with
 | nil =>
  rw [hq] at hg
  refine Spec.by Tryz.func227 rfl (by decide) (by decide +kernel) rfl ?_
  refine goA ?_
  refine Call.mk hs ?_
  rintro d os' ⟨rfl,rfl⟩
  refine goA ?_
  refine Opt.of hg ?_
  refine goA ?_
  exact Ret.mk [.tmp 4,.tmp 5] rfl ⟨rfl,rfl⟩
 | cons v B =>
  rw [hq] at hg hlq
  rw [List.length_cons] at hlq
  have hB:(B.map (D.int .i64)).length = B.length:=List.length_map ..
  cases b with
  | false =>
   refine Spec.by Tryz.func227 rfl (by decide) (by decide +kernel) rfl ?_
   refine goA ?_
   refine Call.mk hs ?_
   rintro d os' ⟨rfl,rfl⟩
   refine goA ?_
   refine Opt.of hg ?_
   refine goA ?_
   refine Call.mk (shiftJ _ 7 P.bu c 1 hcb (fun L hL=>by have:=hlb L hL; omega) (by rw [hq]; simp) (by omega) rfl (by simp)) ?_
   rw [hq]
   rintro d os' ⟨rfl,rfl⟩
   refine goA ?_
   exact Ret.mk [.tmp 4,.tmp 5] rfl ⟨rfl,pyO_bu (P:={ P with sq:=X }) (List.length_set ..)⟩
  | true =>
   refine Spec.by Tryz.func227 rfl (by decide) (by decide +kernel) rfl ?_
   refine goA ?_
   refine Call.mk hs ?_
   rintro d os' ⟨rfl,rfl⟩
   refine goA ?_
   refine Opt.of hg ?_
   refine goA ?_
   refine App.only false rfl rfl ?_
   refine goA ?_
   refine Call.mk (pushJ _ 7 P.bu c hcb (fun L hL=>by have:=hlb L hL; omega) [w] (by simp) (by simp) rfl (by simp)) ?_
   rw [hq]
   rintro d os' ⟨rfl,ho⟩
   rw [pyO_bu (P:={ P with sq:=X }) (X:=P.bu.set c (v :: B ++ [w])) (List.length_set ..)] at ho
   subst ho
   refine goA ?_
   refine Call.mk (shiftJ _ 7 (P.bu.set c (v :: B ++ [w])) c 1 (by rw [List.length_set]; exact hcb) (set_all1k (fun L hL=>by have:=hlb L hL; omega) (by simp; omega)) (by rw [qAt_set _ _ _ hcb]; simp) (by omega) rfl (by simp)) ?_
   rw [qAt_set _ _ _ hcb,List.set_set]
   rintro d os' ⟨rfl,rfl⟩
   refine goA ?_
   exact Ret.mk [.tmp 4,.tmp 5] rfl ⟨rfl,pyO_bu (P:={ P with sq:=X,bu:=P.bu.set c (v :: B ++ [w]) }) (X:=P.bu.set c (B ++ [w])) (by simp)⟩
@[reducible] def Py.C (P:Py) (S:Lk):Cr:=⟨P.now,P.th,S,P.bu,P.sq,P.rq⟩
theorem core_view {P:Py} {nm nw ns:Nat} {S:Lk} (h:LkL nm nw ns S) (r:Objs):View allF (pyO P nm nw ns S r) (.agg [.int .i64 P.now,.sl 6 0 5 0 P.th.length none,.sl 0 0 1 0 nm none,.sl 1 0 1 0 ns none,.sl 7 0 1 0 P.bu.length none,.sl 2 0 1 0 nm none,.sl 3 0 1 0 nw none,.sl 4 0 1 0 ns none,.sl 8 0 1 0 P.sq.length none,.sl 9 0 1 0 P.rq.length none]) (coreV (P.C S)) :=
 .agg (.cons (.same _) (.cons (View.slAll (f:=false) rfl rfl (by simp) (by simp) (ViewL.same _) (pureTh _))
  (.cons (View.slAll (f:=false) rfl rfl (by simp [h.ow]) (by simp) (ViewL.same _) (pureL_map (fun _=>rfl) _))
  (.cons (View.slAll (f:=false) rfl rfl (by simp [h.co]) (by simp) (ViewL.same _) (pureL_map (fun _=>rfl) _))
  (.cons (View.slAll (f:=false) rfl rfl (by simp) (by simp) (ViewL.same _) (pureL_rows _))
  (.cons (View.slAll (f:=false) rfl rfl (by simp [h.lk]) (by simp) (ViewL.same _) (pureL_rows _))
  (.cons (View.slAll (f:=false) rfl rfl (by simp [h.wq]) (by simp) (ViewL.same _) (pureL_rows _))
  (.cons (View.slAll (f:=false) rfl rfl (by simp [h.dq]) (by simp) (ViewL.same _) (pureL_rows _))
  (.cons (View.slAll (f:=false) rfl rfl (by simp) (by simp) (ViewL.same _) (pureL_rows _))
  (.cons (View.slAll (f:=false) rfl rfl (by simp) (by simp) (ViewL.same _) (pureL_rows _)) .nil))))))))))
structure ChL (nc:Nat) (P:Py):Prop where
 bu:P.bu.length = nc
 sq:P.sq.length = nc
 rq:P.rq.length = nc
 lb:∀ L ∈ P.bu,L.length≤900
 ls:∀ L ∈ P.sq,L.length≤900∧L.length ≠ 1
 lr:∀ L ∈ P.rq,L.length≤900
def pickB (bu sq:List (List Int)):List Int→Option Nat
 | []=>none
 | c :: l=>if canB bu sq c.toNat then some 0 else (pickB bu sq l).map (·+1)
theorem pickB_none {bu sq:List (List Int)}:∀ {l:List Int},(∀ c ∈ l,canB bu sq c.toNat = false)→pickB bu sq l = none
 | [],_=>rfl
 | c :: l,h=>by rw [pickB,if_neg (by rw [h c (by simp)]; decide),pickB_none (fun c hc=>h c (by simp [hc]))]; rfl
theorem pickB_at {bu sq:List (List Int)}:∀ {l:List Int} {i:Nat} {c:Int},l[i]? = some c→canB bu sq c.toNat = true→(∀ x ∈ l.take i,canB bu sq x.toNat = false)→pickB bu sq l = some i
 | [],i,c,h,_,_=>by simp at h
 | x :: l,0,c,h,hc,_=>by
  have e:x = c:=by simpa using h
  subst e
  rw [pickB,if_pos hc]
 | x :: l,i+1,c,h,hc,hf=>by
  rw [pickB,if_neg (by rw [hf x (by simp)]; decide),pickB_at (l:=l) (i:=i) (by simpa using h) hc (fun y hy=>hf y (by simp [hy]))]
  rfl
def pushAll (t:Int):List Int→List (List Int)→List (List Int)
 | [],R=>R
 | c :: l,R=>pushAll t l (R.set c.toNat (qAt R c.toNat ++ [t]))
theorem pushAll_len (t:Int):∀ (l:List Int) (R:List (List Int)),(pushAll t l R).length = R.length
 | [],R=>rfl
 | c :: l,R=>by rw [pushAll,pushAll_len]; simp
def selP (P:Py) (l:List Int) (t:Int):Py × Int × Int × Int × Bool :=
 match pickB P.bu P.sq l with
 | some i=>({ P with bu:=(takeB P.bu P.sq (l.getD i 0).toNat).1,sq:=(takeB P.bu P.sq (l.getD i 0).toNat).2.1 },(i:Int),(takeB P.bu P.sq (l.getD i 0).toNat).2.2.1,(takeB P.bu P.sq (l.getD i 0).toNat).2.2.2,true)
 | none=>({ P with rq:=pushAll t l P.rq },-1,0,-1,false)
theorem sel196 {P:Py} {nm nw ns nc:Nat} {S:Lk} (h:LkL nm nw ns S) (hp:ChL nc P) (l:List Int) (hl:l.length≤10) (hc:∀ c ∈ l,∃ k:Nat,c = k∧k < nc) (t:Int):Spec Tryz.prog 196 [lkP,ints l,.int .i64 t] (pyO P nm nw ns S []) (fun d os'=>d = .tup [.int .i64 (selP P l t).2.1,.int .i64 (selP P l t).2.2.1,.int .i64 (selP P l t).2.2.2.1,.bool (selP P l t).2.2.2.2]∧os' = pyO (selP P l t).1 nm nw ns S []):=by
 have hlm:(l.map (D.int .i64)).length = l.length:=List.length_map ..
 obtain ⟨R,hR⟩:∃ R,selP P l t = R:=⟨_,rfl⟩
 rw [hR]
 refine Spec.by Tryz.func196 rfl (by decide) (by decide +kernel) rfl ?_
 refine goA ?_
 refine Loop.inv2 (A:=Nat) 0 (List.range 54) (fun i=>[(0,lkP),(1,ints l),(2,.int .i64 t),(16,ints l),(17,.int .i64 (l.map (D.int .i64)).length),(18,.int .i64 (i:Int))]) (fun i=>pyO P nm nw ns S []) (fun i=>i≤l.length∧∀ x ∈ l.take i,canB P.bu P.sq x.toNat = false) (fun i=>∀ x ∈ l,canB P.bu P.sq x.toNat = false) (fun i=>l.length - i) 0 ⟨Nat.zero_le _,by simp⟩ ?_ ?_ ?_
 ·exact Weak.start' rfl rfl tld
 ·intro cont
  rintro i ⟨hi,hf⟩
  dsimp only at hi hf ⊢
  refine goA ?_
  refine Br.dec (fun h0=>?_) (fun h0=>?_)
  ·have hlt:i < l.length:=by omega
   have hget:l[i]? = some l[i]:=List.getElem?_eq_getElem hlt
   obtain ⟨c,hce,hcn⟩:=hc _ (List.getElem_mem hlt)
   have hcb:c < P.bu.length:=by rw [hp.bu]; exact hcn
   have hcs:c < P.sq.length:=by rw [hp.sq]; exact hcn
   have hb9:=hp.lb _ (qAt_mem hcb)
   have hs9:=hp.ls _ (qAt_mem hcs)
   have hgc:l.getD i 0 = (c:Int):=by rw [List.getD_eq_getElem?_getD,hget,hce]; rfl
   refine goA ?_
   refine Opt.of (get_map hget) ?_
   refine goA ?_
   rw [hce]
   refine Call.mk ((ready226 (P.C S) c hcb hcs (by show (qAt P.bu c).length≤1000; omega) (by show (qAt P.sq c).length≤1000; omega)).read (.cons (core_view h []) (.cons (.same _) .nil)) rfl (by rintro d rfl; exact ⟨rfl,rfl⟩)) ?_
   rintro d os' ⟨rfl,rfl⟩
   refine goA ?_
   refine Br.cs (fun hb=>?_) (fun hb=>?_)
   ·have hpk:pickB P.bu P.sq l = some i:=pickB_at hget (by rw [hce]; exact hb) hf
    have hRe:R = ({ P with bu:=(takeB P.bu P.sq c).1,sq:=(takeB P.bu P.sq c).2.1 },(i:Int),(takeB P.bu P.sq c).2.2.1,(takeB P.bu P.sq c).2.2.2,true):=by rw [← hR]; unfold selP; rw [hpk]; dsimp only; rw [hgc]; rfl
    rw [hRe]
    refine goA ?_
    refine Call.mk (take227 c hcs (fun L hL=>by have:=(hp.ls L hL).1; omega) hs9.2 hcb hp.lb []) ?_
    rintro d os' ⟨rfl,rfl⟩
    refine goA ?_
    exact Ret.mk [.tmp 6,.tmp 7,.tmp 8,.tmp 9] rfl ⟨rfl,rfl⟩
   ·refine goA ?_
    refine ⟨_,_,_,?_,⟨i+1,?_,rfl,rfl,rfl⟩,?_⟩
    ·show l.length - (i+1) < l.length - i; omega
    ·refine ⟨hlt,?_⟩
     exact take_more hlt (by rw [hce]; exact hb) hf
    ·refine Weak.backT 12 (by simp) (by first | rfl | kernel_rfl) (by kernel_rfl) (bl rfl) tld (by kernel_rfl) (by kernel_rfl)
  ·refine goR ?_
   refine Pt.weak ?_ (cont.h i ?_)
   ·refine Weak.backT 12 (by simp) (by first | rfl | kernel_rfl) (by kernel_rfl) (bl rfl) tld (by kernel_rfl) (by kernel_rfl)
   ·intro x hx
    exact hf x (by rw [List.take_of_length_le (by omega)]; exact hx)
 ·intro i hq
  have hRe:R = ({ P with rq:=pushAll t l P.rq },-1,0,-1,false):=by rw [← hR]; unfold selP; rw [pickB_none hq]
  rw [hRe]
  refine goA ?_
  refine Loop.inv (A:=Nat × Py) (List.range 54) (fun a=>[(0,lkP),(1,ints l),(2,.int .i64 t),(38,ints l),(39,.int .i64 (l.map (D.int .i64)).length),(40,.int .i64 (a.1:Int))]) (fun a=>pyO a.2 nm nw ns S []) (fun a=>a.1≤l.length∧(∃ X,a.2 = { P with rq:=X }∧X.length = nc∧(∀ L ∈ X,L.length≤900+a.1)∧pushAll t (l.drop a.1) X = pushAll t l P.rq)) (fun a=>l.length - a.1) (0,P) ⟨Nat.zero_le _,P.rq,rfl,hp.rq,hp.lr,rfl⟩ ?_ ?_
  ·exact Weak.start' rfl rfl tld
  rintro ⟨i,Q⟩ ⟨hi,X,hX,hXl,hXb,hXp⟩
  dsimp only at hi hX hXl hXb hXp ⊢
  subst hX
  refine goA ?_
  refine Br.dec (fun h0=>?_) (fun h0=>?_)
  ·have hlt:i < l.length:=by omega
   have hget:l[i]? = some l[i]:=List.getElem?_eq_getElem hlt
   obtain ⟨c,hce,hcn⟩:=hc _ (List.getElem_mem hlt)
   refine goA ?_
   refine Opt.of (get_map hget) ?_
   refine goA ?_
   rw [hce]
   refine goA ?_
   refine App.only false rfl rfl ?_
   refine goA ?_
   refine Call.mk (pushJ _ 9 X c (by omega) (fun L hL=>by have:=hXb L hL; omega) [t] (by simp) (by simp) rfl (by simp)) ?_
   rintro d os' ⟨rfl,ho⟩
   rw [pyO_rq (P:={ P with rq:=X }) (X:=X.set c (qAt X c ++ [t])) (List.length_set ..)] at ho
   subst ho
   refine goA ?_
   refine ⟨_,_,_,?_,⟨(i+1,{ P with rq:=X.set c (qAt X c ++ [t]) }),?_,rfl,rfl,rfl⟩,?_⟩
   ·show l.length - (i+1) < l.length - i; omega
   ·refine ⟨hlt,_,rfl,by rw [List.length_set]; exact hXl,?_,?_⟩
    ·intro L hL
     rcases mem_set2 hL with hL | rfl
     ·have:=hXb L hL; show L.length≤900+(i+1); omega
     ·have:=hXb _ (qAt_mem (l:=X) (m:=c) (by omega)); simp; omega
    ·rw [← hXp,List.drop_eq_getElem_cons hlt,pushAll,hce,Int.toNat_natCast]
   ·refine Weak.backT 12 (by simp) (by first | rfl | kernel_rfl) (by kernel_rfl) (bl rfl) tld (by kernel_rfl) (by kernel_rfl)
  ·have hil:i = l.length:=by omega
   have hXe:X = pushAll t l P.rq:=by rw [← hXp,hil,List.drop_length]; rfl
   subst hXe
   refine goA ?_
   exact Ret.mk [.tmp 6,.tmp 7,.tmp 8,.tmp 9] rfl ⟨rfl,rfl⟩
theorem recv195 {P:Py} {nm nw ns nc:Nat} {S:Lk} (h:LkL nm nw ns S) (hp:ChL nc P) (c:Nat) (hc:c < nc) (t:Int):Spec Tryz.prog 195 [lkP,.int .i64 c,.int .i64 t] (pyO P nm nw ns S []) (fun d os'=>d = .tup [.int .i64 (selP P [(c:Int)] t).2.2.1,.int .i64 (selP P [(c:Int)] t).2.2.2.1,.bool (selP P [(c:Int)] t).2.2.2.2]∧os' = pyO (selP P [(c:Int)] t).1 nm nw ns S []):=by
 have hs:=sel196 h hp [(c:Int)] (by simp) (by intro x hx; exact ⟨c,by simpa using hx,hc⟩) t
 refine Spec.by Tryz.func195 rfl (by decide) (by decide +kernel) rfl ?_
 refine goA ?_
 refine App.only false rfl rfl ?_
 refine goA ?_
 refine Call.mk hs ?_
 rintro d os' ⟨rfl,rfl⟩
 refine goA ?_
 exact Ret.mk [.tmp 6,.tmp 7,.tmp 8] rfl ⟨rfl,rfl⟩
theorem index193 (l:List Int) (c:Int) (hl:l.length≤1000000):Spec Tryz.prog 193 [ints l,.int .i64 c] [] (fun d os'=>d = idxD (l.findIdx? (fun x=>decide (c = x)))∧os' = []):=by
 refine Spec.by Tryz.func193 rfl (by decide) (by decide +kernel) rfl ?_
 refine goA ?_
 refine Call.mk ((idx212 l c hl).only _ rfl (by rintro d rfl; rfl)) ?_; rintro d os' ⟨rfl,rfl⟩
 refine goA ?_
 refine Ret.mk [.tmp _] rfl ?_; refine And.intro ?_ rfl
 rfl
theorem see180 {P:Py} {nm nw ns:Nat} {S:Lk} (k t n:Int) (hl:P.ev.length≤100000):Spec Tryz.prog 180 [.ptr 5 0 20 0 0,.int .i64 k,.int .i64 t,.int .i64 n] (pyO P nm nw ns S []) (fun d os'=>d = .tup []∧os' = lkO { P.A with sn:=.sl 12 0 3 0 (P.ev.length+1) none } nm nw ns S [rowT P.th,rowC P.bu,rowC P.sq,rowC P.rq,one .gone,rowI P.wp,rowE (P.ev ++ [(k,t,n)])]):=by
 have hm:(P.ev.map evD).length = P.ev.length:=List.length_map ..
 refine Spec.by Tryz.func180 rfl (by decide) (by decide +kernel) rfl ?_
 refine goA ?_
 refine App.only false rfl rfl ?_
 refine goA ?_
 refine Ret.mk [] rfl ⟨rfl,?_⟩
 have e:P.ev.map evD ++ [evD (k,t,n)] = (P.ev ++ [(k,t,n)]).map evD:=by simp
 show lkO { P.A with sn:=.sl 12 0 3 0 (P.ev.length+1) none } nm nw ns S [rowT P.th,rowC P.bu,rowC P.sq,rowC P.rq,one .gone,rowI P.wp,one (.row 84 3 true (P.ev.map evD ++ [evD (k,t,n)]))] = _
 rw [e]
structure En where
 g:Pg
 t:Nat
 nm:Nat
 nw:Nat
 ns:Nat
@[reducible] def En.A (e:En) (x:Xs) (i j:Nat):Pyl:=⟨e.g,x.C.now,(e.t:Int),.sl 6 0 5 0 x.C.th.length none,.sl 7 0 1 0 x.C.bu.length none,.sl 8 0 1 0 x.C.sq.length none,.sl 9 0 1 0 x.C.rq.length none,.sl i 0 3 0 x.ev.length none,.sl j 0 1 0 x.wp.length none⟩
@[reducible] def pyG (e:En) (x:Xs) (i j:Nat) (r:Objs):Objs:=lkO (e.A x i j) e.nm e.nw e.ns x.C.L (rowT x.C.th :: rowC x.C.bu :: rowC x.C.sq :: rowC x.C.rq :: r)
@[reducible] def pyA (e:En) (x:Xs):Objs:=pyG e x 10 11 [rowE x.ev,rowI x.wp]
@[reducible] def pyB (e:En) (x:Xs):Objs:=pyG e x 12 13 [one .gone,one .gone,rowE x.ev,rowI x.wp]
@[reducible] def pyC (e:En) (x:Xs):Objs:=pyG e x 14 15 [one .gone,one .gone,one .gone,one .gone,rowE x.ev,rowI x.wp]
structure LkZ (nm nw ns:Nat) (S:Lk):Prop where
 ow:S.ow.length = nm
 co:S.co.length = ns
 lk:S.lk.length = nm
 wq:S.wq.length = nw
 dq:S.dq.length = ns
theorem LkL.z {nm nw ns:Nat} {S:Lk} (h:LkL nm nw ns S):LkZ nm nw ns S:=⟨h.ow,h.co,h.lk,h.wq,h.dq⟩
theorem core_viewG {e:En} {x:Xs} (h:LkZ e.nm e.nw e.ns x.C.L) (i j:Nat) (r:Objs):View allF (pyG e x i j r) (.agg [.int .i64 x.C.now,.sl 6 0 5 0 x.C.th.length none,.sl 0 0 1 0 e.nm none,.sl 1 0 1 0 e.ns none,.sl 7 0 1 0 x.C.bu.length none,.sl 2 0 1 0 e.nm none,.sl 3 0 1 0 e.nw none,.sl 4 0 1 0 e.ns none,.sl 8 0 1 0 x.C.sq.length none,.sl 9 0 1 0 x.C.rq.length none]) (coreV x.C) :=
 .agg (.cons (.same _) (.cons (View.slAll (f:=false) rfl rfl (by simp) (by simp) (ViewL.same _) (pureTh _))
  (.cons (View.slAll (f:=false) rfl rfl (by simp [h.ow]) (by simp) (ViewL.same _) (pureL_map (fun _=>rfl) _))
  (.cons (View.slAll (f:=false) rfl rfl (by simp [h.co]) (by simp) (ViewL.same _) (pureL_map (fun _=>rfl) _))
  (.cons (View.slAll (f:=false) rfl rfl (by simp) (by simp) (ViewL.same _) (pureL_rows _))
  (.cons (View.slAll (f:=false) rfl rfl (by simp [h.lk]) (by simp) (ViewL.same _) (pureL_rows _))
  (.cons (View.slAll (f:=false) rfl rfl (by simp [h.wq]) (by simp) (ViewL.same _) (pureL_rows _))
  (.cons (View.slAll (f:=false) rfl rfl (by simp [h.dq]) (by simp) (ViewL.same _) (pureL_rows _))
  (.cons (View.slAll (f:=false) rfl rfl (by simp) (by simp) (ViewL.same _) (pureL_rows _))
  (.cons (View.slAll (f:=false) rfl rfl (by simp) (by simp) (ViewL.same _) (pureL_rows _)) .nil))))))))))
theorem ownL_ints':∀ (l:List Int),D.ownL (l.map (D.int .i64)) = true
 | []=>rfl
 | v :: l=>by
  show ((D.int .i64 v).own && D.ownL (l.map (D.int .i64))) = true
  rw [ownL_ints' l]; rfl
theorem own_row1 (l:List Int):Objs.own [rowI l]:=fun i j=>by
 cases i with
 | zero=>cases j with
  | zero=>exact ownL_ints' l
  | succ j=>rfl
 | succ i=>rw [at_ge _ _ (by simp)]; rfl
def allQ {α:Type} (Q:Nat→α→Prop):List α→Nat→Prop
 | [],_=>True
 | p :: σ,n=>Q n p∧allQ Q σ (n+1)
theorem allQ_get {α:Type} {Q:Nat→α→Prop}:∀ {σ:List α} {n:Nat},allQ Q σ n→∀ (k:Nat) (p:α),σ[k]? = some p→Q (n+k) p
 | [],_,_,k,p,h=>by simp at h
 | q :: σ,n,h,0,p,hp=>by simp at hp; subst hp; exact h.1
 | q :: σ,n,h,k+1,p,hp=>by
  have:=allQ_get h.2 k p (by simpa using hp)
  rwa [show n+1+k = n+(k+1) by omega] at this
theorem allQ_get0 {α:Type} {Q:Nat→α→Prop} {σ:List α} (h:allQ Q σ 0):∀ (k:Nat) (p:α),σ[k]? = some p→Q k p:=fun k p hp=>by
 have:=allQ_get h k p hp
 rwa [Nat.zero_add] at this
@[reducible] def FrQ (os os1:Objs) (σ:List (Nat × Nat)) (k:Nat) (p:Nat × Nat):Prop:=p.1 < os.length∧os.at p.1 p.2 = (os1.at k 0).mapId (lead σ os.length)∧(os1.at k 0).sgl σ.length = true∧∀ j,j ≠ 0→os1.at k j = .gone
@[reducible] def sgB:List (Nat × Nat):=[(0,0),(1,0),(2,0),(3,0),(4,0),(5,0),(6,0),(7,0),(8,0),(9,0),(12,0),(13,0)]
theorem args_up (σ:List (Nat × Nat)) (n:Nat) (h5:σ[5]? = some (5,0)) (hl:5 < σ.length) {xs:List D} (hp:D.pureL xs = true):D.mapIdL (lead σ n) (.ptr 5 0 20 0 0 :: xs) = .ptr 5 0 20 0 0 :: xs∧D.sglL σ.length (.ptr 5 0 20 0 0 :: xs) = true:=by
 refine ⟨?_,?_⟩
 ·rw [D.mapIdL,mapIdL_pure _ _ hp,D.mapId]
  unfold lead
  rw [h5]
 ·rw [D.sglL,sglL_pure _ _ hp]
  simp [D.sgl,hl]
theorem up1 {e:En} {x y:Xs} {f:FuncId} {xs:List D} {d:D} (h:Spec Tryz.prog f (.ptr 5 0 20 0 0 :: xs) (pyA e x) (fun d' os'=>d' = d∧os' = pyB e y)) (hp:D.pureL xs = true) (hd:d.pure = true):Spec Tryz.prog f (.ptr 5 0 20 0 0 :: xs) (pyB e x) (fun d' os'=>d' = d∧os' = pyC e y):=by
 obtain ⟨a1,a2⟩:=args_up sgB 14 rfl (by decide) hp
 have:=h.frame (pyB e x) sgB rfl (by decide) (allQ_get0 (Q:=FrQ (pyB e x) (pyA e x) sgB) ⟨⟨bl rfl,rfl,rfl,fun j hj=>one_pos _ hj⟩,⟨bl rfl,rfl,rfl,fun j hj=>one_pos _ hj⟩,⟨bl rfl,rfl,rfl,fun j hj=>one_pos _ hj⟩,⟨bl rfl,rfl,rfl,fun j hj=>one_pos _ hj⟩,⟨bl rfl,rfl,rfl,fun j hj=>one_pos _ hj⟩,⟨bl rfl,rfl,rfl,fun j hj=>one_pos _ hj⟩,⟨bl rfl,rfl,rfl,fun j hj=>one_pos _ hj⟩,⟨bl rfl,rfl,rfl,fun j hj=>one_pos _ hj⟩,⟨bl rfl,rfl,rfl,fun j hj=>one_pos _ hj⟩,⟨bl rfl,rfl,rfl,fun j hj=>one_pos _ hj⟩,⟨bl rfl,rfl,rfl,fun j hj=>one_pos _ hj⟩,⟨bl rfl,rfl,rfl,fun j hj=>one_pos _ hj⟩,trivial⟩) a2
 rw [show (pyB e x).length = 14 from rfl,a1] at this
 refine this.mono ?_
 rintro d' os' ⟨d1,os1,⟨rfl,rfl⟩,rfl,rfl⟩
 refine ⟨mapId_pure _ _ hd,?_⟩
 kernel_rfl
@[reducible] def sgK:List (Nat × Nat):=[(0,0),(1,0),(2,0),(3,0),(4,0),(5,0),(6,0),(7,0),(8,0),(9,0),(10,0),(11,0)]
@[reducible] def pyK (e:En) (x:Xs) (K:Fam):Objs:=pyG e x 10 11 [rowE x.ev,rowI x.wp,K]
@[reducible] def pyKB (e:En) (x:Xs) (K:Fam):Objs:=pyG e x 13 14 [one .gone,one .gone,K,rowE x.ev,rowI x.wp]
theorem upK {e:En} {x y:Xs} (K:Fam) {f:FuncId} {xs:List D} {d:D} (h:Spec Tryz.prog f (.ptr 5 0 20 0 0 :: xs) (pyA e x) (fun d' os'=>d' = d∧os' = pyB e y)) (hp:D.pureL xs = true) (hd:d.pure = true):Spec Tryz.prog f (.ptr 5 0 20 0 0 :: xs) (pyK e x K) (fun d' os'=>d' = d∧os' = pyKB e y K):=by
 obtain ⟨a1,a2⟩:=args_up sgK 13 rfl (by decide) hp
 have:=h.frame (pyK e x K) sgK rfl (by decide) (allQ_get0 (Q:=FrQ (pyK e x K) (pyA e x) sgK) ⟨⟨bl rfl,rfl,rfl,fun j hj=>one_pos _ hj⟩,⟨bl rfl,rfl,rfl,fun j hj=>one_pos _ hj⟩,⟨bl rfl,rfl,rfl,fun j hj=>one_pos _ hj⟩,⟨bl rfl,rfl,rfl,fun j hj=>one_pos _ hj⟩,⟨bl rfl,rfl,rfl,fun j hj=>one_pos _ hj⟩,⟨bl rfl,rfl,rfl,fun j hj=>one_pos _ hj⟩,⟨bl rfl,rfl,rfl,fun j hj=>one_pos _ hj⟩,⟨bl rfl,rfl,rfl,fun j hj=>one_pos _ hj⟩,⟨bl rfl,rfl,rfl,fun j hj=>one_pos _ hj⟩,⟨bl rfl,rfl,rfl,fun j hj=>one_pos _ hj⟩,⟨bl rfl,rfl,rfl,fun j hj=>one_pos _ hj⟩,⟨bl rfl,rfl,rfl,fun j hj=>one_pos _ hj⟩,trivial⟩) a2
 rw [show (pyK e x K).length = 13 from rfl,a1] at this
 refine this.mono ?_
 rintro d' os' ⟨d1,os1,⟨rfl,rfl⟩,rfl,rfl⟩
 refine ⟨mapId_pure _ _ hd,?_⟩
 kernel_rfl
theorem lowK {e:En} {x:Xs} {o:O} (m:List (Nat × D)) (hm:m = []∨∃ v,m = [(6,.bool v)]):Weak 12 { m:=m,objs:=pyKB e x (one o) } { m:=m,objs:=pyB e x }:=by
 rcases hm with rfl | ⟨v,rfl⟩
 ·refine Weak.trans (Weak.dropAt 12 (bl rfl)) ?_
  refine Weak.shf 13 12 (Weak.shf 14 13 ?_)
  exact Weak.fin 14
 ·refine Weak.trans (Weak.dropAt 12 (bl rfl)) ?_
  refine Weak.shf 13 12 (Weak.shf 14 13 ?_)
  exact Weak.fin 14
theorem liftAB {e:En} {x:Xs} (m:List (Nat × D)) (h12:namesM 12 m = false) (h13:namesM 13 (renM 10 12 m) = false):Weak 12 { m:=m,objs:=pyA e x } { m:=renM 11 13 (renM 10 12 m),objs:=pyB e x }:=by
 refine Weak.trans Weak.gone (Weak.trans Weak.gone ?_)
 refine Weak.trans (Weak.move 10 12 (by decide) (by omega) (bl rfl) (bl rfl) (fun j=>by cases j <;> rfl) h12 rfl) ?_
 exact Weak.move 11 13 (by decide) (by omega) (bl rfl) (bl rfl) (fun j=>by cases j <;> rfl) h13 rfl
theorem lowCB {e:En} {x:Xs} (b:List (Nat × D)) (hb:b = []∨∃ v,b = [(6,.bool v)]):Weak 12 { m:=b,objs:=pyC e x } { m:=b,objs:=pyB e x }:=by
 rcases hb with rfl | ⟨v,rfl⟩
 ·refine Weak.shf 14 12 (Weak.shf 15 13 ?_)
  exact Weak.fin 14
 ·refine Weak.shf 14 12 (Weak.shf 15 13 ?_)
  exact Weak.fin 14
def py (e:En) (x:Xs):Py:=⟨e.g,x.C.now,(e.t:Int),x.C.th,x.C.bu,x.C.sq,x.C.rq,x.ev,x.wp⟩
theorem seeA (e:En) (x:Xs) (k n:Int) (t:Nat) (hl:x.ev.length≤100000):Spec Tryz.prog 180 [.ptr 5 0 20 0 0,.int .i64 k,.int .i64 t,.int .i64 n] (pyA e x) (fun d os'=>d = .tup []∧os' = pyB e (seeX x k t n)):=by
 have hs:=see180 (P:=py e x) (nm:=e.nm) (nw:=e.nw) (ns:=e.ns) (S:=x.C.L) k t n hl
 rw [show (py e x).ev.length+1 = (x.ev ++ [(k,(t:Int),n)]).length by simp [py]] at hs
 refine Spec.weak hs ?_
 rintro d os' ⟨rfl,rfl⟩
 refine ⟨[(0,.tup [])],pyB e (seeX x k t n),?_,rfl,rfl⟩
 refine Weak.trans Weak.gone ?_
 refine Weak.trans (Weak.move 11 13 (by decide) (bl rfl) (bl rfl) (bl rfl) (fun j=>by cases j <;> rfl) rfl rfl) ?_
 exact Weak.on [(0,.tup [])] (pyB e (seeX x k t n))
theorem restG {e:En} {x:Xs} (hk:e.t < x.C.th.length) (st on:Int) (i j:Nat) (r:Objs):Spec Tryz.prog 182 [.ptr 5 0 20 0 0,.int .i64 st,.int .i64 on] (pyG e x i j r) (fun d os'=>d = .tup []∧os' = pyG e (restX x e.t st on) i j r):=by
 have hm:(x.C.th.map thD).length = x.C.th.length:=List.length_map ..
 have he:thAt x.C e.t = x.C.th[e.t]:=thAt_lt hk
 have hg:(x.C.th.map thD)[0+e.t]? = some (thD x.C.th[e.t]):=by rw [Nat.zero_add]; exact get_map (List.getElem?_eq_getElem hk)
 refine Spec.by Tryz.func182 rfl (by decide) (by decide +kernel) rfl ?_
 refine goA ?_
 refine Opt.of hg ?_
 refine goA ?_
 refine Opt.of (show ((x.C.th.map thD).set (0+e.t) _)[0+e.t]? = some _ by rw [Nat.zero_add]; exact List.getElem?_set_self (by rw [hm]; exact hk)) ?_
 refine goA ?_
 refine Ret.mk [] rfl ⟨rfl,?_⟩
 have e1:(e.A x i j) = e.A (restX x e.t st on) i j:=by
  show Pyl.mk _ _ _ _ _ _ _ _ _ = Pyl.mk _ _ _ _ _ _ _ _ _
  rw [rest_len]; rfl
 have e2:rowT (restX x e.t st on).C.th = one (.row 42 5 true (((x.C.th.map thD).set (0+e.t) (thD { x.C.th[e.t] with st:=st })).set (0+e.t) (thD { x.C.th[e.t] with st:=st,on:=on }))):=by
  rw [Nat.zero_add,List.set_set,← List.map_set,← he]; rfl
 show _ = lkO (e.A (restX x e.t st on) i j) e.nm e.nw e.ns x.C.L (rowT (restX x e.t st on).C.th :: rowC x.C.bu :: rowC x.C.sq :: rowC x.C.rq :: r)
 rw [← e1,e2]
 rfl
def EndC (e:En) (n:Nat):Prop:=∀ (x:Xs) (t:Nat) (c:Int) (b w:Nat),XB n b w x→b≤50000→t < x.C.th.length→LkZ e.nm e.nw e.ns x.C.L→Spec Tryz.prog 179 [.ptr 5 0 20 0 0,.int .i64 t,.int .i64 c] (pyA e x) (fun d os'=>d = .tup []∧os' = pyB e (endX n x t c))
theorem th_at {C:Cr} {t:Nat} (ht:t < C.th.length):(C.th.map thD)[0+t]? = some (thD (thAt C t)):=by
 rw [Nat.zero_add,thAt_lt ht]; exact get_map (List.getElem?_eq_getElem ht)
theorem th_put {C:Cr} {t:Nat} {f:Th}:(C.th.map thD).set (0+t) (thD f) = (putT C t f).th.map thD:=by
 rw [Nat.zero_add]; exact (List.map_set ..).symm
theorem pyA_th {e:En} {x:Xs} {t:Nat} {f:Th}:(pyA e x).put 6 0 (.row 42 5 true ((x.C.th.map thD).set (0+t) (thD f))) = pyA e { x with C:=putT x.C t f }:=by
 rw [th_put]
 have e1:e.A x 10 11 = e.A { x with C:=putT x.C t f } 10 11:=by
  show Pyl.mk _ _ _ _ _ _ _ _ _ = Pyl.mk _ _ _ _ _ _ _ _ _
  simp [putT]
 show lkO (e.A x 10 11) _ _ _ _ _ = lkO (e.A { x with C:=putT x.C t f } 10 11) _ _ _ _ _
 rw [e1]
 rfl
theorem tellT_ff {f:Th} {l:List Int} (h:(tellT f l).2 = false):(tellT f l).1 = endT 2:=by
 unfold tellT at h ⊢
 split
 ·rename_i h0
  rcases pushL_e l f with he | he
  ·rw [he] at h0; exact absurd h0 (by decide)
  ·show endT (pushL f (-1) l).2 = endT 2
   rw [he]
 ·rename_i h0; rw [if_neg h0] at h; cases h
theorem tell181 {e:En} {n b w:Nat} (hE:EndC e n) {x:Xs} (hx:XB n b w x) (hb:b≤50000) {t:Nat} (ht:t < x.C.th.length) (hz:LkZ e.nm e.nw e.ns x.C.L) (l:List Int) (hl:l.length≤1000) :
  Spec Tryz.prog 181 [.ptr 5 0 20 0 0,.int .i64 t,ints l] (pyA e x) (fun d os'=>d = .bool (tellE (endX n) x t l).2∧os' = pyB e (tellE (endX n) x t l).1):=by
 have hg:=th_at ht
 have hm:(x.C.th.map thD).length = x.C.th.length:=List.length_map ..
 obtain ⟨⟨f,b2⟩,hT⟩:∃ r,tellT (thAt x.C t) l = r:=⟨_,rfl⟩
 have hs:=tell99 (thAt x.C t) l (hx.at t).1 (by omega)
 rw [hT] at hs
 cases b2 with
 | true =>
  have hR:tellE (endX n) x t l = ({ x with C:=putT x.C t f },true):=by unfold tellE; rw [hT,if_pos rfl]
  rw [hR]
  refine Spec.by Tryz.func181 rfl (by decide) (by decide +kernel) rfl ?_
  refine goA ?_
  refine Opt.of hg ?_
  refine goA ?_
  refine Call.mk ((hs).only _ rfl (by rintro d rfl; rfl)) ?_; rintro d os' ⟨rfl,rfl⟩
  refine goA ?_
  refine Opt.of hg ?_
  refine goA ?_
  refine Ret.weak (Weak.fin (sl:=[(6,.bool true)]) (os:=(pyA e x).put 6 0 (.row 42 5 true ((x.C.th.map thD).set (0+t) (thD f)))) 12) ?_
  rw [pyA_th]
  refine Ret.weak (liftAB [(6,.bool true)] rfl rfl) ?_
  exact Ret.mk [.tmp 6] rfl ⟨rfl,rfl⟩
 | false =>
  have hR:tellE (endX n) x t l = (endX n x t 2,false):=by unfold tellE; rw [hT,if_neg Bool.false_ne_true]
  have hf:f = endT 2:=by have:=tellT_ff (f:=thAt x.C t) (l:=l) (by rw [hT]); rw [hT] at this; exact this
  subst hf
  rw [hR]
  refine Spec.by Tryz.func181 rfl (by decide) (by decide +kernel) rfl ?_
  refine goA ?_
  refine Opt.of hg ?_
  refine goA ?_
  refine Call.mk ((hs).only _ rfl (by rintro d rfl; rfl)) ?_; rintro d os' ⟨rfl,rfl⟩
  refine goA ?_
  refine Call.mk (upK (one (.row 42 5 false [thD (endT 2)])) (hE x t 2 b w hx hb ht hz) rfl rfl) ?_
  rintro d os' ⟨rfl,rfl⟩
  refine goA ?_
  refine Ret.weak (Weak.on [(6,.bool false)] (pyKB e (endX n x t 2) (one (.row 42 5 false [thD (endT 2)])))) ?_
  refine Ret.weak (lowK [(6,.bool false)] (.inr ⟨_,rfl⟩)) ?_
  exact Ret.mk [.tmp 6] rfl ⟨rfl,rfl⟩
theorem pyA_th2 {e:En} {x:Xs} {t:Nat} {f:Th} (wk:List Int) (st on:Int):(pyA e x).put 6 0 (.row 42 5 true (((x.C.th.map thD).set (0+t) (thD f)).set (0+t) (thD { thAt x.C t with st:=st,on:=on }))) = pyA e (restX { x with wk:=wk } t st on):=by
 rw [List.set_set]
 exact pyA_th
theorem wake185 {e:En} {n b w:Nat} (hE:EndC e n) {x:Xs} {t:Nat} (hx:XB n b w (restX { x with wk:=x.wk ++ [(t:Int)] } t 0 0)) (hb:b≤50000) (ht:t < x.C.th.length) (hz:LkZ e.nm e.nw e.ns x.C.L) (l:List Int) (hl:l.length≤1000) :
  Spec Tryz.prog 185 [.ptr 5 0 20 0 0,.int .i64 t,ints l] (pyA e x) (fun d os'=>d = .tup []∧os' = pyB e (wakeE (endX n) x t l)):=by
 have hg:=th_at ht
 have hm:(x.C.th.map thD).length = x.C.th.length:=List.length_map ..
 have hs:=tell181 hE hx hb (t:=t) (by rw [rest_len]; exact ht) hz l hl
 have hy:=(tell_xb (end_xb n) hx (t:=t) (by rw [rest_len]; exact ht) l).1
 unfold wakeE
 obtain ⟨⟨y,b2⟩,hT⟩:∃ r,tellE (endX n) (restX { x with wk:=x.wk ++ [(t:Int)] } t 0 0) t l = r:=⟨_,rfl⟩
 rw [hT] at hs hy ⊢
 dsimp only at hs hy ⊢
 have hwp:=hy.wp
 have hwm:(y.wp.map (D.int .i64)).length = y.wp.length:=List.length_map ..
 refine Spec.by Tryz.func185 rfl (by decide) (by decide +kernel) rfl ?_
 refine goA ?_
 refine Opt.of hg ?_
 refine goA ?_
 refine Opt.of (show ((x.C.th.map thD).set (0+t) _)[0+t]? = some _ by rw [Nat.zero_add]; exact List.getElem?_set_self (by rw [hm]; exact ht)) ?_
 refine goR ?_
 refine Pt.weak (Weak.on [(0,.ptr 5 0 20 0 0),(1,.int .i64 t),(2,ints l)] ((pyA e x).put 6 0 (.row 42 5 true (((x.C.th.map thD).set (0+t) (thD { thAt x.C t with st:=0 })).set (0+t) (thD { thAt x.C t with st:=0,on:=0 }))))) ?_
 rw [pyA_th2 (x.wk ++ [(t:Int)])]
 refine goA ?_
 refine Call.mk hs ?_
 rintro d os' ⟨rfl,rfl⟩
 cases b2 with
 | true =>
  refine goA ?_
  refine App.only false rfl rfl ?_
  refine goA ?_
  refine Ret.weak (Weak.on [] (lkO { e.A y 12 13 with wk:=.sl 14 0 1 0 (y.wp.length+1) none } e.nm e.nw e.ns y.C.L (rowT y.C.th :: rowC y.C.bu :: rowC y.C.sq :: rowC y.C.rq :: [one .gone,one .gone,rowE y.ev,one .gone,one (.row 3 1 true (y.wp.map (D.int .i64) ++ [.int .i64 t]))]))) ?_
  rw [map_snoc,show y.wp.length+1 = (y.wp ++ [(t:Int)]).length by rw [List.length_append,List.length_singleton]]
  refine Ret.weak (Weak.shift 14 13 (by decide) (by simp) (bl rfl) (bl rfl) (fun j=>by cases j <;> rfl) rfl) ?_
  refine Ret.weak (Weak.fin (sl:=[]) (os:=pyB e { y with wp:=y.wp ++ [(t:Int)] }) 14) ?_
  exact Ret.mk [] rfl ⟨rfl,rfl⟩
 | false =>
  refine goA ?_
  exact Ret.mk [] rfl ⟨rfl,rfl⟩
theorem no_join0 {C:Cr} (h:nj C≤0) (k:Nat):(thAt C k).st ≠ 2:=by
 intro h2
 have hk:=lt_of_st (C:=C) (t:=k) (by omega)
 have:0 < nj C:=List.countP_pos_iff.2 ⟨C.th[k],List.getElem_mem hk,by rw [thAt_lt hk] at h2; exact decide_eq_true h2⟩
 omega
theorem end179m {e:En} {n:Nat} {E:Xs→Nat→Int→Xs} (hEt:∀ x t c,Tame t x (E x t c)) (hEx:XBk E)
  (hW:∀ (y:Xs) (k:Nat) (c:Int) (b w:Nat),XB n b w y→b≤50001→(thAt y.C k).st = 2→LkZ e.nm e.nw e.ns y.C.L→Spec Tryz.prog 185 [.ptr 5 0 20 0 0,.int .i64 k,ints [c]] (pyA e y) (fun d os'=>d = .tup []∧os' = pyB e (wakeE E y k [c])))
  {x:Xs} {t:Nat} {c:Int} {b w:Nat} (hx:XB n b w x) (hb:b≤50000) (ht:t < x.C.th.length) (hz:LkZ e.nm e.nw e.ns x.C.L) :
  Spec Tryz.prog 179 [.ptr 5 0 20 0 0,.int .i64 t,.int .i64 c] (pyA e x) (fun d os'=>d = .tup []∧os' = pyB e ((List.range x.C.th.length).foldl (endR E t c) (deadX x t c))):=by
 have hg:=th_at ht
 have hm:(x.C.th.map thD).length = x.C.th.length:=List.length_map ..
 obtain ⟨x0,hx0⟩:∃ x0,deadX x t c = x0:=⟨_,rfl⟩
 have hxb:=dead_xb hx ht c
 have hlen:x0.C.th.length = x.C.th.length:=by rw [← hx0]; simp [deadX,seeX,putT]
 have hL:x0.C.L = x.C.L:=by rw [← hx0]; rfl
 rw [hx0] at hxb ⊢
 rw [fold_filter hEt x0 t c _ x0 (Tame.refl t x0)]
 obtain ⟨ln,hln⟩:∃ ln,(List.range x.C.th.length).filter (fun k=>decide ((thAt x0.C k).st = 2)) = ln:=⟨_,rfl⟩
 have hlt:∀ k ∈ ln,k < x0.C.th.length:=fun k hk=>by rw [← hln] at hk; rw [hlen]; exact List.mem_range.1 (List.mem_filter.1 hk).1
 rw [hln]
 obtain ⟨R,hR⟩:∃ R,ln.foldl (endR E t c) x0 = R:=⟨_,rfl⟩
 rw [hR]
 have hof:ofK x0.C [2] = ln.map Int.ofNat:=by
  unfold ofK ofS ofi
  rw [← hln,hlen]
  refine congrArg (List.map Int.ofNat) (List.filter_congr ?_)
  intro k _
  refine decide_eq_decide.2 ?_
  simp [thAt,endT]
 have hol:=ofK_len x0.C [2]
 have hll:ln.length≤100:=by have:=hxb.tl; rw [hof,List.length_map] at hol; omega
 have hsee:=seeA e { x with C:=putT x.C t (endT c) } 2 c t (by have:=hx.ev; show x.ev.length≤_; omega)
 rw [show seeX { x with C:=putT x.C t (endT c) } 2 t c = x0 from hx0] at hsee
 refine Spec.by Tryz.func179 rfl (by decide) (by decide +kernel) rfl ?_
 refine goA ?_
 refine Opt.of hg ?_
 refine goA ?_
 refine Call.mk ((end55 (thAt x.C t) c).only _ rfl (by rintro d rfl; rfl)) ?_; rintro d os' ⟨rfl,rfl⟩
 refine goR ?_
 refine Opt.of hg ?_
 refine goR ?_
 refine Pt.weak (Weak.on [(0,.ptr 5 0 20 0 0),(1,.int .i64 t),(2,.int .i64 c)] ((pyA e x).put 6 0 (.row 42 5 true ((x.C.th.map thD).set (0+t) (thD (endT c)))))) ?_
 rw [pyA_th]
 refine goA ?_
 refine Call.mk hsee ?_
 rintro d os' ⟨rfl,rfl⟩
 refine goA ?_
 refine App.only false rfl rfl ?_
 refine goA ?_
 refine Call.mk ((in98 [2]).only _ rfl (by rintro d rfl; rfl)) ?_; rintro d os' ⟨rfl,rfl⟩
 refine goA ?_
 refine Call.mk ((of97w x0.C [2] (by simp) (by have:=hxb.tl; omega)).fresh (.cons (core_viewG (by rw [hL]; exact hz) 12 13 _) (.cons (.same _) .nil)) rfl (by rintro d os' ⟨rfl,rfl⟩; exact ⟨rfl,own_row1 _⟩)) ?_
 rintro d os' ⟨d0,os0,⟨rfl,rfl⟩,rfl,rfl⟩
 rw [show ofS x0.C.th (fun x=>decide (x.st ∈ [2])) = ln.map Int.ofNat from hof]
 obtain ⟨l,hl⟩:∃ l,ln.map Int.ofNat = l:=⟨_,rfl⟩
 have hll2:l.length = ln.length:=by rw [← hl,List.length_map]
 have hlm:(l.map (D.int .i64)).length = l.length:=List.length_map ..
 rw [hl]
 refine goA ?_
 refine Loop.inv (A:=Nat × Xs) (List.range 70) (fun a=>[(0,.ptr 5 0 20 0 0),(1,.int .i64 t),(2,.int .i64 c),(35,ints l),(36,.int .i64 l.length),(37,.int .i64 (a.1:Int))]) (fun a=>pyB e a.2) (fun a=>a.1≤ln.length∧(ln.drop a.1).foldl (endR E t c) a.2 = R∧Tame t x0 a.2∧XB n (b+1) w a.2) (fun a=>ln.length - a.1) (0,x0) ⟨Nat.zero_le _,hR,Tame.refl _ _,hxb⟩ ?_ ?_
 ·refine Weak.trans (Weak.frzK (fun i=>Nat.beq i 14) [(35,ints l)] ⟨View.slAll rfl rfl hlm (by simp) (ViewL.same _) (pureL_map (fun _=>rfl) _),trivial⟩) ?_
  refine Weak.trans (Weak.trim 14 (by simp) rfl (bl rfl)) ?_
  exact Weak.start' rfl rfl tld
 rintro ⟨i,y⟩ ⟨hi,hy,hty,hyb⟩
 dsimp only at hi hy hty hyb ⊢
 have hyl:y.C.th.length = x0.C.th.length:=hty.len
 have hyL:y.C.L = x.C.L:=by rw [hty.rest,← hL]
 have hzy:LkZ e.nm e.nw e.ns y.C.L:=by rw [hyL]; exact hz
 have hmy:(y.C.th.map thD).length = y.C.th.length:=List.length_map ..
 refine goA ?_
 refine Br.dec (fun h0=>?_) (fun h0=>?_)
 ·have hil:i < ln.length:=by omega
  have hget:l[i]? = some ((ln[i]:Nat):Int):=by rw [← hl,List.getElem?_map,List.getElem?_eq_getElem hil]; rfl
  obtain ⟨k,hke⟩:∃ k,ln[i] = k:=⟨_,rfl⟩
  have hk:k < y.C.th.length:=by rw [hyl,← hke]; exact hlt _ (List.getElem_mem hil)
  rw [List.drop_eq_getElem_cons hil,List.foldl_cons,hke] at hy
  rw [hke] at hget
  have hgk:=th_at hk
  refine goA ?_
  refine Opt.of (get_map hget) ?_
  refine goA ?_
  refine Opt.of hgk ?_
  refine goA ?_
  refine Br.dec (fun h1=>?_) (fun h1=>?_)
  ·refine goA ?_
   refine Opt.of hgk ?_
   refine goA ?_
   refine Br.dec (fun h2=>?_) (fun h2=>?_)
   ·have hj:joins y t k = true:=decide_eq_true ⟨h1,h2⟩
    rw [endR,if_pos hj] at hy
    have hzb:=(wake_xb hEx hyb hk [c]).2 h1
    have htw:Tame t x0 (wakeE E y k [c]):=hty.trans (wake_tame hEt y k [c]) (Or.inr (Or.inl h1))
    refine goA ?_
    refine App.only false rfl rfl ?_
    refine goA ?_
    refine Call.mk (up1 (hW y k c (b+1) w hyb (by omega) h1 hzy) rfl rfl) ?_
    rintro d os' ⟨rfl,rfl⟩
    refine goA ?_
    refine ⟨_,_,_,?_,⟨(i+1,wakeE E y k [c]),?_,rfl,rfl,rfl⟩,?_⟩
    ·show ln.length - (i+1) < ln.length - i; omega
    ·exact ⟨hil,hy,htw,hzb⟩
    ·refine Weak.trans (Weak.shift 14 12 (by decide) (by simp) (bl rfl) (bl rfl) (fun j=>by cases j <;> rfl) rfl) ?_
     refine Weak.trans (Weak.shift 15 13 (by decide) (by simp) (bl rfl) (bl rfl) (fun j=>by cases j <;> rfl) rfl) ?_
     refine Weak.backT 14 (by simp) (by first | rfl | kernel_rfl) (by kernel_rfl) (bl rfl) tld (by kernel_rfl) (by kernel_rfl)
   ·have hj:¬ joins y t k = true:=fun hj=>h2 (of_decide_eq_true hj).2
    rw [endR,if_neg hj] at hy
    refine goA ?_
    refine ⟨_,_,_,?_,⟨(i+1,y),?_,rfl,rfl,rfl⟩,?_⟩
    ·show ln.length - (i+1) < ln.length - i; omega
    ·exact ⟨hil,hy,hty,hyb⟩
    ·refine Weak.backT 14 (by simp) (by first | rfl | kernel_rfl) (by kernel_rfl) (bl rfl) tld (by kernel_rfl) (by kernel_rfl)
  ·have hj:¬ joins y t k = true:=fun hj=>h1 (of_decide_eq_true hj).1
   rw [endR,if_neg hj] at hy
   refine goA ?_
   refine ⟨_,_,_,?_,⟨(i+1,y),?_,rfl,rfl,rfl⟩,?_⟩
   ·show ln.length - (i+1) < ln.length - i; omega
   ·exact ⟨hil,hy,hty,hyb⟩
   ·refine Weak.backT 14 (by simp) (by first | rfl | kernel_rfl) (by kernel_rfl) (bl rfl) tld (by kernel_rfl) (by kernel_rfl)
 ·have hie:i = ln.length:=by omega
  have hyR:y = R:=by rw [hie,List.drop_length] at hy; exact hy
  refine goA ?_
  exact Ret.mk [] rfl ⟨rfl,by rw [hyR]⟩
theorem end_all (e:En):∀ (n:Nat),EndC e n
 | 0=>fun x t c b w hx hb ht hz=>by
  have h:=end179m (E:=endX 0) (end_tame 0) (end_xb 0) (fun y k c b w hy _ h2 _=>absurd h2 (no_join0 hy.jn k)) (c:=c) hx hb ht hz
  rw [fold_filter (end_tame 0) (deadX x t c) t c _ _ (Tame.refl t _)] at h
  rw [List.filter_eq_nil_iff.2 (fun k _=>by
   rw [decide_eq_false (no_join0 (dead_xb hx ht c).jn k)]; decide)] at h
  exact h
 | n+1=>fun x t c b w hx hb ht hz=>by
  refine end179m (E:=endX n) (end_tame n) (end_xb n) (fun y k c b w hy hb2 h2 hz2=>?_) hx hb ht hz
  have hk:=lt_of_st (C:=y.C) (t:=k) (by omega)
  obtain ⟨m',b',e1,e2,hr⟩:=(rest_xb hy hk (k:Int) 0 0 (by decide)).2 h2
  have:n = m':=by omega
  subst this
  exact wake185 (end_all e n) hr (by omega) hk hz2 [c] (by simp)
def cancelR (R:List (List Int)) (t:Int):List (List Int):=R.map (fun q=>q.filter (fun v=>decide (v ≠ t)))
def sendC (C:Cr) (c:Nat) (room t v:Int):Cr × Int × Bool :=
 match qAt C.rq c with
 | f :: _=>({ C with rq:=cancelR C.rq f },f,true)
 | []=>if ((qAt C.bu c).length:Int) < room then ({ C with bu:=C.bu.set c (qAt C.bu c ++ [v]) },-1,true)
  else ({ C with sq:=C.sq.set c (qAt C.sq c ++ [t,v]) },-1,false)
def selC (C:Cr) (l:List Int) (t:Int):Cr × Int × Int × Int × Bool :=
 match pickB C.bu C.sq l with
 | some i=>({ C with bu:=(takeB C.bu C.sq (l.getD i 0).toNat).1,sq:=(takeB C.bu C.sq (l.getD i 0).toNat).2.1 },(i:Int),(takeB C.bu C.sq (l.getD i 0).toNat).2.2.1,(takeB C.bu C.sq (l.getD i 0).toNat).2.2.2,true)
 | none=>({ C with rq:=pushAll t l C.rq },-1,0,-1,false)
def idxI (l:List Int) (c:Int):Int:=match l.findIdx? (fun x=>decide (c = x)) with
 | some i=>(i:Int)
 | none=>-1
def FU:Nat:=100
def endF:Xs→Nat→Int→Xs:=endX FU
def tellF (x:Xs) (t:Nat) (l:List Int):Xs:=(tellE endF x t l).1
def wakeF (x:Xs) (t:Int) (l:List Int):Xs:=if t < 0 then x else wakeE endF x t.toNat l
def inC (x:Xs) (C:Cr):Xs:={ x with C:=C }
def inL (x:Xs) (S:Lk):Xs:={ x with C:={ x.C with L:=S } }
def newT (g:Pg) (f:Int):Th:=⟨0,0,[newFm g f],[],0⟩
def spawnX (g:Pg) (x:Xs) (t:Nat) (f:Int):Xs :=
 if g.th≤(x.C.th.length:Int) then tellF (seeX x 1 t (-1)) t [-1]
 else tellF { seeX { x with C:={ x.C with th:=x.C.th ++ [newT g f] } } 1 t x.C.th.length with wk:=x.wk ++ [(x.C.th.length:Int)],wp:=x.wp ++ [(x.C.th.length:Int)] } t [(x.C.th.length:Int)]
def joinX (x:Xs) (t:Nat) (v:Int):Xs :=
 if v < 0∨(x.C.th.length:Int)≤v∨v = t then endF x t 5
 else if (thAt x.C v.toNat).st = 9 then tellF x t [(thAt x.C v.toNat).code]
 else restX x t 2 v
def movedX (x:Xs) (t m:Int) (has:Bool):Xs:=if has then wakeF x t [] else restX x t.toNat 3 m
def movedL (m got:Int) (x:Xs) (t:Int):Xs:=movedX x t m (decide (t = got))
def sendX (g:Pg) (x:Xs) (t:Nat) (c:Int) (v:Int):Xs :=
 let r:=sendC x.C c.toNat (g.ch.getD c.toNat 0) t v
 if r.2.2 = false then restX (inC x r.1) t 6 c
 else if r.2.1 < 0 then inC x r.1
 else if (thAt r.1 r.2.1.toNat).st = 8 then wakeF (inC x r.1) r.2.1 [v,idxI (qAt g.cs (thAt r.1 r.2.1.toNat).on.toNat) c]
 else wakeF (inC x r.1) r.2.1 [v]
def recvX (x:Xs) (t:Nat) (c:Int):Xs :=
 let r:=selC x.C [c] t
 if r.2.2.2.2 = false then restX (inC x r.1) t 7 c else wakeF (tellF (inC x r.1) t [r.2.2.1]) r.2.2.2.1 []
def chooseX (g:Pg) (x:Xs) (t:Nat) (a:Int):Xs :=
 let r:=selC x.C (qAt g.cs a.toNat) t
 if r.2.2.2.2 = false then restX (inC x r.1) t 8 a else wakeF (tellF (inC x r.1) t [r.2.2.1,r.2.1]) r.2.2.2.1 []
def lockX (x:Xs) (t:Nat) (a:Int):Xs :=
 let r:=lockS x.C.L a.toNat t
 if r.2 then inL x r.1 else restX (inL x r.1) t 3 a
def unlockX (x:Xs) (t:Nat) (a:Int):Xs :=
 let r:=unlockS x.C.L a.toNat t
 if r.2.2 = 0 then wakeF (inL x r.1) r.2.1 [] else endF x t 4
def waitX (g:Pg) (x:Xs) (t:Nat) (a:Int):Xs :=
 let r:=waitS x.C.L a.toNat (g.co.getD a.toNat 0).toNat t
 if r.2.2 = 0 then restX (wakeF (inL x r.1) r.2.1 []) t 4 a else endF x t 4
def signalX (g:Pg) (x:Xs) (a:Int):Xs :=
 let m:=g.co.getD a.toNat 0
 let r:=signalS x.C.L a.toNat m.toNat
 if r.2.1 < 0 then x else movedX (inL x r.1) r.2.1 m r.2.2
def broadX (g:Pg) (x:Xs) (a:Int):Xs :=
 let m:=g.co.getD a.toNat 0
 let r:=broadS x.C.L a.toNat m.toNat
 r.2.1.foldl (movedL m r.2.2) (inL x r.1)
def downX (x:Xs) (t:Nat) (a:Int):Xs :=
 let r:=downS x.C.L a.toNat t
 if r.2 then inL x r.1 else restX (inL x r.1) t 5 a
def upX (x:Xs) (a:Int):Xs :=
 let r:=upS x.C.L a.toNat
 wakeF (inL x r.1) r.2 []
def sleepX (x:Xs) (t:Nat) (v:Int):Xs:=if x.C.now < keep (x.C.now+v) then restX x t 1 (keep (x.C.now+v)) else x
def meetX (g:Pg) (x:Xs) (t:Nat) (q:Rq):Xs :=
 if q.kd = 1 then endF x t q.v
 else if q.kd = 16 then seeX x 0 t q.v
 else if q.kd = 3 then spawnX g x t q.a
 else if q.kd = 4 then sleepX x t q.v
 else if q.kd = 5 then joinX x t q.v
 else if q.kd = 6 then lockX x t q.a
 else if q.kd = 7 then unlockX x t q.a
 else if q.kd = 8 then waitX g x t q.a
 else if q.kd = 9 then signalX g x q.a
 else if q.kd = 10 then broadX g x q.a
 else if q.kd = 11 then downX x t q.a
 else if q.kd = 12 then upX x q.a
 else if q.kd = 13 then sendX g x t q.a q.v
 else if q.kd = 14 then recvX x t q.a
 else if q.kd = 15 then chooseX g x t q.a
 else x
def begX (g:Pg) (C:Cr) (t:Nat):Xs:=⟨putT C t (stepT g (thAt C t)).1,[],[],[]⟩
def stepC (g:Pg) (C:Cr) (t:Int):Cr × List Ev × List Int × Int :=
 if t < 0∨(C.th.length:Int)≤t then (C,[],[],1)
 else if (thAt C t.toNat).st ≠ 0 then (C,[],[],10)
 else
  let x:=meetX g (begX g C t.toNat) t.toNat (stepT g (thAt C t.toNat)).2
  (x.C,x.ev,x.wk.filter (fun k=>decide (k ≠ t) && decide ((thAt x.C k.toNat).st = 0)),0)
theorem clone130p (xs:List Int) (hl:xs.length * 8≤140737488351232) (hx:xs ≠ []):Spec Tryz.prog 80 [ints xs] [] (fun d os'=>d = .sl 0 0 1 0 xs.length none∧os' = [rowI xs]):=by
 have hm:(xs.map (D.int .i64)) ≠ []:=fun e=>hx (List.map_eq_nil_iff.1 e)
 refine Spec.by Tryz.func80 rfl (by decide) (by decide +kernel) rfl ?_
 refine goA ?_
 refine And.intro (fun hn=>?_) (fun hn=>absurd hn hm)
 refine goA ?_
 refine App.own ?_
 refine goA ?_
 refine Ret.weak (Weak.shift 1 0 (by decide) (by simp) (bl rfl) (bl rfl) (fun j=>by cases j <;> rfl) rfl) ?_
 refine Ret.trim 1 (by simp) rfl (bl rfl) ?_
 refine Ret.mk [.tmp _] rfl (And.intro ?_ rfl)
 show D.sl 0 0 1 0 (0+(xs.map (D.int .i64)).length) none = _
 simp
theorem ownL_ints:∀ (l:List Int),D.ownL (l.map (D.int .i64)) = true
 | []=>rfl
 | v :: l=>by
  show ((D.int .i64 v).own && D.ownL (l.map (D.int .i64))) = true
  rw [ownL_ints l]; rfl
@[reducible] def lkDn (nm nw ns:Nat):D:=.agg [.int .i64 0,.nils,.sl 0 0 1 0 nm none,.sl 1 0 1 0 ns none,.nils,.sl 2 0 1 0 nm none,.sl 3 0 1 0 nw none,.sl 4 0 1 0 ns none,.nils,.nils]
theorem clone130w (xs:List Int) (hl:xs.length * 8≤140737488351232):Spec Tryz.prog 80 [ints xs] [] (fun d os'=>d = .sl 0 0 1 0 xs.length none∧os' = [rowI xs]):=by
 by_cases hx:xs = []
 ·subst hx
  refine Spec.by Tryz.func80 rfl (by decide) (by decide +kernel) rfl ?_
  refine goA ?_
  refine fun _=>And.intro ?_ ?_
  ·refine goA ?_
   refine Ret.weak (Weak.nilrow 2 rfl 3 1 true) ?_
   exact Ret.mk [.tmp _] rfl (And.intro rfl rfl)
  ·refine goA ?_
   refine App.own ?_
   refine goA ?_
   refine Ret.weak (Weak.shift 1 0 (by decide) (by simp) (bl rfl) (bl rfl) (fun j=>by cases j <;> rfl) rfl) ?_
   refine Ret.trim 1 (by simp) rfl (bl rfl) ?_
   exact Ret.mk [.tmp _] rfl (And.intro rfl rfl)
 ·exact clone130p xs hl hx
def newS (nm nw:Nat) (se:List Int):Lk:=⟨List.replicate nm (-1),se,List.replicate nm [],List.replicate nw [],List.replicate se.length []⟩
@[reducible] def lkR (S:Lk):Objs:=[rowI S.ow,rowI S.co,rowC S.lk,rowC S.wq,rowC S.dq]
@[reducible] def lkD1 (nm nw ns:Nat):D:=.agg [.int .i64 0,.nils,.sl 1 0 1 0 nm none,.sl 2 0 1 0 ns none,.nils,.sl 3 0 1 0 nm none,.sl 4 0 1 0 nw none,.sl 5 0 1 0 ns none,.nils,.nils]
@[reducible] def lkDx (nm nw ns a b c d e:Nat):D:=.agg [.int .i64 0,.nils,.sl a 0 1 0 nm none,.sl b 0 1 0 ns none,.nils,.sl c 0 1 0 nm none,.sl d 0 1 0 nw none,.sl e 0 1 0 ns none,.nils,.nils]
@[reducible] def nilC (n:Nat):Fam:=one (.row 23 1 true (List.replicate n .nils))
theorem rep_nilsL {ρ:Pl} {I:Im} {v:Value} (sz:Nat) (f:Bool) (h:rep ρ I .nils v):rep ρ I (.lst sz f []) v:=by
 have h':v = .slice none 0 0:=by rw [rep] at h; exact h
 rw [rep]
 exact ⟨none,0,[],h',Nat.le_refl _,by simp,fun _=>rfl,repL_nil.2 rfl,(fun u hu=>by cases hu),.inl rfl⟩
theorem repL_nilsL {ρ:Pl} {I:Im}:∀ (n:Nat) (vs:List Value),repL ρ I (List.replicate n .nils) vs→repL ρ I ((List.replicate n ([]:List Int)).map ints) vs
 | 0,vs,h=>h
 | n+1,vs,h=>by
  obtain ⟨u,us,rfl,hu,h⟩:=repL_cons.1 h
  exact repL_cons.2 ⟨u,us,rfl,rep_nilsL 1 false hu,repL_nilsL n us h⟩
theorem Weak.nilsC {n0:Nat} {m:List (Nat × D)} {os:Objs} (k n:Nat) (hk:os.at k 0 = .row 23 1 true (List.replicate n .nils)):Weak n0 { m:=m,objs:=os } { m:=m,objs:=os.put k 0 (.row 23 1 true ((List.replicate n ([]:List Int)).map ints)) } :=
 Weak.retellP k hk _ (by simp) (fun I us=>repL_nilsL n us)
theorem new66i (nm nw:Nat) (se:List Int) (h1:nm≤1000) (h2:nw≤1000) (h3:se.length≤1000):Spec Tryz.prog 85 [.int .i64 nm,.int .i64 nw,ints se] [] (fun d os'=>d = lkD1 nm nw se.length∧os' = one (.row 30 10 false [lkD1 nm nw se.length]) :: lkR (newS nm nw se)):=by
 have hsm:(se.map (D.int .i64)).length = se.length:=List.length_map ..
 refine Spec.by Tryz.func85 rfl (by decide) (by decide +kernel) rfl ?_
 refine goA ?_
 repeat (refine erC ?_)
 refine goA ?_
 refine App.only false rfl rfl ?_
 refine goA ?_
 repeat (refine erC ?_)
 refine Call.mk ((repeat148 (-1) nm h1).onto _ rfl) ?_
 rintro d os' ⟨_,_,⟨rfl,rfl⟩,rfl,rfl⟩
 refine goA ?_
 repeat (refine erC ?_)
 refine Call.mk ((clone130w se (by omega)).onto _ rfl) ?_
 rintro d os' ⟨_,_,⟨rfl,rfl⟩,rfl,rfl⟩
 refine goA ?_
 repeat (refine erC ?_)
 refine goA ?_
 repeat (refine erC ?_)
 refine goA ?_
 repeat (refine erC ?_)
 refine goA ?_
 refine Ret.weak (Weak.on [(6,.ptr 0 0 10 0 0)] [one (.row 30 10 false [.agg [.int .i64 0,.nils,.sl 1 0 1 0 nm none,.sl 2 0 1 0 se.length none,.nils,.sl 3 0 1 0 nm none,.sl 4 0 1 0 nw none,.sl 5 0 1 0 (se.map (D.int .i64)).length none,.nils,.nils]]),rowI (List.replicate nm (-1)),rowI se,nilC nm,nilC nw,nilC (se.map (D.int .i64)).length]) ?_
 rw [hsm]
 refine Ret.weak (Weak.trans (Weak.nilsC 3 nm rfl) (Weak.trans (Weak.nilsC 4 nw rfl) (Weak.nilsC 5 se.length rfl))) ?_
 refine Ret.mk [.cell 6 30] rfl ?_
 refine goA ?_
 exact rfl
theorem new66 (nm nw:Nat) (se:List Int) (h1:nm≤1000) (h2:nw≤1000) (h3:se.length≤1000):Spec Tryz.prog 85 [.int .i64 nm,.int .i64 nw,ints se] [] (fun d os'=>d = lkDn nm nw se.length∧os' = lkR (newS nm nw se)):=by
 refine Spec.weak (new66i nm nw se h1 h2 h3) ?_
 rintro d os' ⟨rfl,rfl⟩
 refine ⟨[(0,lkDn nm nw se.length)],lkR (newS nm nw se),?_,rfl,rfl⟩
 refine Weak.trans (Weak.frzK (fun i=>Nat.beq i 0) [] trivial) ?_
 refine Weak.trans (Weak.on [(0,lkDx nm nw se.length 1 2 3 4 5)] [one .gone,rowI (newS nm nw se).ow,rowI (newS nm nw se).co,rowC (newS nm nw se).lk,rowC (newS nm nw se).wq,rowC (newS nm nw se).dq]) ?_
 refine Weak.shf 1 0 ?_
 refine Weak.trans (Weak.on [(0,lkDx nm nw se.length 0 2 3 4 5)] [rowI (newS nm nw se).ow,one .gone,rowI (newS nm nw se).co,rowC (newS nm nw se).lk,rowC (newS nm nw se).wq,rowC (newS nm nw se).dq]) ?_
 refine Weak.shf 2 1 ?_
 refine Weak.trans (Weak.on [(0,lkDx nm nw se.length 0 1 3 4 5)] [rowI (newS nm nw se).ow,rowI (newS nm nw se).co,one .gone,rowC (newS nm nw se).lk,rowC (newS nm nw se).wq,rowC (newS nm nw se).dq]) ?_
 refine Weak.shf 3 2 ?_
 refine Weak.trans (Weak.on [(0,lkDx nm nw se.length 0 1 2 4 5)] [rowI (newS nm nw se).ow,rowI (newS nm nw se).co,rowC (newS nm nw se).lk,one .gone,rowC (newS nm nw se).wq,rowC (newS nm nw se).dq]) ?_
 refine Weak.shf 4 3 ?_
 refine Weak.trans (Weak.on [(0,lkDx nm nw se.length 0 1 2 3 5)] [rowI (newS nm nw se).ow,rowI (newS nm nw se).co,rowC (newS nm nw se).lk,rowC (newS nm nw se).wq,one .gone,rowC (newS nm nw se).dq]) ?_
 refine Weak.shf 5 4 ?_
 refine Weak.trans (Weak.on [(0,lkDx nm nw se.length 0 1 2 3 4)] [rowI (newS nm nw se).ow,rowI (newS nm nw se).co,rowC (newS nm nw se).lk,rowC (newS nm nw se).wq,rowC (newS nm nw se).dq,one .gone]) ?_
 exact Weak.fin 5
theorem Spec.args {P:Program} {f:FuncId} {args args':List D} {os:Objs} {post:D→Objs→Prop} (h:Spec P f args os post) (hv:∀ ρ I vs,repL ρ I args' vs→repL ρ I args vs):Spec P f args' os post :=
 ⟨h.1,fun ρ I w vs s r=>h.2 ρ I w vs s (hv ρ I vs r)⟩
structure EO (e:En) (x:Xs):Prop where
 xb:XB 100 1000 1000 x
 L:LkL e.nm e.nw e.ns x.C.L
 N:LkN x.C.L
 tl:e.t < x.C.th.length
 nw:e.g.co.length = e.nw
 co:∀ v ∈ e.g.co,0≤v∧v < e.nm
theorem args_nils (a b:D) (ρ:Pl) (I:Im) (vs:List Value) (h:repL ρ I [a,b,.nils] vs):repL ρ I [a,b,ints []] vs:=by
 obtain ⟨u,us,rfl,ha,h⟩:=repL_cons.1 h
 obtain ⟨v,vs,rfl,hb,h⟩:=repL_cons.1 h
 obtain ⟨z,zs,rfl,hc,h⟩:=repL_cons.1 h
 exact repL_cons.2 ⟨_,_,rfl,ha,repL_cons.2 ⟨_,_,rfl,hb,repL_cons.2 ⟨_,_,rfl,rep_nilsL 1 false hc,h⟩⟩⟩
theorem wakeF185 {e:En} {b w:Nat} {x:Xs} (hx:XB 100 b w x) (hb:b≤40000) {t:Int} (ht:0≤t→t.toNat < x.C.th.length) (hz:LkZ e.nm e.nw e.ns x.C.L) (l:List Int) (hl:l.length≤1000) :
  Spec Tryz.prog 185 [.ptr 5 0 20 0 0,.int .i64 t,ints l] (pyA e x) (fun d os'=>d = .tup []∧os' = pyB e (wakeF x t l)):=by
 unfold wakeF
 by_cases h0:t < 0
 ·rw [if_pos h0]
  refine Spec.by Tryz.func185 rfl (by decide) (by decide +kernel) rfl ?_
  refine goA ?_
  refine Ret.weak (Weak.on [] (pyA e x)) ?_
  refine Ret.weak (liftAB [] rfl rfl) ?_
  exact Ret.mk [] rfl ⟨rfl,rfl⟩
 ·rw [if_neg h0]
  obtain ⟨k,rfl⟩:∃ k:Nat,t = (k:Int):=⟨t.toNat,by omega⟩
  have hk:k < x.C.th.length:=by have:=ht (by omega); omega
  exact wake185 (end_all e 100) (rest_xb hx hk (k:Int) 0 0 (by decide)).1 (by omega) hk hz l hl
theorem wakeN185 {e:En} {b w:Nat} {x:Xs} (hx:XB 100 b w x) (hb:b≤40000) {t:Int} (ht:0≤t→t.toNat < x.C.th.length) (hz:LkZ e.nm e.nw e.ns x.C.L) :
  Spec Tryz.prog 185 [.ptr 5 0 20 0 0,.int .i64 t,.nils] (pyA e x) (fun d os'=>d = .tup []∧os' = pyB e (wakeF x t [])) :=
 (wakeF185 hx hb ht hz [] (by simp)).args (args_nils _ _)
theorem moved188 {e:En} {b w:Nat} {x:Xs} (hx:XB 100 b w x) (hb:b≤40000) {t:Int} (h0:0≤t) (ht:t.toNat < x.C.th.length) (hz:LkZ e.nm e.nw e.ns x.C.L) (m:Int) (has:Bool) :
  Spec Tryz.prog 188 [.ptr 5 0 20 0 0,.int .i64 t,.int .i64 m,.bool has] (pyA e x) (fun d os'=>d = .tup []∧os' = pyB e (movedX x t m has)):=by
 cases has with
 | true =>
  rw [show movedX x t m true = wakeF x t [] from if_pos rfl]
  refine Spec.by Tryz.func188 rfl (by decide) (by decide +kernel) rfl ?_
  refine goA ?_
  refine Call.mk (wakeN185 hx hb (fun _=>ht) hz) ?_
  rintro d os' ⟨rfl,rfl⟩
  refine goA ?_
  exact Ret.mk [] rfl ⟨rfl,rfl⟩
 | false =>
  rw [show movedX x t m false = restX x t.toNat 3 m from if_neg Bool.false_ne_true]
  obtain ⟨k,rfl⟩:∃ k:Nat,t = (k:Int):=⟨t.toNat,by omega⟩
  rw [Int.toNat_natCast] at ht ⊢
  have hg:=th_at ht
  have hm:(x.C.th.map thD).length = x.C.th.length:=List.length_map ..
  refine Spec.by Tryz.func188 rfl (by decide) (by decide +kernel) rfl ?_
  refine goA ?_
  refine Opt.of hg ?_
  refine goA ?_
  refine Opt.of (show ((x.C.th.map thD).set (0+k) _)[0+k]? = some _ by rw [Nat.zero_add]; exact List.getElem?_set_self (by rw [hm]; exact ht)) ?_
  refine goA ?_
  refine Ret.weak (Weak.on [] ((pyA e x).put 6 0 (.row 42 5 true (((x.C.th.map thD).set (0+k) (thD { thAt x.C k with st:=3 })).set (0+k) (thD { thAt x.C k with st:=3,on:=m }))))) ?_
  rw [pyA_th2 x.wk]
  refine Ret.weak (liftAB [] rfl rfl) ?_
  exact Ret.mk [] rfl ⟨rfl,rfl⟩
@[reducible] def qK (q:Rq):Fam:=one (.row 107 3 false [rqD q])
theorem up_end {e:En} {x:Xs} {K:Fam} (h:EO e x) (c:Int):Spec Tryz.prog 179 [.ptr 5 0 20 0 0,.int .i64 e.t,.int .i64 c] (pyK e x K) (fun d os'=>d = .tup []∧os' = pyKB e (endF x e.t c) K) :=
 upK K (end_all e 100 x e.t c 1000 1000 h.xb (by omega) h.tl h.L.z) rfl rfl
theorem ends107 {e:En} {x:Xs} (h:EO e x) (q:Rq):Spec Tryz.prog 107 [.ptr 5 0 20 0 0,rqD q] (pyA e x) (fun d os'=>d = .tup []∧os' = pyB e (endF x e.t q.v)):=by
 refine Spec.by Tryz.func107 rfl (by decide) (by decide +kernel) rfl ?_
 refine goA ?_
 refine Call.mk (up_end h q.v) ?_
 rintro d os' ⟨rfl,rfl⟩
 refine goA ?_
 refine Ret.weak (Weak.on [] (pyKB e (endF x e.t q.v) (qK q))) ?_
 refine Ret.weak (lowK [] (.inl rfl)) ?_
 exact Ret.mk [] rfl ⟨rfl,rfl⟩
theorem print108 {e:En} {x:Xs} (h:EO e x) (q:Rq):Spec Tryz.prog 108 [.ptr 5 0 20 0 0,rqD q] (pyA e x) (fun d os'=>d = .tup []∧os' = pyB e (seeX x 0 e.t q.v)):=by
 refine Spec.by Tryz.func108 rfl (by decide) (by decide +kernel) rfl ?_
 refine goA ?_
 refine Call.mk (upK (qK q) (seeA e x 0 q.v e.t (by have:=h.xb.ev; omega)) rfl rfl) ?_
 rintro d os' ⟨rfl,rfl⟩
 refine goA ?_
 refine Ret.weak (Weak.on [] (pyKB e (seeX x 0 e.t q.v) (qK q))) ?_
 refine Ret.weak (lowK [] (.inl rfl)) ?_
 exact Ret.mk [] rfl ⟨rfl,rfl⟩
theorem lowA {e:En} {x:Xs} {K:Fam}:Weak 12 { m:=[],objs:=pyK e x K } { m:=[],objs:=pyB e x }:=by
 refine Weak.trans (Weak.fin (sl:=[]) (os:=pyA e x) 12) ?_
 exact liftAB [] rfl rfl
theorem lock112 {e:En} {x:Xs} (h:EO e x) (q:Rq) (hq:0≤q.a∧q.a < e.nm):Spec Tryz.prog 112 [.ptr 5 0 20 0 0,rqD q] (pyA e x) (fun d os'=>d = .tup []∧os' = pyB e (lockX x e.t q.a)):=by
 obtain ⟨kd,qa,v⟩:=q
 dsimp only at hq
 obtain ⟨a,rfl⟩:∃ a:Nat,qa = (a:Int):=⟨qa.toNat,by omega⟩
 have hs:=lock67 (A:=e.A x 10 11) h.L a (by omega) (e.t:Int) [rowT x.C.th,rowC x.C.bu,rowC x.C.sq,rowC x.C.rq,rowE x.ev,rowI x.wp,qK ⟨kd,a,v⟩]
 unfold lockX
 dsimp only
 rw [Int.toNat_natCast]
 obtain ⟨⟨S',b⟩,hT⟩:∃ r,lockS x.C.L a e.t = r:=⟨_,rfl⟩
 rw [hT] at hs ⊢
 dsimp only at hs ⊢
 cases b with
 | true =>
  refine Spec.by Tryz.func112 rfl (by decide) (by decide +kernel) rfl ?_
  refine goA ?_
  refine Call.mk hs ?_
  rintro d os' ⟨rfl,rfl⟩
  refine goA ?_
  refine Ret.weak (Weak.on [] (pyK e (inL x S') (qK ⟨kd,a,v⟩))) ?_
  refine Ret.weak lowA ?_
  exact Ret.mk [] rfl ⟨rfl,rfl⟩
 | false =>
  refine Spec.by Tryz.func112 rfl (by decide) (by decide +kernel) rfl ?_
  refine goA ?_
  refine Call.mk hs ?_
  rintro d os' ⟨rfl,rfl⟩
  refine goA ?_
  refine Call.mk (restG (e:=e) (x:=inL x S') h.tl 3 a 10 11 [rowE x.ev,rowI x.wp,qK ⟨kd,a,v⟩]) ?_
  rintro d os' ⟨rfl,rfl⟩
  refine goA ?_
  refine Ret.weak (Weak.on [] (pyK e (restX (inL x S') e.t 3 a) (qK ⟨kd,a,v⟩))) ?_
  refine Ret.weak lowA ?_
  exact Ret.mk [] rfl ⟨rfl,rfl⟩
theorem down117 {e:En} {x:Xs} (h:EO e x) (q:Rq) (hq:0≤q.a∧q.a < e.ns):Spec Tryz.prog 117 [.ptr 5 0 20 0 0,rqD q] (pyA e x) (fun d os'=>d = .tup []∧os' = pyB e (downX x e.t q.a)):=by
 obtain ⟨kd,qa,v⟩:=q
 dsimp only at hq
 obtain ⟨a,rfl⟩:∃ a:Nat,qa = (a:Int):=⟨qa.toNat,by omega⟩
 have hs:=down71 (A:=e.A x 10 11) h.L h.N a (by omega) (e.t:Int) [rowT x.C.th,rowC x.C.bu,rowC x.C.sq,rowC x.C.rq,rowE x.ev,rowI x.wp,qK ⟨kd,a,v⟩]
 unfold downX
 dsimp only
 rw [Int.toNat_natCast]
 obtain ⟨⟨S',b⟩,hT⟩:∃ r,downS x.C.L a e.t = r:=⟨_,rfl⟩
 rw [hT] at hs ⊢
 dsimp only at hs ⊢
 cases b with
 | true =>
  refine Spec.by Tryz.func117 rfl (by decide) (by decide +kernel) rfl ?_
  refine goA ?_
  refine Call.mk hs ?_
  rintro d os' ⟨rfl,rfl⟩
  refine goA ?_
  refine Ret.weak (Weak.on [] (pyK e (inL x S') (qK ⟨kd,a,v⟩))) ?_
  refine Ret.weak lowA ?_
  exact Ret.mk [] rfl ⟨rfl,rfl⟩
 | false =>
  refine Spec.by Tryz.func117 rfl (by decide) (by decide +kernel) rfl ?_
  refine goA ?_
  refine Call.mk hs ?_
  rintro d os' ⟨rfl,rfl⟩
  refine goA ?_
  refine Call.mk (restG (e:=e) (x:=inL x S') h.tl 5 a 10 11 [rowE x.ev,rowI x.wp,qK ⟨kd,a,v⟩]) ?_
  rintro d os' ⟨rfl,rfl⟩
  refine goA ?_
  refine Ret.weak (Weak.on [] (pyK e (restX (inL x S') e.t 5 a) (qK ⟨kd,a,v⟩))) ?_
  refine Ret.weak lowA ?_
  exact Ret.mk [] rfl ⟨rfl,rfl⟩
theorem up_wake {e:En} {x:Xs} {K:Fam} {b w:Nat} (hx:XB 100 b w x) (hb:b≤40000) {t:Int} (ht:0≤t→t.toNat < x.C.th.length) (hz:LkZ e.nm e.nw e.ns x.C.L):Spec Tryz.prog 185 [.ptr 5 0 20 0 0,.int .i64 t,.nils] (pyK e x K) (fun d os'=>d = .tup []∧os' = pyKB e (wakeF x t []) K) :=
 upK K (wakeN185 hx hb ht hz) rfl rfl
theorem up118 {e:En} {x:Xs} (h:EO e x) (q:Rq) (hq:0≤q.a∧q.a < e.ns) (hz:LkZ e.nm e.nw e.ns (upS x.C.L q.a.toNat).1) (hn:0≤(upS x.C.L q.a.toNat).2→(upS x.C.L q.a.toNat).2.toNat < x.C.th.length):Spec Tryz.prog 118 [.ptr 5 0 20 0 0,rqD q] (pyA e x) (fun d os'=>d = .tup []∧os' = pyB e (upX x q.a)):=by
 obtain ⟨kd,qa,v⟩:=q
 dsimp only at hq hz hn
 obtain ⟨a,rfl⟩:∃ a:Nat,qa = (a:Int):=⟨qa.toNat,by omega⟩
 rw [Int.toNat_natCast] at hz hn
 have hs:=up72 (A:=e.A x 10 11) h.L h.N a (by omega) [rowT x.C.th,rowC x.C.bu,rowC x.C.sq,rowC x.C.rq,rowE x.ev,rowI x.wp,qK ⟨kd,a,v⟩]
 unfold upX
 dsimp only
 rw [Int.toNat_natCast]
 obtain ⟨⟨S',t'⟩,hT⟩:∃ r,upS x.C.L a = r:=⟨_,rfl⟩
 rw [hT] at hs hz hn ⊢
 dsimp only at hs hz hn ⊢
 refine Spec.by Tryz.func118 rfl (by decide) (by decide +kernel) rfl ?_
 refine goA ?_
 refine Call.mk hs ?_
 rintro d os' ⟨rfl,rfl⟩
 refine goA ?_
 refine Call.mk (up_wake (x:=inL x S') (K:=qK ⟨kd,a,v⟩) (b:=1000) (w:=1000) ⟨h.xb.jn,h.xb.tl,h.xb.th,h.xb.ev,h.xb.wp,h.xb.wk⟩ (by omega) hn hz) ?_
 rintro d os' ⟨rfl,rfl⟩
 refine goA ?_
 refine Ret.weak (Weak.on [] (pyKB e (wakeF (inL x S') t' []) (qK ⟨kd,a,v⟩))) ?_
 refine Ret.weak (lowK [] (.inl rfl)) ?_
 exact Ret.mk [] rfl ⟨rfl,rfl⟩
theorem unlock113 {e:En} {x:Xs} (h:EO e x) (q:Rq) (hq:0≤q.a∧q.a < e.nm) (hz:LkZ e.nm e.nw e.ns (unlockS x.C.L q.a.toNat e.t).1) (hn:0≤(unlockS x.C.L q.a.toNat e.t).2.1→(unlockS x.C.L q.a.toNat e.t).2.1.toNat < x.C.th.length):Spec Tryz.prog 113 [.ptr 5 0 20 0 0,rqD q] (pyA e x) (fun d os'=>d = .tup []∧os' = pyB e (unlockX x e.t q.a)):=by
 obtain ⟨kd,qa,v⟩:=q
 dsimp only at hq hz hn
 obtain ⟨a,rfl⟩:∃ a:Nat,qa = (a:Int):=⟨qa.toNat,by omega⟩
 rw [Int.toNat_natCast] at hz hn
 have hs:=unlock68 (A:=e.A x 10 11) h.L a (by omega) (e.t:Int) [rowT x.C.th,rowC x.C.bu,rowC x.C.sq,rowC x.C.rq,rowE x.ev,rowI x.wp,qK ⟨kd,a,v⟩]
 have hbad:(unlockS x.C.L a e.t).2.2 ≠ 0→(unlockS x.C.L a e.t).1 = x.C.L:=by
  unfold unlockS; split
  ·intro _; rfl
  ·intro h; exact absurd rfl h
 unfold unlockX
 dsimp only
 rw [Int.toNat_natCast]
 obtain ⟨⟨S',t',er⟩,hT⟩:∃ r,unlockS x.C.L a e.t = r:=⟨_,rfl⟩
 rw [hT] at hs hz hn hbad ⊢
 dsimp only at hs hz hn hbad ⊢
 by_cases he:er = 0
 ·rw [if_pos he]
  refine Spec.by Tryz.func113 rfl (by decide) (by decide +kernel) rfl ?_
  refine goA ?_
  refine Call.mk hs ?_
  rintro d os' ⟨rfl,rfl⟩
  refine goA ?_
  refine Call.mk (up_wake (x:=inL x S') (K:=qK ⟨kd,a,v⟩) (b:=1000) (w:=1000) ⟨h.xb.jn,h.xb.tl,h.xb.th,h.xb.ev,h.xb.wp,h.xb.wk⟩ (by omega) hn hz) ?_
  rintro d os' ⟨rfl,rfl⟩
  refine goA ?_
  refine Ret.weak (Weak.on [] (pyKB e (wakeF (inL x S') t' []) (qK ⟨kd,a,v⟩))) ?_
  refine Ret.weak (lowK [] (.inl rfl)) ?_
  exact Ret.mk [] rfl ⟨rfl,rfl⟩
 ·rw [if_neg he]
  have hSx:=hbad he
  rw [hSx] at hs
  refine Spec.by Tryz.func113 rfl (by decide) (by decide +kernel) rfl ?_
  refine goA ?_
  refine Call.mk hs ?_
  rintro d os' ⟨rfl,rfl⟩
  refine goA ?_
  refine Call.mk (up_end h 4) ?_
  rintro d os' ⟨rfl,rfl⟩
  refine goA ?_
  refine Ret.weak (Weak.on [] (pyKB e (endF x e.t 4) (qK ⟨kd,a,v⟩))) ?_
  refine Ret.weak (lowK [] (.inl rfl)) ?_
  exact Ret.mk [] rfl ⟨rfl,rfl⟩
end Go.Proofs.YtkceciebmkklpaaGreat.V
