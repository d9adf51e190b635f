/- VT: a text of a symbolic executor that is proved sound, and contracts that are proved with it. -/
import Derived.Test.YtkceciebmkklpaaGreatVA
import Derived.Test.YtkceciebmkklpaaGreatVB
import Derived.Test.YtkceciebmkklpaaGreatProg
import Derived.KernelRfl
set_option linter.unusedVariables false
set_option linter.unusedSimpArgs false
section
namespace Go.Proofs.YtkceciebmkklpaaGreat.V
open Go Go.RowKit
def kOf:TypeDesc→TK
 | .int k=>.int k
 | .bool=>.bool
 | .string=>.str
 | .pointer _=>.ptr
 | .slice e=>.slice e
 | .struct F=>.struct (F.toList.map fun f=>(f.offset,f.type))
 | .array n e=>.arr n e
 | .map k e=>.map k e
 | .func _ _ _=>.func
 | _=>.other
def zOf (size:Nat):Option Value→D
 | some z=>if z.cells.size = size∧z.cells.toList.all (·.oneCell') = true then dOf z else .junk
 | none=>.junk
def tauP (P:Program) (t:TypeId):Option TI :=
 match P.info? t,P.underlying t with
 | some i,some d=>some { k:=kOf d,size:=i.size,bytes:=i.bytes,zero:=zOf i.size i.zero }
 | _,_=>none
theorem tauP_ok (P:Program):TauOk P (tauP P):=by
 intro t ti h
 unfold tauP at h
 split at h
 case h_2=>simp at h
 rename_i i d hi hd
 simp at h
 subst h
 refine ⟨i,d,hi,hd,rfl,rfl,?_,?_,fun ks h=>by cases h⟩
 ·cases d <;> simp [kOf,kindOk]
 ·cases hz:i.zero with
  | none=>exact .inl rfl
  | some z =>
   by_cases hc:z.cells.size = i.size∧z.cells.toList.all (·.oneCell') = true
   ·right
    refine ⟨z,rfl,fun ρ I=>?_,hc.1,fun c hcm=>List.all_eq_true.1 hc.2 c hcm⟩
    simp only [zOf,if_pos hc]
    exact rep_dOf ρ I z
   ·left; simp only [zOf,if_neg hc]
def tabAt:List (Option TI)→Nat→Option TI
 | [],_=>none
 | x :: _,0=>x
 | _ :: l,n+1=>tabAt l n
def tab2 (tab:List (List (Option TI))) (t:Nat):Option TI :=
 match tabAt' tab (t / 16) with
 | some l=>tabAt l (t % 16)
 | none=>none
where tabAt':List (List (Option TI))→Nat→Option (List (Option TI))
 | [],_=>none
 | x :: _,0=>some x
 | _ :: l,n+1=>tabAt' l n
def pieces (P:Program) (n:Nat):List (List (Option TI)):=(List.range n).map fun i=>(List.range 16).map fun j=>tauP P (16 * i+j)
theorem tab2_ok {P:Program} {tab:List (List (Option TI))} (h:pieces P tab.length = tab):TauOk P (tab2 tab):=by
 intro t ti ht
 have e1:∀ (l:List (Option TI)) (n:Nat),tabAt l n = (l[n]?).join:=by
  intro l
  induction l with
  | nil=>intro n; rfl
  | cons x l ih=>intro n; cases n <;> simp [tabAt,ih]
 have e2:∀ (l:List (List (Option TI))) (n:Nat),tab2.tabAt' l n = l[n]?:=by
  intro l
  induction l with
  | nil=>intro n; rfl
  | cons x l ih=>intro n; cases n <;> simp [tab2.tabAt',ih]
 unfold tab2 at ht
 rw [e2] at ht
 rcases Nat.lt_or_ge (t / 16) tab.length with hlt | hge
 ·rw [← h,pieces,List.getElem?_map,List.getElem?_range hlt] at ht
  simp only [Option.map_some] at ht
  rw [e1,List.getElem?_map,List.getElem?_range (Nat.mod_lt _ (by omega))] at ht
  simp only [Option.map_some,Option.join_some] at ht
  rw [Nat.div_add_mod] at ht
  exact tauP_ok P t ti ht
 ·rw [List.getElem?_eq_none hge] at ht; simp at ht
def cmpL (P:Program):List Field→List IntKind→Nat→Bool
 | [],[],_=>true
 | f :: fs,k :: ks,i=>f.name != "_" && f.offset == i && (match P.underlying f.type with | some (.int k')=>k' == k | _=>false) && cmpL P fs ks (i+1)
 | _,_,_=>false
def cmpB (P:Program) (t:TypeId) (ks:List IntKind):Bool :=
 match P.underlying t with
 | some (.struct F)=>!P.stoodInHeld t && cmpL P F.toList ks 0
 | _=>false
theorem cmpL_ok {P:Program}:∀ (fs:List Field) (ks:List IntKind) (o:Nat),cmpL P fs ks o = true→fs.length = ks.length∧∀ (i:Nat) (f:Field),fs[i]? = some f→f.name ≠ "_" ∧ f.offset = o+i∧∃ k,ks[i]? = some k∧P.underlying f.type = some (.int k)
 | [],[],o,_=>⟨rfl,fun i f h=>by simp at h⟩
 | [],_ :: _,o,h=>by simp [cmpL] at h
 | _ :: _,[],o,h=>by simp [cmpL] at h
 | f :: fs,k :: ks,o,h=>by
  simp only [cmpL,Bool.and_eq_true] at h
  obtain ⟨⟨⟨h1,h2⟩,h3⟩,h4⟩:=h
  obtain ⟨g1,g2⟩:=cmpL_ok fs ks (o+1) h4
  refine ⟨by simp [g1],fun i g hg=>?_⟩
  cases i with
  | zero =>
   simp at hg; subst hg
   refine ⟨by simpa using h1,by simpa using h2,k,rfl,?_⟩
   split at h3
   ·rename_i k' hk'
    rw [hk']
    cases k <;> cases k' <;> first | rfl | exact absurd h3 (by decide)
   ·cases h3
  | succ i =>
   obtain ⟨a1,a2,a3⟩:=g2 i g (by simpa using hg)
   exact ⟨a1,by omega,by simpa using a3⟩
theorem cmpB_ok {P:Program} {t:TypeId} {ks:List IntKind} (h:cmpB P t ks = true):CmpOk P t ks:=by
 unfold cmpB at h
 split at h
 ·rename_i F hF
  rw [Bool.and_eq_true] at h
  obtain ⟨g1,g2⟩:=cmpL_ok _ _ 0 h.2
  exact ⟨F,hF,by simpa using h.1,g1,fun i f hf=>by obtain ⟨a1,a2,a3⟩:=g2 i f hf; exact ⟨a1,by omega,a3⟩⟩
 ·cases h
def assocC:List (Nat × List IntKind)→Nat→Option (List IntKind)
 | [],_=>none
 | (t,ks) :: r,i=>bif Nat.beq t i then some ks else assocC r i
def addCmp (cs:List (Nat × List IntKind)) (τ:Tau):Tau:=fun t =>
 match τ t with
 | some ti=>some { k:=ti.k,size:=ti.size,bytes:=ti.bytes,zero:=ti.zero,cmp:=assocC cs t }
 | none=>none
theorem addCmp_ok {P:Program} {cs:List (Nat × List IntKind)} {τ:Tau} (h:TauOk P τ) (hc:cs.all (fun p=>cmpB P p.1 p.2) = true):TauOk P (addCmp cs τ):=by
 have key:∀ (cs:List (Nat × List IntKind)) t ks,cs.all (fun p=>cmpB P p.1 p.2) = true→assocC cs t = some ks→CmpOk P t ks:=by
  intro cs
  induction cs with
  | nil=>intro t ks _ he; cases he
  | cons p cs ih =>
   intro t ks ha he
   simp only [List.all_cons,Bool.and_eq_true] at ha
   obtain ⟨u,us⟩:=p
   simp only [assocC] at he
   cases hb:Nat.beq u t with
   | true =>
    have:=Nat.eq_of_beq_eq_true hb
    subst this
    rw [hb] at he
    simp at he; subst he
    exact cmpB_ok ha.1
   | false=>rw [hb] at he; exact ih t ks ha.2 he
 intro t ti ht
 unfold addCmp at ht
 split at ht
 case h_2=>cases ht
 rename_i ti0 ht0
 cases ht
 obtain ⟨i,d,hty⟩:=h t ti0 ht0
 exact ⟨i,d,hty.info,hty.und,hty.size,hty.bytes,hty.kind,hty.zero,fun ks hk=>key cs t ks hc hk⟩
end Go.Proofs.YtkceciebmkklpaaGreat.V
end
section
namespace Go.Proofs.YtkceciebmkklpaaGreat.V
open Go
set_option maxRecDepth 100000
def tau0:List (Option TI):=[some { k:=TK.other,size:=1,bytes:=0,zero:=D.junk },some { k:=TK.func,size:=1,bytes:=8,zero:=D.nilf },some { k:=TK.int Go.IntKind.i64,size:=1,bytes:=8,zero:=D.int Go.IntKind.i64 (0) },some { k:=TK.int Go.IntKind.i64,size:=1,bytes:=8,zero:=D.int Go.IntKind.i64 (0) },some { k:=TK.bool,size:=1,bytes:=1,zero:=D.bool Bool.false },some { k:=TK.int Go.IntKind.u8,size:=1,bytes:=1,zero:=D.int Go.IntKind.u8 (0) },some { k:=TK.int Go.IntKind.u8,size:=1,bytes:=1,zero:=D.int Go.IntKind.u8 (0) },some { k:=TK.struct [(0,2),(1,3),(2,4),(3,6)],size:=4,bytes:=24,zero:=D.agg [D.int Go.IntKind.i64 (0),D.int Go.IntKind.i64 (0),D.bool Bool.false,D.int Go.IntKind.u8 (0)] },some { k:=TK.struct [(0,2),(1,3),(2,4),(3,6)],size:=4,bytes:=24,zero:=D.agg [D.int Go.IntKind.i64 (0),D.int Go.IntKind.i64 (0),D.bool Bool.false,D.int Go.IntKind.u8 (0)] },some { k:=TK.str,size:=1,bytes:=16,zero:=D.str { data:={ toList:=[] } } },some { k:=TK.str,size:=1,bytes:=16,zero:=D.str { data:={ toList:=[] } } },some { k:=TK.str,size:=1,bytes:=16,zero:=D.str { data:={ toList:=[] } } },some { k:=TK.int Go.IntKind.u64,size:=1,bytes:=8,zero:=D.int Go.IntKind.u64 (0) },some { k:=TK.struct [(0,9),(1,12)],size:=2,bytes:=24,zero:=D.agg [D.str { data:={ toList:=[] } },D.int Go.IntKind.u64 (0)] },some { k:=TK.struct [(0,9),(1,12)],size:=2,bytes:=24,zero:=D.agg [D.str { data:={ toList:=[] } },D.int Go.IntKind.u64 (0)] },some { k:=TK.ptr,size:=1,bytes:=8,zero:=D.nilp }]
def tau1:List (Option TI):=[some { k:=TK.ptr,size:=1,bytes:=8,zero:=D.nilp },some { k:=TK.ptr,size:=1,bytes:=8,zero:=D.nilp },some { k:=TK.struct [(0,17)],size:=1,bytes:=8,zero:=D.agg [D.nilp] },some { k:=TK.struct [(0,17)],size:=1,bytes:=8,zero:=D.agg [D.nilp] },some { k:=TK.other,size:=1,bytes:=16,zero:=D.junk },some { k:=TK.int Go.IntKind.i32,size:=1,bytes:=4,zero:=D.int Go.IntKind.i32 (0) },some { k:=TK.slice 68,size:=1,bytes:=24,zero:=D.nils },some { k:=TK.slice 3,size:=1,bytes:=24,zero:=D.nils },some { k:=TK.slice 23,size:=1,bytes:=24,zero:=D.nils },some { k:=TK.struct [(0,22),(1,3),(2,23),(3,23),(4,23),(5,24),(6,3)],size:=7,bytes:=136,zero:=D.agg [D.nils,D.int Go.IntKind.i64 (0),D.nils,D.nils,D.nils,D.nils,D.int Go.IntKind.i64 (0)] },some { k:=TK.struct [(0,22),(1,3),(2,23),(3,23),(4,23),(5,24),(6,3)],size:=7,bytes:=136,zero:=D.agg [D.nils,D.int Go.IntKind.i64 (0),D.nils,D.nils,D.nils,D.nils,D.int Go.IntKind.i64 (0)] },some { k:=TK.func,size:=1,bytes:=8,zero:=D.nilf },some { k:=TK.slice 42,size:=1,bytes:=24,zero:=D.nils },some { k:=TK.struct [(0,3),(1,28),(2,23),(3,23),(4,24),(5,24),(6,24),(7,24),(8,24),(9,24)],size:=10,bytes:=224,zero:=D.agg [D.int Go.IntKind.i64 (0),D.nils,D.nils,D.nils,D.nils,D.nils,D.nils,D.nils,D.nils,D.nils] },some { k:=TK.struct [(0,3),(1,28),(2,23),(3,23),(4,24),(5,24),(6,24),(7,24),(8,24),(9,24)],size:=10,bytes:=224,zero:=D.agg [D.int Go.IntKind.i64 (0),D.nils,D.nils,D.nils,D.nils,D.nils,D.nils,D.nils,D.nils,D.nils] },some { k:=TK.func,size:=1,bytes:=8,zero:=D.nilf }]
def tau2:List (Option TI):=[some { k:=TK.func,size:=1,bytes:=8,zero:=D.nilf },some { k:=TK.slice 84,size:=1,bytes:=24,zero:=D.nils },some { k:=TK.other,size:=1,bytes:=0,zero:=D.junk },some { k:=TK.func,size:=1,bytes:=8,zero:=D.nilf },some { k:=TK.func,size:=1,bytes:=8,zero:=D.nilf },some { k:=TK.int Go.IntKind.i64,size:=1,bytes:=8,zero:=D.int Go.IntKind.i64 (0) },some { k:=TK.other,size:=1,bytes:=0,zero:=D.junk },some { k:=TK.func,size:=1,bytes:=8,zero:=D.nilf },some { k:=TK.slice 116,size:=1,bytes:=24,zero:=D.nils },some { k:=TK.struct [(0,3),(1,3),(2,40),(3,23),(4,3)],size:=5,bytes:=72,zero:=D.agg [D.int Go.IntKind.i64 (0),D.int Go.IntKind.i64 (0),D.nils,D.nils,D.int Go.IntKind.i64 (0)] },some { k:=TK.struct [(0,3),(1,3),(2,40),(3,23),(4,3)],size:=5,bytes:=72,zero:=D.agg [D.int Go.IntKind.i64 (0),D.int Go.IntKind.i64 (0),D.nils,D.nils,D.int Go.IntKind.i64 (0)] },some { k:=TK.func,size:=1,bytes:=8,zero:=D.nilf },some { k:=TK.func,size:=1,bytes:=8,zero:=D.nilf },some { k:=TK.func,size:=1,bytes:=8,zero:=D.nilf },some { k:=TK.func,size:=1,bytes:=8,zero:=D.nilf },some { k:=TK.func,size:=1,bytes:=8,zero:=D.nilf }]
def tau3:List (Option TI):=[some { k:=TK.func,size:=1,bytes:=8,zero:=D.nilf },some { k:=TK.struct [(0,3),(1,3)],size:=2,bytes:=16,zero:=D.agg [D.int Go.IntKind.i64 (0),D.int Go.IntKind.i64 (0)] },some { k:=TK.struct [(0,3),(1,3)],size:=2,bytes:=16,zero:=D.agg [D.int Go.IntKind.i64 (0),D.int Go.IntKind.i64 (0)] },some { k:=TK.slice 50,size:=1,bytes:=24,zero:=D.nils },some { k:=TK.func,size:=1,bytes:=8,zero:=D.nilf },some { k:=TK.func,size:=1,bytes:=8,zero:=D.nilf },some { k:=TK.other,size:=1,bytes:=0,zero:=D.junk },some { k:=TK.func,size:=1,bytes:=8,zero:=D.nilf },some { k:=TK.slice 69,size:=1,bytes:=24,zero:=D.nils },some { k:=TK.func,size:=1,bytes:=8,zero:=D.nilf },some { k:=TK.func,size:=1,bytes:=8,zero:=D.nilf },some { k:=TK.func,size:=1,bytes:=8,zero:=D.nilf },some { k:=TK.func,size:=1,bytes:=8,zero:=D.nilf },some { k:=TK.func,size:=1,bytes:=8,zero:=D.nilf },some { k:=TK.slice 4,size:=1,bytes:=24,zero:=D.nils },some { k:=TK.slice 65,size:=1,bytes:=24,zero:=D.nils }]
def tau4:List (Option TI):=[some { k:=TK.struct [(0,3),(1,3)],size:=2,bytes:=16,zero:=D.agg [D.int Go.IntKind.i64 (0),D.int Go.IntKind.i64 (0)] },some { k:=TK.struct [(0,3),(1,3)],size:=2,bytes:=16,zero:=D.agg [D.int Go.IntKind.i64 (0),D.int Go.IntKind.i64 (0)] },some { k:=TK.func,size:=1,bytes:=8,zero:=D.nilf },some { k:=TK.struct [(0,3),(1,63)],size:=2,bytes:=32,zero:=D.agg [D.int Go.IntKind.i64 (0),D.nils] },some { k:=TK.struct [(0,3),(1,63)],size:=2,bytes:=32,zero:=D.agg [D.int Go.IntKind.i64 (0),D.nils] },some { k:=TK.struct [(0,3),(1,3)],size:=2,bytes:=16,zero:=D.agg [D.int Go.IntKind.i64 (0),D.int Go.IntKind.i64 (0)] },some { k:=TK.func,size:=1,bytes:=8,zero:=D.nilf },some { k:=TK.map 3 3,size:=1,bytes:=8,zero:=D.junk },some { k:=TK.func,size:=1,bytes:=8,zero:=D.nilf },some { k:=TK.func,size:=1,bytes:=8,zero:=D.nilf },some { k:=TK.func,size:=1,bytes:=8,zero:=D.nilf },some { k:=TK.func,size:=1,bytes:=8,zero:=D.nilf },some { k:=TK.other,size:=1,bytes:=0,zero:=D.junk },some { k:=TK.func,size:=1,bytes:=8,zero:=D.nilf },some { k:=TK.func,size:=1,bytes:=8,zero:=D.nilf },some { k:=TK.other,size:=1,bytes:=0,zero:=D.junk }]
def tau5:List (Option TI):=[some { k:=TK.func,size:=1,bytes:=8,zero:=D.nilf },some { k:=TK.func,size:=1,bytes:=8,zero:=D.nilf },some { k:=TK.func,size:=1,bytes:=8,zero:=D.nilf },some { k:=TK.struct [(0,3),(1,3),(2,3)],size:=3,bytes:=24,zero:=D.agg [D.int Go.IntKind.i64 (0),D.int Go.IntKind.i64 (0),D.int Go.IntKind.i64 (0)] },some { k:=TK.struct [(0,3),(1,3),(2,3)],size:=3,bytes:=24,zero:=D.agg [D.int Go.IntKind.i64 (0),D.int Go.IntKind.i64 (0),D.int Go.IntKind.i64 (0)] },some { k:=TK.other,size:=1,bytes:=0,zero:=D.junk },some { k:=TK.func,size:=1,bytes:=8,zero:=D.nilf },some { k:=TK.func,size:=1,bytes:=8,zero:=D.nilf },some { k:=TK.func,size:=1,bytes:=8,zero:=D.nilf },some { k:=TK.func,size:=1,bytes:=8,zero:=D.nilf },some { k:=TK.other,size:=1,bytes:=0,zero:=D.junk },some { k:=TK.func,size:=1,bytes:=8,zero:=D.nilf },some { k:=TK.slice 33,size:=1,bytes:=24,zero:=D.nils },some { k:=TK.func,size:=1,bytes:=8,zero:=D.nilf },some { k:=TK.func,size:=1,bytes:=8,zero:=D.nilf },some { k:=TK.other,size:=1,bytes:=0,zero:=D.junk }]
def tau6:List (Option TI):=[some { k:=TK.func,size:=1,bytes:=8,zero:=D.nilf },some { k:=TK.func,size:=1,bytes:=8,zero:=D.nilf },some { k:=TK.func,size:=1,bytes:=8,zero:=D.nilf },some { k:=TK.func,size:=1,bytes:=8,zero:=D.nilf },some { k:=TK.func,size:=1,bytes:=8,zero:=D.nilf },some { k:=TK.func,size:=1,bytes:=8,zero:=D.nilf },some { k:=TK.func,size:=1,bytes:=8,zero:=D.nilf },some { k:=TK.ptr,size:=1,bytes:=8,zero:=D.nilp },some { k:=TK.struct [(0,26),(7,30),(17,3),(18,33),(19,23)],size:=20,bytes:=416,zero:=D.agg [D.nils,D.int Go.IntKind.i64 (0),D.nils,D.nils,D.nils,D.nils,D.int Go.IntKind.i64 (0),D.int Go.IntKind.i64 (0),D.nils,D.nils,D.nils,D.nils,D.nils,D.nils,D.nils,D.nils,D.nils,D.int Go.IntKind.i64 (0),D.nils,D.nils] },some { k:=TK.struct [(0,26),(7,30),(17,3),(18,33),(19,23)],size:=20,bytes:=416,zero:=D.agg [D.nils,D.int Go.IntKind.i64 (0),D.nils,D.nils,D.nils,D.nils,D.int Go.IntKind.i64 (0),D.int Go.IntKind.i64 (0),D.nils,D.nils,D.nils,D.nils,D.nils,D.nils,D.nils,D.nils,D.nils,D.int Go.IntKind.i64 (0),D.nils,D.nils] },some { k:=TK.struct [(0,3),(1,3),(2,3)],size:=3,bytes:=24,zero:=D.agg [D.int Go.IntKind.i64 (0),D.int Go.IntKind.i64 (0),D.int Go.IntKind.i64 (0)] },some { k:=TK.struct [(0,3),(1,3),(2,3)],size:=3,bytes:=24,zero:=D.agg [D.int Go.IntKind.i64 (0),D.int Go.IntKind.i64 (0),D.int Go.IntKind.i64 (0)] },some { k:=TK.other,size:=1,bytes:=0,zero:=D.junk },some { k:=TK.func,size:=1,bytes:=8,zero:=D.nilf },some { k:=TK.func,size:=1,bytes:=8,zero:=D.nilf },some { k:=TK.map 3 110,size:=1,bytes:=8,zero:=D.junk }]
def tau7:List (Option TI):=[some { k:=TK.func,size:=1,bytes:=8,zero:=D.nilf },some { k:=TK.func,size:=1,bytes:=8,zero:=D.nilf },some { k:=TK.func,size:=1,bytes:=8,zero:=D.nilf },some { k:=TK.struct [(0,3),(1,3),(2,23)],size:=3,bytes:=40,zero:=D.agg [D.int Go.IntKind.i64 (0),D.int Go.IntKind.i64 (0),D.nils] },some { k:=TK.struct [(0,3),(1,3),(2,23)],size:=3,bytes:=40,zero:=D.agg [D.int Go.IntKind.i64 (0),D.int Go.IntKind.i64 (0),D.nils] },some { k:=TK.func,size:=1,bytes:=8,zero:=D.nilf },some { k:=TK.func,size:=1,bytes:=8,zero:=D.nilf },some { k:=TK.slice 24,size:=1,bytes:=24,zero:=D.nils },some { k:=TK.func,size:=1,bytes:=8,zero:=D.nilf },some { k:=TK.func,size:=1,bytes:=8,zero:=D.nilf },some { k:=TK.func,size:=1,bytes:=8,zero:=D.nilf },some { k:=TK.func,size:=1,bytes:=8,zero:=D.nilf },some { k:=TK.func,size:=1,bytes:=8,zero:=D.nilf },some { k:=TK.func,size:=1,bytes:=8,zero:=D.nilf },some { k:=TK.func,size:=1,bytes:=8,zero:=D.nilf },some { k:=TK.ptr,size:=1,bytes:=8,zero:=D.nilp }]
def tau8:List (Option TI):=[some { k:=TK.slice 127,size:=1,bytes:=24,zero:=D.nils },some { k:=TK.other,size:=1,bytes:=0,zero:=D.junk },some { k:=TK.func,size:=1,bytes:=8,zero:=D.nilf },some { k:=TK.func,size:=1,bytes:=8,zero:=D.nilf },some { k:=TK.func,size:=1,bytes:=8,zero:=D.nilf },some { k:=TK.func,size:=1,bytes:=8,zero:=D.nilf },some { k:=TK.func,size:=1,bytes:=8,zero:=D.nilf },some { k:=TK.func,size:=1,bytes:=8,zero:=D.nilf },some { k:=TK.func,size:=1,bytes:=8,zero:=D.nilf },some { k:=TK.func,size:=1,bytes:=8,zero:=D.nilf },some { k:=TK.struct [(0,3),(1,3),(2,3)],size:=3,bytes:=24,zero:=D.agg [D.int Go.IntKind.i64 (0),D.int Go.IntKind.i64 (0),D.int Go.IntKind.i64 (0)] },some { k:=TK.other,size:=1,bytes:=0,zero:=D.junk },some { k:=TK.func,size:=1,bytes:=8,zero:=D.nilf },some { k:=TK.struct [(0,26),(7,30),(17,3),(18,33),(19,23)],size:=20,bytes:=416,zero:=D.agg [D.nils,D.int Go.IntKind.i64 (0),D.nils,D.nils,D.nils,D.nils,D.int Go.IntKind.i64 (0),D.int Go.IntKind.i64 (0),D.nils,D.nils,D.nils,D.nils,D.nils,D.nils,D.nils,D.nils,D.nils,D.int Go.IntKind.i64 (0),D.nils,D.nils] },some { k:=TK.struct [(0,26),(7,30),(17,3),(18,33),(19,23)],size:=20,bytes:=416,zero:=D.agg [D.nils,D.int Go.IntKind.i64 (0),D.nils,D.nils,D.nils,D.nils,D.int Go.IntKind.i64 (0),D.int Go.IntKind.i64 (0),D.nils,D.nils,D.nils,D.nils,D.nils,D.nils,D.nils,D.nils,D.nils,D.int Go.IntKind.i64 (0),D.nils,D.nils] },some { k:=TK.func,size:=1,bytes:=8,zero:=D.nilf }]
def tau9:List (Option TI):=[some { k:=TK.func,size:=1,bytes:=8,zero:=D.nilf },some { k:=TK.func,size:=1,bytes:=8,zero:=D.nilf },some { k:=TK.func,size:=1,bytes:=8,zero:=D.nilf },some { k:=TK.func,size:=1,bytes:=8,zero:=D.nilf },some { k:=TK.func,size:=1,bytes:=8,zero:=D.nilf },some { k:=TK.func,size:=1,bytes:=8,zero:=D.nilf },some { k:=TK.other,size:=1,bytes:=0,zero:=D.junk },some { k:=TK.func,size:=1,bytes:=8,zero:=D.nilf },some { k:=TK.ptr,size:=1,bytes:=8,zero:=D.nilp },some { k:=TK.struct [(0,26),(7,42),(12,3),(13,3),(14,107)],size:=17,bytes:=248,zero:=D.agg [D.nils,D.int Go.IntKind.i64 (0),D.nils,D.nils,D.nils,D.nils,D.int Go.IntKind.i64 (0),D.int Go.IntKind.i64 (0),D.int Go.IntKind.i64 (0),D.nils,D.nils,D.int Go.IntKind.i64 (0),D.int Go.IntKind.i64 (0),D.int Go.IntKind.i64 (0),D.int Go.IntKind.i64 (0),D.int Go.IntKind.i64 (0),D.int Go.IntKind.i64 (0)] },some { k:=TK.struct [(0,26),(7,42),(12,3),(13,3),(14,107)],size:=17,bytes:=248,zero:=D.agg [D.nils,D.int Go.IntKind.i64 (0),D.nils,D.nils,D.nils,D.nils,D.int Go.IntKind.i64 (0),D.int Go.IntKind.i64 (0),D.int Go.IntKind.i64 (0),D.nils,D.nils,D.int Go.IntKind.i64 (0),D.int Go.IntKind.i64 (0),D.int Go.IntKind.i64 (0),D.int Go.IntKind.i64 (0),D.int Go.IntKind.i64 (0),D.int Go.IntKind.i64 (0)] },some { k:=TK.func,size:=1,bytes:=8,zero:=D.nilf },some { k:=TK.func,size:=1,bytes:=8,zero:=D.nilf },some { k:=TK.map 3 156,size:=1,bytes:=8,zero:=D.junk },some { k:=TK.func,size:=1,bytes:=8,zero:=D.nilf },some { k:=TK.func,size:=1,bytes:=8,zero:=D.nilf }]
def tau10:List (Option TI):=[some { k:=TK.func,size:=1,bytes:=8,zero:=D.nilf },some { k:=TK.func,size:=1,bytes:=8,zero:=D.nilf },some { k:=TK.func,size:=1,bytes:=8,zero:=D.nilf },some { k:=TK.func,size:=1,bytes:=8,zero:=D.nilf },some { k:=TK.func,size:=1,bytes:=8,zero:=D.nilf },some { k:=TK.func,size:=1,bytes:=8,zero:=D.nilf },some { k:=TK.other,size:=1,bytes:=0,zero:=D.junk },some { k:=TK.func,size:=1,bytes:=8,zero:=D.nilf },some { k:=TK.func,size:=1,bytes:=8,zero:=D.nilf },some { k:=TK.other,size:=1,bytes:=0,zero:=D.junk },some { k:=TK.func,size:=1,bytes:=8,zero:=D.nilf },some { k:=TK.func,size:=1,bytes:=8,zero:=D.nilf },some { k:=TK.func,size:=1,bytes:=8,zero:=D.nilf },some { k:=TK.func,size:=1,bytes:=8,zero:=D.nilf },some { k:=TK.func,size:=1,bytes:=8,zero:=D.nilf },some { k:=TK.func,size:=1,bytes:=8,zero:=D.nilf }]
def tau11:List (Option TI):=[some { k:=TK.func,size:=1,bytes:=8,zero:=D.nilf },some { k:=TK.func,size:=1,bytes:=8,zero:=D.nilf },some { k:=TK.func,size:=1,bytes:=8,zero:=D.nilf },some { k:=TK.func,size:=1,bytes:=8,zero:=D.nilf },some { k:=TK.func,size:=1,bytes:=8,zero:=D.nilf },some { k:=TK.func,size:=1,bytes:=8,zero:=D.nilf },some { k:=TK.func,size:=1,bytes:=8,zero:=D.nilf },some { k:=TK.func,size:=1,bytes:=8,zero:=D.nilf },some { k:=TK.func,size:=1,bytes:=8,zero:=D.nilf },some { k:=TK.func,size:=1,bytes:=8,zero:=D.nilf },some { k:=TK.func,size:=1,bytes:=8,zero:=D.nilf },some { k:=TK.func,size:=1,bytes:=8,zero:=D.nilf },some { k:=TK.func,size:=1,bytes:=8,zero:=D.nilf },some { k:=TK.func,size:=1,bytes:=8,zero:=D.nilf },some { k:=TK.func,size:=1,bytes:=8,zero:=D.nilf },some { k:=TK.ptr,size:=1,bytes:=8,zero:=D.nilp }]
def tau12:List (Option TI):=[some { k:=TK.func,size:=1,bytes:=8,zero:=D.nilf },some { k:=TK.func,size:=1,bytes:=8,zero:=D.nilf },some { k:=TK.func,size:=1,bytes:=8,zero:=D.nilf },some { k:=TK.func,size:=1,bytes:=8,zero:=D.nilf },some { k:=TK.func,size:=1,bytes:=8,zero:=D.nilf },some { k:=TK.other,size:=1,bytes:=0,zero:=D.junk },some { k:=TK.func,size:=1,bytes:=8,zero:=D.nilf },some { k:=TK.func,size:=1,bytes:=8,zero:=D.nilf },some { k:=TK.func,size:=1,bytes:=8,zero:=D.nilf },some { k:=TK.other,size:=1,bytes:=0,zero:=D.junk },some { k:=TK.func,size:=1,bytes:=8,zero:=D.nilf },some { k:=TK.other,size:=1,bytes:=0,zero:=D.junk },some { k:=TK.func,size:=1,bytes:=8,zero:=D.nilf },some { k:=TK.int Go.IntKind.u64,size:=1,bytes:=8,zero:=D.int Go.IntKind.u64 (0) },some { k:=TK.other,size:=1,bytes:=0,zero:=D.junk },some { k:=TK.func,size:=1,bytes:=8,zero:=D.nilf }]
def tau13:List (Option TI):=[some { k:=TK.func,size:=1,bytes:=8,zero:=D.nilf },some { k:=TK.func,size:=1,bytes:=8,zero:=D.nilf },some { k:=TK.other,size:=1,bytes:=0,zero:=D.junk },some { k:=TK.func,size:=1,bytes:=8,zero:=D.nilf },some { k:=TK.other,size:=1,bytes:=0,zero:=D.junk },some { k:=TK.func,size:=1,bytes:=8,zero:=D.nilf },some { k:=TK.func,size:=1,bytes:=8,zero:=D.nilf },some { k:=TK.other,size:=1,bytes:=0,zero:=D.junk },some { k:=TK.func,size:=1,bytes:=8,zero:=D.nilf },some { k:=TK.other,size:=1,bytes:=0,zero:=D.junk },some { k:=TK.func,size:=1,bytes:=8,zero:=D.nilf },some { k:=TK.func,size:=1,bytes:=8,zero:=D.nilf },some { k:=TK.other,size:=1,bytes:=0,zero:=D.junk },some { k:=TK.func,size:=1,bytes:=8,zero:=D.nilf },some { k:=TK.other,size:=1,bytes:=0,zero:=D.junk },some { k:=TK.func,size:=1,bytes:=8,zero:=D.nilf }]
def tau14:List (Option TI):=[some { k:=TK.func,size:=1,bytes:=8,zero:=D.nilf },some { k:=TK.func,size:=1,bytes:=8,zero:=D.nilf },some { k:=TK.func,size:=1,bytes:=8,zero:=D.nilf },some { k:=TK.ptr,size:=1,bytes:=8,zero:=D.nilp },some { k:=TK.func,size:=1,bytes:=8,zero:=D.nilf },some { k:=TK.func,size:=1,bytes:=8,zero:=D.nilf },some { k:=TK.func,size:=1,bytes:=8,zero:=D.nilf },some { k:=TK.func,size:=1,bytes:=8,zero:=D.nilf },some { k:=TK.other,size:=1,bytes:=0,zero:=D.junk },some { k:=TK.func,size:=1,bytes:=8,zero:=D.nilf },some { k:=TK.int Go.IntKind.u32,size:=1,bytes:=4,zero:=D.int Go.IntKind.u32 (0) },some { k:=TK.other,size:=1,bytes:=0,zero:=D.junk },some { k:=TK.func,size:=1,bytes:=8,zero:=D.nilf },some { k:=TK.int Go.IntKind.u64,size:=1,bytes:=8,zero:=D.int Go.IntKind.u64 (0) },some { k:=TK.other,size:=1,bytes:=0,zero:=D.junk },some { k:=TK.func,size:=1,bytes:=8,zero:=D.nilf }]
def tau15:List (Option TI):=[some { k:=TK.func,size:=1,bytes:=8,zero:=D.nilf },some { k:=TK.func,size:=1,bytes:=8,zero:=D.nilf },some { k:=TK.func,size:=1,bytes:=8,zero:=D.nilf },some { k:=TK.func,size:=1,bytes:=8,zero:=D.nilf },some { k:=TK.func,size:=1,bytes:=8,zero:=D.nilf },some { k:=TK.func,size:=1,bytes:=8,zero:=D.nilf },some { k:=TK.func,size:=1,bytes:=8,zero:=D.nilf },some { k:=TK.func,size:=1,bytes:=8,zero:=D.nilf },some { k:=TK.func,size:=1,bytes:=8,zero:=D.nilf },some { k:=TK.func,size:=1,bytes:=8,zero:=D.nilf },some { k:=TK.struct [(0,17),(1,17),(2,17),(3,9)],size:=4,bytes:=40,zero:=D.agg [D.nilp,D.nilp,D.nilp,D.str { data:={ toList:=[] } }] },some { k:=TK.struct [(0,17),(1,17),(2,17),(3,9)],size:=4,bytes:=40,zero:=D.agg [D.nilp,D.nilp,D.nilp,D.str { data:={ toList:=[] } }] },some { k:=TK.arr 0 16,size:=0,bytes:=0,zero:=D.agg [] },some { k:=TK.struct [(0,252)],size:=0,bytes:=0,zero:=D.agg [] },some { k:=TK.struct [(0,252)],size:=0,bytes:=0,zero:=D.agg [] },some { k:=TK.int Go.IntKind.u8,size:=1,bytes:=1,zero:=D.int Go.IntKind.u8 (0) }]
def tau16:List (Option TI):=[some { k:=TK.int Go.IntKind.u8,size:=1,bytes:=1,zero:=D.int Go.IntKind.u8 (0) },some { k:=TK.func,size:=1,bytes:=8,zero:=D.nilf },some { k:=TK.ptr,size:=1,bytes:=8,zero:=D.nilp },some { k:=TK.int Go.IntKind.i32,size:=1,bytes:=4,zero:=D.int Go.IntKind.i32 (0) },some { k:=TK.int Go.IntKind.i32,size:=1,bytes:=4,zero:=D.int Go.IntKind.i32 (0) },some { k:=TK.struct [(0,12),(1,12),(2,234),(3,255),(4,5),(5,5),(6,256),(7,257),(8,258),(9,259),(10,260)],size:=11,bytes:=48,zero:=D.agg [D.int Go.IntKind.u64 (0),D.int Go.IntKind.u64 (0),D.int Go.IntKind.u32 (0),D.int Go.IntKind.u8 (0),D.int Go.IntKind.u8 (0),D.int Go.IntKind.u8 (0),D.int Go.IntKind.u8 (0),D.nilf,D.nilp,D.int Go.IntKind.i32 (0),D.int Go.IntKind.i32 (0)] },some { k:=TK.struct [(0,12),(1,12),(2,234),(3,255),(4,5),(5,5),(6,256),(7,257),(8,258),(9,259),(10,260)],size:=11,bytes:=48,zero:=D.agg [D.int Go.IntKind.u64 (0),D.int Go.IntKind.u64 (0),D.int Go.IntKind.u32 (0),D.int Go.IntKind.u8 (0),D.int Go.IntKind.u8 (0),D.int Go.IntKind.u8 (0),D.int Go.IntKind.u8 (0),D.nilf,D.nilp,D.int Go.IntKind.i32 (0),D.int Go.IntKind.i32 (0)] },some { k:=TK.other,size:=1,bytes:=8,zero:=D.nilp },none,none,none,none,none,none,none,none]
def taus:List (List (Option TI)):=[tau0,tau1,tau2,tau3,tau4,tau5,tau6,tau7,tau8,tau9,tau10,tau11,tau12,tau13,tau14,tau15,tau16]
theorem tau0_ok:(List.range 16).map (fun j=>tauP Go.Proofs.Tryz.prog (16 * 0+j)) = tau0:=by kernel_rfl
theorem tau1_ok:(List.range 16).map (fun j=>tauP Go.Proofs.Tryz.prog (16 * 1+j)) = tau1:=by kernel_rfl
theorem tau2_ok:(List.range 16).map (fun j=>tauP Go.Proofs.Tryz.prog (16 * 2+j)) = tau2:=by kernel_rfl
theorem tau3_ok:(List.range 16).map (fun j=>tauP Go.Proofs.Tryz.prog (16 * 3+j)) = tau3:=by kernel_rfl
theorem tau4_ok:(List.range 16).map (fun j=>tauP Go.Proofs.Tryz.prog (16 * 4+j)) = tau4:=by kernel_rfl
theorem tau5_ok:(List.range 16).map (fun j=>tauP Go.Proofs.Tryz.prog (16 * 5+j)) = tau5:=by kernel_rfl
theorem tau6_ok:(List.range 16).map (fun j=>tauP Go.Proofs.Tryz.prog (16 * 6+j)) = tau6:=by kernel_rfl
theorem tau7_ok:(List.range 16).map (fun j=>tauP Go.Proofs.Tryz.prog (16 * 7+j)) = tau7:=by kernel_rfl
theorem tau8_ok:(List.range 16).map (fun j=>tauP Go.Proofs.Tryz.prog (16 * 8+j)) = tau8:=by kernel_rfl
theorem tau9_ok:(List.range 16).map (fun j=>tauP Go.Proofs.Tryz.prog (16 * 9+j)) = tau9:=by kernel_rfl
theorem tau10_ok:(List.range 16).map (fun j=>tauP Go.Proofs.Tryz.prog (16 * 10+j)) = tau10:=by kernel_rfl
theorem tau11_ok:(List.range 16).map (fun j=>tauP Go.Proofs.Tryz.prog (16 * 11+j)) = tau11:=by kernel_rfl
theorem tau12_ok:(List.range 16).map (fun j=>tauP Go.Proofs.Tryz.prog (16 * 12+j)) = tau12:=by kernel_rfl
theorem tau13_ok:(List.range 16).map (fun j=>tauP Go.Proofs.Tryz.prog (16 * 13+j)) = tau13:=by kernel_rfl
theorem tau14_ok:(List.range 16).map (fun j=>tauP Go.Proofs.Tryz.prog (16 * 14+j)) = tau14:=by kernel_rfl
theorem tau15_ok:(List.range 16).map (fun j=>tauP Go.Proofs.Tryz.prog (16 * 15+j)) = tau15:=by kernel_rfl
theorem tau16_ok:(List.range 16).map (fun j=>tauP Go.Proofs.Tryz.prog (16 * 16+j)) = tau16:=by kernel_rfl
theorem taus_ok:pieces Go.Proofs.Tryz.prog taus.length = taus:=by
 show [(List.range 16).map (fun j=>tauP Go.Proofs.Tryz.prog (16 * 0+j)),(List.range 16).map (fun j=>tauP Go.Proofs.Tryz.prog (16 * 1+j)),(List.range 16).map (fun j=>tauP Go.Proofs.Tryz.prog (16 * 2+j)),(List.range 16).map (fun j=>tauP Go.Proofs.Tryz.prog (16 * 3+j)),(List.range 16).map (fun j=>tauP Go.Proofs.Tryz.prog (16 * 4+j)),(List.range 16).map (fun j=>tauP Go.Proofs.Tryz.prog (16 * 5+j)),(List.range 16).map (fun j=>tauP Go.Proofs.Tryz.prog (16 * 6+j)),(List.range 16).map (fun j=>tauP Go.Proofs.Tryz.prog (16 * 7+j)),(List.range 16).map (fun j=>tauP Go.Proofs.Tryz.prog (16 * 8+j)),(List.range 16).map (fun j=>tauP Go.Proofs.Tryz.prog (16 * 9+j)),(List.range 16).map (fun j=>tauP Go.Proofs.Tryz.prog (16 * 10+j)),(List.range 16).map (fun j=>tauP Go.Proofs.Tryz.prog (16 * 11+j)),(List.range 16).map (fun j=>tauP Go.Proofs.Tryz.prog (16 * 12+j)),(List.range 16).map (fun j=>tauP Go.Proofs.Tryz.prog (16 * 13+j)),(List.range 16).map (fun j=>tauP Go.Proofs.Tryz.prog (16 * 14+j)),(List.range 16).map (fun j=>tauP Go.Proofs.Tryz.prog (16 * 15+j)),(List.range 16).map (fun j=>tauP Go.Proofs.Tryz.prog (16 * 16+j))] = taus
 rw [tau0_ok,tau1_ok,tau2_ok,tau3_ok,tau4_ok,tau5_ok,tau6_ok,tau7_ok,tau8_ok,tau9_ok,tau10_ok,tau11_ok,tau12_ok,tau13_ok,tau14_ok,tau15_ok,tau16_ok]
 rfl
def cmps:List (Nat × List IntKind):=[(107,[.i64,.i64,.i64]),(65,[.i64,.i64]),(138,[.i64,.i64,.i64]),(84,[.i64,.i64,.i64]),(69,[.i64,.i64]),(50,[.i64,.i64])]
def τ:Tau:=addCmp cmps (tab2 taus)
theorem cmps_ok:cmps.all (fun p=>cmpB Go.Proofs.Tryz.prog p.1 p.2) = true:=by kernel_rfl
theorem τ_ok:TauOk Go.Proofs.Tryz.prog τ:=addCmp_ok (tab2_ok taus_ok) cmps_ok
theorem mixed:Go.Proofs.Tryz.prog.follows .mixedOrders = true:=by kernel_rfl
abbrev Dr:DrawW:=draws τ (Call Go.Proofs.Tryz.prog)
theorem Dr_ok (Γ:Ctx) (N:Nat):DrawOk Go.Proofs.Tryz.prog Γ N Dr:=draws_ok τ_ok mixed Γ N
end Go.Proofs.YtkceciebmkklpaaGreat.V
end
