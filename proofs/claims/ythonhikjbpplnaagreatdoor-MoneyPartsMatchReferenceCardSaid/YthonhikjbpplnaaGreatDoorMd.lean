/- Merged texts: MnH, TvX, EngZW, MnI, MnJ, MnK, MnM, MnO, MnQ, MnR, MnSa, MnSb, MnSc, MnSd, TvLay, EngZC, EngZH, EngZI, EngZJ, TpI, MnP, MnF, MnT, MnU, TpJ0, MnV, MnW, MnX, MnTa, MnTb. -/
import Derived.Shelf.Strings.SlTrimAscii
import Derived.Shelf.Strconv.Itoa0
import Derived.Shelf.Strconv.Itoa1
import Derived.Shelf.Strconv.ToErrorRange
import Derived.Test.YthonhikjbpplnaaGreatDoorProg
import Derived.ProofKit
import Derived.OpenShut
import Derived.LaidMore
import Derived.Deep.Slices
import Derived.Lib.ItoaNum
import Derived.Lib.Strings
import Derived.Lib.Walk
import Derived.Lib.ConvBytes
import Derived.Lib.Hide
import Derived.WalkKit
import Derived.BigCall
import Derived.BigGuard
import Derived.Test.YthonhikjbpplnaaGreatDoorMc
noncomputable section
namespace Go.Proofs.YthonhikjbpplnaaGreatDoor
set_option linter.unusedVariables false
set_option linter.unusedSimpArgs false
set_option linter.unnecessarySimpa false
set_option maxRecDepth 100000
section
def mkP (A S:Int):Nat->List Int->List Prt
 |_,[]=> []
 |k,w::r=>⟨k,A*w/S,A*w%S⟩::mkP A S (k+1) r
def sA (l:List Prt):Int:=(l.map Prt.amt).sum
def sR (l:List Prt):Int:=(l.map Prt.rest).sum
theorem Zhg (p:Prt) (l:List Prt):sA (p::l)=p.amt+sA l:=by simp [sA]
theorem Zt5 (p:Prt) (l:List Prt):sR (p::l)=p.rest+sR l:=by simp [sR]
theorem U4 (A S:Int):∀(k:Nat) (l:List Int),(mkP A S k l).length=l.length
 |_,[]=>rfl
 |k,w::r=>by simp [mkP,U4 A S (k+1) r]
theorem Zhh (A S:Int):∀(k:Nat) (l:List Int) (i:Nat),(mkP A S k l)[i]? =(l[i]?).map fun w=>⟨((k+i:Nat):Int),A*w/S,A*w%S⟩
 |_,[],i=>rfl
 |k,w::r,0=>rfl
 |k,w::r,i+1=>by
  show (mkP A S (k+1) r)[i]? =_
  rw [Zhh A S (k+1) r i,show k+1+i=k+(i+1) by omega]
  rfl
theorem Zhi (A S:Int):∀(k:Nat) (l:List Int),sA (mkP A S k l)*S+sR (mkP A S k l)=A*l.sum
 |_,[]=>by simp [mkP,sA,sR]
 |k,w::r=>by
  have ih:=Zhi A S (k+1) r
  have e:=Int.mul_ediv_add_emod (A*w) S
  show sA (_::mkP A S (k+1) r)*S+sR (_::mkP A S (k+1) r)=A*(w::r).sum
  rw [Zhg,Zt5,List.sum_cons,Int.mul_add,<-ih,Int.add_mul]
  show A*w/S*S+_+(A*w%S+_)=_
  rw [Int.mul_comm (A*w/S) S]
  generalize sA (mkP A S (k+1) r)*S=a
  generalize sR (mkP A S (k+1) r)=b
  omega
theorem Wk {A S:Int} {p:Prt}:∀{k:Nat} {l:List Int},p∈mkP A S k l->∃i w,l[i]? =some w/\p=⟨((k+i:Nat):Int),A*w/S,A*w%S⟩
 |_,[],h=>by cases h
 |k,w::r,h=>by
  rcases List.mem_cons.1 h with rfl|h
  · exact ⟨0,w,rfl,rfl⟩
  · obtain ⟨i,v,h1,h2⟩:=Wk h
    exact ⟨i+1,v,h1,by rw [h2,show k+1+i=k+(i+1) by omega]⟩
theorem Zhj (A S:Int):∀(k:Nat) (l:List Int),Dix Prt.idx (mkP A S k l)
 |_,[]=>List.Pairwise.nil
 |k,w::r=>by
  refine List.pairwise_cons.2 ⟨fun p hp=> ?_,Zhj A S (k+1) r⟩
  obtain ⟨i,v,h1,rfl⟩:=Wk hp
  show (k:Int)≠((k+1+i:Nat):Int)
  omega
theorem Zd2 {S:Int}:∀(l:List Prt),(∀p∈l,0<=p.rest/\p.rest<S)->0<=sR l/\sR l<=l.length*(S-1)
 | [],_=>by simp [sR]
 |p::r,h=>by
  have h1:=h p (by simp)
  obtain ⟨h2,h3⟩:=Zd2 r fun q hq=>h q (by simp [hq])
  unfold sR at*
  rw [List.map_cons,List.sum_cons,List.length_cons,Int.natCast_add,Int.add_mul]
  generalize (r.length:Int)*(S-1)=z at*
  constructor<;>omega
theorem Zfg {a b:List Int} (h:a.Perm b):a.sum=b.sum:=by
 induction h with
 |nil=>rfl
 |cons x _ ih=>rw [List.sum_cons,List.sum_cons,ih]
 |swap x y l=>simp only [List.sum_cons];omega
 |trans _ _ h1 h2=>exact h1.trans h2
theorem Zt6 {a b:List Prt} (h:a.Perm b):sA a=sA b:=Zfg (h.map Prt.amt)
def valP (neg:Bool) (left:Int) (k:Nat) (p:Prt):Int:=
 if neg=true then-(if (k:Int)<left then p.amt+1 else p.amt) else (if (k:Int)<left then p.amt+1 else p.amt)
def putL (neg:Bool) (left:Int):Nat->List Prt->List Int->List Int
 |_,[],L=>L
 |k,p::r,L=>putL neg left (k+1) r (L.set p.idx.toNat (valP neg left k p))
theorem Zd3 (neg:Bool) (left:Int):∀(P:List Prt) (k:Nat) (L:List Int),(putL neg left k P L).length=L.length
 | [],k,L=>rfl
 |p::r,k,L=>by
  show (putL neg left (k+1) r _).length=_
  rw [Zd3 neg left r,List.length_set]
theorem Zdc (neg:Bool) (left:Int):∀(P:List Prt) (k:Nat) (L:List Int) (i:Nat),(∀p∈P,p.idx.toNat≠i)->(putL neg left k P L)[i]? =L[i]?
 | [],k,L,i,_=>rfl
 |p::r,k,L,i,h=>by
  show (putL neg left (k+1) r _)[i]? =_
  rw [Zdc neg left r (k+1) _ i fun q hq=>h q (by simp [hq]),List.getElem?_set_ne (h p (by simp))]
theorem Zi8 (neg:Bool) (left:Int):∀(P:List Prt) (k:Nat) (L:List Int) (j:Nat) (p:Prt),P[j]? =some p->P.Pairwise (fun x y=>x.idx.toNat≠y.idx.toNat)->p.idx.toNat<L.length->
 (putL neg left k P L)[p.idx.toNat]? =some (valP neg left (k+j) p)
 | [],k,L,j,p,h,_,_=>by cases h
 |q::r,k,L,0,p,h,hd,hl=>by
  cases h
  show (putL neg left (k+1) r _)[_]? =_
  rw [Zdc neg left r (k+1) _ _ fun q hq=>Ne.symm ((List.pairwise_cons.1 hd).1 q hq),List.getElem?_set_self hl]
  rfl
 |q::r,k,L,j+1,p,h,hd,hl=>by
  show (putL neg left (k+1) r _)[_]? =_
  rw [Zi8 neg left r (k+1) _ j p h (List.pairwise_cons.1 hd).2 (by rw [List.length_set];exact hl),show k+1+j=k+(j+1) by omega]
def Zfh (neg:Bool) (left:Int):Nat->List Prt->List Int
 |_,[]=> []
 |k,p::r=>valP neg left k p::Zfh neg left (k+1) r
theorem Zfi (neg:Bool) (left:Int):∀(P:List Prt) (k j:Nat),(Zfh neg left k P)[j]? =(P[j]?).map (valP neg left (k+j))
 | [],k,j=>rfl
 |p::r,k,0=>rfl
 |p::r,k,j+1=>by
  show (Zfh neg left (k+1) r)[j]? =_
  rw [Zfi neg left r (k+1) j,show k+1+j=k+(j+1) by omega]
  rfl
theorem Zfj (neg:Bool) (left:Int):∀(P:List Prt) (k:Nat),(k:Int)<=left->left<=k+P.length->(Zfh neg left k P).sum=(if neg=true then-(sA P+(left-k)) else sA P+(left-k))
 | [],k,h1,h2=>by
  have:left=k:=by simp at h2;omega
  subst this
  show (0:Int)=_
  split<;>simp [sA]
 |p::r,k,h1,h2=>by
  have hs:sA (p::r)=p.amt+sA r:=by simp [sA]
  show valP neg left k p+(Zfh neg left (k+1) r).sum=_
  rw [hs]
  rw [List.length_cons] at h2
  by_cases hk:(k:Int)<left
  · rw [Zfj neg left r (k+1) (by omega) (by omega)]
    unfold valP
    rw [if_pos hk]
    split<;>omega
  · have he:left=k:=by omega
    have hz:∀(Q:List Prt) (m:Nat),left<(m:Int)->(Zfh neg left m Q).sum=(if neg=true then-(sA Q) else sA Q):=by
     intro Q
     induction Q with
     |nil=>intro m _;show (0:Int)=_;split<;>simp [sA]
     |cons q Q ih=>
      intro m hm
      have hs:sA (q::Q)=q.amt+sA Q:=by simp [sA]
      show valP neg left m q+(Zfh neg left (m+1) Q).sum=_
      rw [ih (m+1) (by omega),hs]
      unfold valP
      rw [if_neg (show ¬((m:Int)<left) by omega)]
      split<;>omega
    rw [hz r (k+1) (by omega)]
    unfold valP
    rw [if_neg hk]
    split<;>omega
def outP (neg:Bool) (A:Int) (ws:List Int):List Int:=
 putL neg (A-sA (mkP A ws.sum 0 ws)) 0 (srtU Prt.rest Prt.idx (mkP A ws.sum 0 ws)) (List.replicate ws.length 0)
structure ShareOk (neg:Bool) (A:Int) (ws R:List Int):Prop where
 len:R.length=ws.length
 sum:R.sum=if neg=true then-A else A
 val:∃inc:Nat->Bool,(∀i w,ws[i]? =some w->R[i]? =some (if neg=true then-(A*w/ws.sum+(if inc i=true then 1 else 0)) else A*w/ws.sum+(if inc i=true then 1 else 0)))/\
  ∀i j v w,ws[i]? =some v->ws[j]? =some w->inc i=true->inc j=false->A*w%ws.sum<A*v%ws.sum\/(A*v%ws.sum=A*w%ws.sum/\i<j)
theorem W6 {A:Int} {ws:List Int} (hA:0<=A) (hS:0<ws.sum):0<=A-sA (mkP A ws.sum 0 ws)/\A-sA (mkP A ws.sum 0 ws)<ws.length:=by
 have e:=Zhi A ws.sum 0 ws
 have hb:=Zd2 (S:=ws.sum) (mkP A ws.sum 0 ws) fun p hp=>by
  obtain ⟨i,w,h1,rfl⟩:=Wk hp
  exact ⟨Int.emod_nonneg _ (by omega),Int.emod_lt_of_pos _ hS⟩
 rw [U4] at hb
 have hn:ws≠ []:=by rintro rfl;exact absurd hS (by simp)
 have hn:0<ws.length:=List.length_pos_iff.2 hn
 generalize sA (mkP A ws.sum 0 ws)=a at*
 generalize sR (mkP A ws.sum 0 ws)=r at*
 generalize ws.sum=S at*
 have e2:(A-a)*S=r:=by rw [Int.sub_mul];omega
 constructor
 · have:0<=(A-a)*S:=by omega
   exact Int.le_of_mul_le_mul_right (by rw [Int.zero_mul];exact this) hS
 · have h3:(A-a)*S<ws.length*S:=by
    have:(ws.length:Int)*(S-1)=ws.length*S-ws.length:=by rw [Int.mul_sub,Int.mul_one]
    omega
   exact Int.lt_of_mul_lt_mul_right h3 (by omega)
theorem Zt7 {neg:Bool} {A:Int} {ws:List Int} (hA:0<=A) (hS:0<ws.sum):ShareOk neg A ws (outP neg A ws):=by
 obtain ⟨l0,l1⟩:=W6 hA hS
 have hsrt:Srt Prt.rest Prt.idx (srtU Prt.rest Prt.idx (mkP A ws.sum 0 ws)):=Y8 (Zhj A ws.sum 0 ws)
 have hperm:=Zs (kl:=Prt.rest) (ix:=Prt.idx) (mkP A ws.sum 0 ws)
 have hlenP:(srtU Prt.rest Prt.idx (mkP A ws.sum 0 ws)).length=ws.length:=by rw [Y7,U4]
 have hsA:=Zt6 hperm
 unfold outP
 have hidx:∀p∈srtU Prt.rest Prt.idx (mkP A ws.sum 0 ws),∃(i:Nat) (w:Int),ws[i]? =some w/\p=⟨(i:Int),A*w/ws.sum,A*w%ws.sum⟩:=by
  intro p hp
  obtain ⟨i,w,h1,h2⟩:=Wk (hperm.mem_iff.1 hp)
  exact ⟨i,w,h1,by rw [h2,Nat.zero_add]⟩
 have hpos:∀(i:Nat) (w:Int),ws[i]? =some w->∃j:Nat,(srtU Prt.rest Prt.idx (mkP A ws.sum 0 ws))[j]? =some (Prt.mk (i:Int) (A*w/ws.sum) (A*w%ws.sum)):=by
  intro i w h
  have h1:(mkP A ws.sum 0 ws)[i]? =some ⟨(i:Int),A*w/ws.sum,A*w%ws.sum⟩:=by rw [Zhh,h,Nat.zero_add];rfl
  exact List.mem_iff_getElem?.1 (hperm.mem_iff.2 (List.mem_iff_getElem?.2 ⟨i,h1⟩))
 have hdist:(srtU Prt.rest Prt.idx (mkP A ws.sum 0 ws)).Pairwise fun x y=>x.idx.toNat≠y.idx.toNat:=by
  have hd:Dix Prt.idx (srtU Prt.rest Prt.idx (mkP A ws.sum 0 ws)):=(Zhj A ws.sum 0 ws).perm hperm.symm
  refine List.Pairwise.imp_of_mem ?_ hd
  intro x y hx hy h
  obtain ⟨i,w,_,rfl⟩:=hidx x hx
  obtain ⟨j,v,_,rfl⟩:=hidx y hy
  have h:(i:Int)≠(j:Int):=h
  show (i:Int).toNat≠(j:Int).toNat
  omega
 generalize hleft:A-sA (mkP A ws.sum 0 ws)=left at*
 generalize srtU Prt.rest Prt.idx (mkP A ws.sum 0 ws)=P at*
 have hput:∀j p,P[j]? =some p->(putL neg left 0 P (List.replicate ws.length 0))[p.idx.toNat]? =some (valP neg left j p):=by
  intro j p hj
  have:=Zi8 neg left P 0 (List.replicate ws.length 0) j p hj hdist (by
   obtain ⟨i,w,h1,rfl⟩:=hidx p (List.mem_iff_getElem?.2 ⟨j,hj⟩)
   rw [List.length_replicate]
   show (i:Int).toNat<_
   rw [Int.toNat_natCast]
   exact (gA9.1 h1).1)
  rwa [Nat.zero_add] at this
 have hlen:(putL neg left 0 P (List.replicate ws.length 0)).length=ws.length:=by rw [Zd3,List.length_replicate]
 refine ⟨hlen,?_,?_⟩
 · --the sum
   have e1:putL neg left 0 P (List.replicate ws.length 0)=(mkP A ws.sum 0 ws).map fun p=>(putL neg left 0 P (List.replicate ws.length 0)).getD p.idx.toNat 0:=by
    apply List.ext_getElem?
    intro i
    rw [List.getElem?_map,Zhh]
    by_cases hi:i<ws.length
    · rw [gB9 hi,gB9 (by rw [hlen];exact hi)]
      simp [List.getD_eq_getElem?_getD,gB9 (show i<(putL neg left 0 P (List.replicate ws.length 0)).length by rw [hlen];exact hi)]
    · rw [List.getElem?_eq_none (by rw [hlen];omega),List.getElem?_eq_none (by omega)]
      rfl
   have e2:(P.map fun p=>(putL neg left 0 P (List.replicate ws.length 0)).getD p.idx.toNat 0)=Zfh neg left 0 P:=by
    apply List.ext_getElem?
    intro j
    rw [List.getElem?_map,Zfi]
    cases hj:P[j]? with
    |none=>rfl
    |some p=>
     show some ((putL neg left 0 P (List.replicate ws.length 0)).getD p.idx.toNat 0)=_
     rw [List.getD_eq_getElem?_getD,hput j p hj,Nat.zero_add]
     rfl
   have e3:=Zfg (hperm.map fun p=>(putL neg left 0 P (List.replicate ws.length 0)).getD p.idx.toNat 0)
   rw [e2,<-e1,Zfj neg left P 0 l0 (by rw [hlenP];omega),hsA] at e3
   rw [<-e3,<-hleft]
   split<;>simp<;>omega
 · refine ⟨fun i=>P.zipIdx.any fun q=>decide (q.1.idx=(i:Int))&&decide ((q.2:Int)<left),?_,?_⟩
   · intro i w hi
     obtain ⟨j,hj⟩:=hpos i w hi
     have h1:=hput j _ hj
     have h1:(putL neg left 0 P (List.replicate ws.length 0))[i]? =some (valP neg left j ⟨(i:Int),A*w/ws.sum,A*w%ws.sum⟩):=h1
     rw [h1]
     have hinc:(P.zipIdx.any fun q=>decide (q.1.idx=(i:Int))&&decide ((q.2:Int)<left))=decide ((j:Int)<left):=by
      rw [Bool.eq_iff_iff,List.any_eq_true]
      constructor
      · rintro ⟨⟨q,k⟩,hq,h2⟩
        rw [List.mem_zipIdx_iff_getElem?] at hq
        simp only [Bool.and_eq_true,decide_eq_true_eq] at h2⊢
        have hkj:k=j:=by
         rcases Nat.lt_trichotomy k j with h|h|h
         · exfalso
           have:=(List.pairwise_iff_getElem.1 hdist) k j (gA9.1 hq).1 (gA9.1 hj).1 h
           rw [(gA9.1 hq).2,(gA9.1 hj).2,h2.1] at this
           exact this rfl
         · exact h
         · exfalso
           have:=(List.pairwise_iff_getElem.1 hdist) j k (gA9.1 hj).1 (gA9.1 hq).1 h
           rw [(gA9.1 hq).2,(gA9.1 hj).2,h2.1] at this
           exact this rfl
        rw [<-hkj]
        exact h2.2
      · intro h
        refine ⟨(_,j),List.mem_zipIdx_iff_getElem?.2 hj,?_⟩
        simp only [Bool.and_eq_true,decide_eq_true_eq] at h⊢
        exact ⟨trivial,h⟩
     show _=some (if neg=true then-(A*w/ws.sum+(if (P.zipIdx.any fun q=>decide (q.1.idx=(i:Int))&&decide ((q.2:Int)<left))=true then 1 else 0)) else A*w/ws.sum+(if (P.zipIdx.any fun q=>decide (q.1.idx=(i:Int))&&decide ((q.2:Int)<left))=true then 1 else 0))
     rw [hinc]
     unfold valP
     congr 1
     by_cases hl:(j:Int)<left
     · simp [hl]
     · simp [hl]
   · intro i j v w hi hj h1 h2
     have h1:(P.zipIdx.any fun q=>decide (q.1.idx=(i:Int))&&decide ((q.2:Int)<left))=true:=h1
     have h2:(P.zipIdx.any fun q=>decide (q.1.idx=(j:Int))&&decide ((q.2:Int)<left))=false:=h2
     obtain ⟨a,ha⟩:=hpos i v hi
     obtain ⟨b,hb⟩:=hpos j w hj
     simp only [List.any_eq_true,List.any_eq_false] at h1 h2
     obtain ⟨⟨q,k⟩,hq,h1⟩:=h1
     rw [List.mem_zipIdx_iff_getElem?] at hq
     simp only [Bool.and_eq_true,decide_eq_true_eq] at h1
     have hb2:=h2 (_,b) (List.mem_zipIdx_iff_getElem?.2 hb)
     have hb3:left<=(b:Int):=by
      by_cases h:(b:Int)<left
      · exfalso
        refine hb2 ?_
        show (decide ((j:Int)=(j:Int))&&decide ((b:Int)<left))=true
        rw [decide_eq_true h,decide_eq_true rfl]
        rfl
      · omega
     obtain ⟨i',v',hi',rfl⟩:=hidx q (List.mem_iff_getElem?.2 ⟨k,hq⟩)
     have hii:i'=i:=by have:(i':Int)=i:=h1.1;omega
     subst hii
     rw [hi] at hi'
     cases hi'
     have:=(List.pairwise_iff_getElem.1 hsrt) k b (gA9.1 hq).1 (gA9.1 hb).1 (by omega)
     rw [(gA9.1 hq).2,(gA9.1 hb).2] at this
     rcases this with h|⟨h,h3⟩
     · exact .inl h
     · refine .inr ⟨h,?_⟩
       have h3:(i':Int)<j:=h3
       omega
end
section
open Go
def dA1 {α:Type} (d:Dc E α):DcL E (α×Unit):= .cons d .nil
def dA2 {α β:Type} (d:Dc E α) (e:Dc E β):DcL E (α×β×Unit):= .cons d (dA1 e)
def dA3 {α β γ:Type} (d:Dc E α) (e:Dc E β) (f:Dc E γ):DcL E (α×β×γ×Unit):= .cons d (dA2 e f)
def dN:Dc E Int:=dInt .i64
def dS:Dc E (List Nat):=dStr
def dFun (f:Nat):Dc E Unit where
 dec v:=match v with| .fn (.func g) [] []=>(match Nat.beq g f with|true=>some ()|false=>none)|_=>none
 enc _:= .fn (.func f) [] []
 ok v a h:=by
  split at h
  · split at h
    · rename_i e
      obtain rfl:=gC9 e
      exact ⟨rfl,rfl,fun _ _ _ h=>h⟩
    · cases h
  · cases h
def eqL:List Nat->List Nat->Bool
 | [],[]=>true
 |x::r,y::l=>Nat.beq x y&&eqL r l
 |_,_=>false
theorem Ztf:∀{a b:List Nat},eqL a b=true->a=b
 | [],[],_=>rfl
 |x::r,y::l,h=>by
  simp only [eqL,Bool.and_eq_true] at h
  rw [gC9 h.1,Ztf h.2]
 | [],_::_,h=>by cases h
 |_::_,[],h=>by cases h
def dKs (c:List Nat):Dc E Unit where
 dec v:=match v with| .str true s=>(match eqL s c with|true=>some ()|false=>none)|_=>none
 enc _:= .str true c
 ok v a h:=by
  split at h
  · split at h
    · rename_i e
      rw [Ztf e]
      exact ⟨rfl,rfl,fun _ _ _ h=>h⟩
    · cases h
  · cases h
theorem Zu1 {σ:Pl} {g:GH} {l:Bool} {s:List Nat} {u:Value} (h:Den E σ g (.str l s) u):Byt s:=by
 cases h
 rename_i b hb
 subst hb
 exact Zhm b
theorem Zrk {f:FuncId} {args:List (SV thy)} {v:SV thy} {j:Nat} {l:Bool} {s:List Nat} (hj:args[j]? =some (.str l s)) (h:Byt s->PureC E f args v):PureC E f args v:=by
 intro g w vals hI hd
 have hlt:j<vals.toList.length:=by rw [<-hd.1];exact (gA9.1 hj).1
 exact h (Zu1 (hd.2 j _ _ hj (gB9 hlt))) g w vals hI hd
theorem Zw9 {s:List Nat} (h:Byt s):∀c∈s,c<256:=by
 intro c hc
 rw [<-show toL (mkS s)=s from h] at hc
 obtain ⟨b,_,rfl⟩:=List.mem_map.1 hc
 exact b.toNat_lt
theorem Zu2 {g:GH} {a:SV thy} {vals:Array Value} (h:DenL E σ0 g [a] vals.toList):∃u,vals= #[u]/\Den E σ0 g a u:=by
 obtain ⟨l⟩:=vals
 obtain ⟨h1,h2⟩:=h
 match l,h1,h2 with
 | [u],_,h2=>exact ⟨u,rfl,h2 0 a u rfl rfl⟩
theorem Zyn {g:GH} {a b:SV thy} {vals:Array Value} (h:DenL E σ0 g [a,b] vals.toList):∃u v,vals= #[u,v]/\Den E σ0 g a u/\Den E σ0 g b v:=by
 obtain ⟨l⟩:=vals
 obtain ⟨h1,h2⟩:=h
 match l,h1,h2 with
 | [u,v],_,h2=>exact ⟨u,v,rfl,h2 0 a u rfl rfl,h2 1 b v rfl rfl⟩
theorem Zrl {g:GH} {l:List UInt8}:Den E σ0 g (.str false (l.map UInt8.toNat)) (.string ⟨l.toArray⟩):= .str _ (by simp [toL])
end
section
open Go.RowKit
section
variable {Y:Thy} {E:Eng Y}
def inpR (th:Y.Th) (b:Nat) (l':List (Y.dom th)):Res Y:=⟨.tup [],0,[b],at1 b (some (.rows th l' 0)),some [b]⟩
def InpC (E:Eng Y) (f:Nat) (th:Y.Th) (args:List (SV Y)) (l l':List (Y.dom th)):Prop:=
 ∀(b:Nat) (h:Hp Y) (i:Nat),h b=some (.rows th l 0)->Zcb E f (.sl b 0 l.length (E.w th) none::args) h i (inpR th b l')
def inpK (th:Y.Th) (l l':List (Y.dom th)) (r:Res Y):Prop:=
 match r.v,patch (hp1 th l 0) 1 r 0 with
 | .tup [],some (.rows th' L fz')=>V6 L fun L=>L=l'/\fz'=0
 |_,_=>False
theorem Xb (hE:EngOk E) {call:Nat->List (SV Y)->Hp Y->Nat->(Res Y->Prop)->Prop} (hcall:Un E call) {f:Nat} {th:Y.Th} {args:List (SV Y)} {l l':List (Y.dom th)} (ha:nidL 0 args=true)
 (hk:call f (.sl 0 0 l.length (E.w th) none::args) (hp1 th l 0) 1 (inpK th l l')):InpC E f th args l l':=by
 intro b h i hb
 have hdom:DomLt (hp1 th l 0) 1:=by
  intro b hb
  cases b with
  |zero=>omega
  |succ b=>exact absurd rfl hb
 obtain ⟨r,hr,hR,htri⟩:=hcall f _ _ _ _ hdom hk
 have hmods:∀b∈r.mods,b=0:=by
  intro b hb
  cases b with
  |zero=>rfl
  |succ b=>exact absurd rfl (hR _ hb)
 unfold inpK at hr
 split at hr
 case h_2=>exact hr.elim
 rename_i th' L fz' hv hp0
 obtain ⟨e,hr⟩:=Yp hr
 subst e
 obtain ⟨rfl,rfl⟩:L=l'/\fz'=0:=hr
 replace htri:=htri.resolve_right (by rintro ⟨p,hp,_⟩;rw [hv] at hp;cases hp)
 intro B σ g W vals hh hrd hI hB hfree hd
 have hhb:hh b=some (.rows th' l 0):=(hrd b (show b∈ [b] by simp)).trans hb
 obtain ⟨q,z,hσ,hbo⟩:=hI.blk b _ hhb
 have hI1:Inv E B (fun x=>match x with|0=>some (q,z)|_=>none) (hp1 th' l 0) g W:=by
  refine ⟨hI.gc,hI.gm,fun x y hx=> ?_,fun x x' r z z' h1 h2 _ _=> ?_,fun x r' z' hs=> ?_,fun x y r' z' o v hx hs hv=> ?_,fun x y r' z' hx hs=> ?_,hI.glob⟩
  · cases x with
    |succ x=>cases hx
    |zero=>
     cases hx
     refine ⟨q,z,rfl,?_⟩
     obtain ⟨arr,e,k1,k2,k3,k4,k5⟩:=hbo
     refine ⟨arr,e,k1,k2,k3,fun j sv hj=> ?_,k5⟩
     obtain ⟨v,m1,m2⟩:=k4 j sv hj
     have hn:nid 0 sv=true:=by
      obtain ⟨q,p,x,rfl,hp,hq,hs⟩:=Yj hE th' _ hj
      exact Zv (hE.encI _ _ _) hs
     exact ⟨v,m1,Yl hE m2 (fun b p hb=>by omega) hn⟩
  · cases x with
    |succ x=>exact absurd rfl h1
    |zero=>cases x' with
     |zero=>rfl
     |succ x'=>exact absurd rfl h2
  · cases x with
    |zero=>cases hs;exact hI.base b _ _ hσ
    |succ x=>cases hs
  · cases x with
    |zero=>cases hs;cases hx;exact hI.fz b _ _ _ o v hhb hσ hv
    |succ x=>cases hx
  · cases x with
    |zero=>cases hs;cases hx;exact hI.fm b _ _ _ hhb hσ
    |succ x=>cases hx
 have hd1:DenL E (fun x=>match x with|0=>some (q,z)|_=>none) g (.sl 0 0 l.length (E.w th') none::args) vals.toList:=by
  refine ⟨by rw [<-hd.1];rfl,fun j sv u h1 h2=> ?_⟩
  cases j with
  |zero=>
   simp at h1;subst h1
   have:=hd.2 0 _ u rfl h2
   obtain ⟨r',z',c',rfl,k1,k2,k3,k4,k5⟩:=Wj this
   rw [hσ] at k1;cases k1
   exact .sl (E:=E) (b:=0) rfl k2 k3 k4 k5
  |succ j=>
   have h1:args[j]? =some sv:=by simpa using h1
   exact Yl hE (hd.2 (j+1) sv u (by simpa using h1) h2) (fun b p hb=>by omega) (Zv ha h1)
 refine (htri B _ g W vals _ (fun _ _=>rfl) hI1 hB (fun x h1 h2=>by cases x with|zero=>omega|succ x=>rfl) hd1).mono ?_
 rintro en w' ⟨u,he,σ1,g',hS,hI',hv'⟩
 rw [hv] at hv'
 have k1:σ1 0=some (q,z):=hS.sig 0 _ rfl
 have hheap:∀p,p<W.heap.size->p≠q->w'.heap[p]? =W.heap[p]? :=by
  intro p hp hne
  refine hS.heap p hp fun b' hb' z' hz'=> ?_
  obtain rfl:=hmods b' hb'
  cases hz'
  exact hne rfl
 have hpatch:∀x,patch hh i (inpR (Y:=Y) th' b L) x=match Nat.beq x b with|true=>some (.rows th' L 0)|false=>hh x:=by
  intro x
  show (match memB x [b]||(Nat.ble i x&&Nat.blt x (i+0)) with|true=>at1 b (some (.rows th' L 0)) x|false=>hh x)=_
  have e2:(Nat.ble i x&&Nat.blt x (i+0))=false:=by
   cases h1:Nat.ble i x with
   |false=>rfl
   |true=>
    rw [Nat.ble_eq] at h1
    cases h2:Nat.blt x (i+0) with
    |false=>rfl
    |true=>rw [Nat.blt_eq] at h2;omega
  rw [e2,Bool.or_false]
  unfold memB memB
  cases e3:Nat.beq x b with
  |true=>unfold at1;rw [e3]
  |false=>rfl
 have src:∀x y,patch hh i (inpR (Y:=Y) th' b L) x=some y->(x=b/\y= .rows th' L 0)\/(x≠b/\hh x=some y):=by
  intro x y hy
  rw [hpatch] at hy
  split at hy
  · rename_i e
    cases hy
    exact .inl ⟨gC9 e,rfl⟩
  · rename_i e
    exact .inr ⟨nb e,hy⟩
 have far:∀x y p z',x≠b->hh x=some y->σ x=some (p,z')->p<W.heap.size/\p≠q:=by
  intro x y p z' hx hy hs
  refine ⟨(hI.base x p z' hs).2,?_⟩
  rintro rfl
  exact hx (hI.inj x b _ _ _ (by rw [hy];simp) (by rw [hhb];simp) hs hσ)
 refine ⟨_,he,σ,g',⟨.refl _,fun _ _ h=> .inl h,hS.gle,fun p o v hv=> ?_,hS.gmnew,fun p hp hne=> ?_,hS.size,hS.os,hS.tape,hS.output,fun _ _ _ h k=>by rw [h] at k;cases k⟩,?_,?_⟩
 · rcases hS.gcnew p o v hv with h1|h1|⟨b',h1,z',h2⟩
   · exact .inl h1
   · exact .inr (.inl h1)
   · obtain rfl:=hmods b' h1
     cases h2
     exact .inr (.inr ⟨b,by show b∈ [b];simp,_,hσ⟩)
 · exact hheap p hp fun e=>hne b (by show b∈ [b];simp) z (by rw [hσ,e])
 · refine ⟨hI'.gc,hI'.gm,fun x y hx=> ?_,fun x x' p z1' z2' h1 h2 h3 h4=> ?_,fun x p z' hs=>⟨(hI.base x p z' hs).1,Nat.lt_of_lt_of_le (hI.base x p z' hs).2 hS.size⟩,fun x y p z' o v hx hs hv=> ?_,fun x y p z' hx hs=> ?_,hI'.glob⟩
   · rcases src x y hx with ⟨rfl,rfl⟩|⟨e1,e3⟩
     · refine ⟨q,z,hσ,?_⟩
       obtain ⟨r2,z2,m1,m2⟩:=hI'.blk 0 _ hp0
       rw [k1] at m1;cases m1
       obtain ⟨arr,e,m1,m3,m4,m5,m6⟩:=m2
       refine ⟨arr,e,m1,m3,m4,fun j sv hj=> ?_,m6⟩
       obtain ⟨v,n1,n2⟩:=m5 j sv hj
       have hn:nid 0 sv=true:=by
        obtain ⟨q,p,x,rfl,hp,hq,hs⟩:=Yj hE th' _ hj
        exact Zv (hE.encI _ _ _) hs
       exact ⟨v,n1,Yl hE n2 (fun b p hb=>by omega) hn⟩
     · obtain ⟨p,z',m1,m2⟩:=hI.blk x y e3
       obtain ⟨m3,m4⟩:=far x y p z' e1 e3 m1
       exact ⟨p,z',m1,m2.mono (fun x p hx=>hx) hS.gle (hheap p m3 m4)⟩
   · obtain ⟨y,hy⟩:=Option.ne_none_iff_exists'.1 h1
     obtain ⟨y',hy'⟩:=Option.ne_none_iff_exists'.1 h2
     have hn:∀x y,patch hh i (inpR (Y:=Y) th' b L) x=some y->hh x≠none:=by
      intro x y hx
      rcases src x y hx with ⟨rfl,rfl⟩|⟨e1,e3⟩
      · rw [hhb];simp
      · rw [e3];simp
     exact hI.inj x x' p _ _ (hn _ _ hy) (hn _ _ hy') h3 h4
   · rcases src x y hx with ⟨rfl,rfl⟩|⟨e1,e3⟩
     · rw [hσ] at hs;cases hs
       exact hI'.fz 0 _ _ _ o v hp0 k1 hv
     · obtain ⟨m3,m4⟩:=far x y p z' e1 e3 hs
       rcases hS.gcnew p o v hv with h1|h1|⟨b',h1,z2,h2⟩
       · exact hI.fz x y p z' o v e3 hs h1
       · omega
       · obtain rfl:=hmods b' h1
         cases h2
         exact absurd rfl m4
   · rcases src x y hx with ⟨rfl,rfl⟩|⟨e1,e3⟩
     · rw [hσ] at hs;cases hs
       exact hI'.fm 0 _ _ _ hp0 k1
     · obtain ⟨m3,m4⟩:=far x y p z' e1 e3 hs
       cases hg':g'.obj p with
       |none=>rfl
       |some es=>
        rcases hS.gmnew p es hg' with k|k
        · rw [hI.fm x y p z' e3 hs] at k;cases k
        · omega
 · exact Yl hE hv' (fun b p hb=>by omega) (i:=0) rfl
theorem Zus {σ:Pl} {g:GH} {b off len w:Nat} {cap:Option Nat} {v:Value} (h:Den E σ g (.sl b off len w cap) v):Den E σ g (.sl b off len w none) v:=by
 cases h with
 |sl h hz hl hm hc=>exact .sl h hz hl hm fun _ h=>by cases h
def Zh4 (E:Eng Y) (th:Y.Th) {α:Type} (d:DcL E α) (pre:List (Y.dom th)->α->Prop) (f:List (Y.dom th)->α->List (Y.dom th)):Sum Y:=fun args h i k=>
 match args with
 | .sl b 0 len w _::rest=>
  (match h b,d.dec rest,Nat.beq w (E.w th) with
  |some (.rows th' l 0),some x,true=>V6 l fun l=>(len=l.length/\pre l x)/\∀l',l'=f l x->k (inpR th b l')
  |_,_,_=>False)
 |_=>False
theorem InpC.of_dec {α:Type} {d:DcL E α} {f:Nat} {th:Y.Th} {args:List (SV Y)} {x:α} {l l':List (Y.dom th)} (hd:d.dec args=some x) (h:InpC E f th (d.enc x) l l'):∀(cap:Option Nat) (b:Nat) (hp:Hp Y) (i:Nat),hp b=some (.rows th l 0)->Zcb E f (.sl b 0 l.length (E.w th) cap::args) hp i (inpR th b l'):=by
 obtain ⟨k1,k2,k3⟩:=d.ok _ _ hd
 intro cap b hp i h1 B σ g w vals hh hrd hI hB hfree hden
 refine h b hp i h1 B σ g w vals hh hrd hI hB hfree ⟨?_,fun j sv' u h5 h6=> ?_⟩
 · rw [<-hden.1,List.length_cons,List.length_cons,k2]
 · cases j with
   |zero=>
    cases h5
    exact Zus (hden.2 0 _ u rfl h6)
   |succ j=>
    obtain ⟨sv,h7,h8⟩:=k3 σ g j sv' (by simpa using h5)
    exact h8 u (hden.2 (j+1) sv u (by simpa using h7) h6)
theorem Va (hE:EngOk E) {th:Y.Th} {α:Type} {f:Nat} (hg:FnGood E.P f) {d:DcL E α} {pre:List (Y.dom th)->α->Prop} {F:List (Y.dom th)->α->List (Y.dom th)} (hp:∀x l,pre l x->InpC E f th (d.enc x) l (F l x)):SumOk E f (Zh4 E th d pre F):=by
 refine ⟨hg,fun args h i k hD hk=> ?_⟩
 unfold Zh4 at hk
 split at hk
 · rename_i b len w cap rest
   split at hk
   · rename_i th' l x hb hx hw
     have hw:=gC9 hw
     obtain ⟨e,hk2⟩:=Yp hk
     clear hk
     subst e
     subst hw
     obtain ⟨⟨rfl,h3⟩,hk3⟩:=hk2
     refine ⟨_,hk3 _ rfl,fun b' hb'=> ?_,.inl (InpC.of_dec hx (hp x l h3) cap b h i hb)⟩
     have hb':b'∈ [b]:=hb'
     rw [List.mem_singleton] at hb'
     rw [hb',hb];simp
   · exact hk.elim
 · exact hk.elim
end
end
section
open Go Go.RowKit
def cmpI (a b:Int):Int:=if a<b then-1 else if b<a then 1 else 0
theorem Zru (a b:Int) (v:Int):Zu E F9 (vc E F9 400) 31 [.int false .u64 a,.int false .u64 b] hp0 0 (fun r=>ret E (patch hp0 0 r) r.v (.int false .i64 v))=(
((a !=a)=true->((b !=b)=true->(0:Int)=v)/\((b !=b)=false->(-1:Int)=v))/\((a !=a)=false->((b !=b)=true->(1:Int)=v)/\((b !=b)=false->(decide (a<b)=true->(-1:Int)=v)/\(decide (a<b)=false->(decide (a>b)=true->(1:Int)=v)/\(decide (a>b)=false->(0:Int)=v))))):=by kernel_rfl
theorem Zrv (a b:Int):PureC E 31 [.int false .u64 a,.int false .u64 b] (.int false .i64 (cmpI a b)):=by
 refine Zb E_ok (Zc E_ok Uh 400) ?_
 rw [Zru]
 unfold cmpI
 refine ⟨fun h=>(by simp at h),fun _=>⟨fun h=>(by simp at h),fun _=>⟨fun h=> ?_,fun h=>⟨fun h2=> ?_,fun h2=> ?_⟩⟩⟩⟩
 · rw [if_pos (of_decide_eq_true h)]
 · rw [if_neg (of_decide_eq_false h),if_pos (of_decide_eq_true h2)]
 · rw [if_neg (of_decide_eq_false h),if_neg (of_decide_eq_false h2)]
theorem Wu (a b:Int):cmpI a b<0↔a<b:=by
 unfold cmpI
 split
 · omega
 · split<;>omega
def Scm:Sum thy:=Xe (dL2 dU dU) (fun _=>True) (fun x=>cmpI x.1 x.2.1) fun y=> .int false .i64 y
theorem Zxf:SumOk E 31 Scm:=Zq E_ok (Zg (f:=31) rfl) fun x _=>Zrv x.1 x.2.1
def F9c:Fns thy:=addS F9 31 Scm
theorem Zdm:FnsOk E F9c:=Zh Uh Zxf
structure SoX where
 L:List Prt
 i:Int
 j:Int
 r:Nat
def cmpP:SV thy:= .fn (.func 30) [] []
def blkL (v:SV thy) (L:List Prt):List (Nat×Blk thy):= [(bOf v,.rows Th.parts L 0)]
def Ais1:Fr thy->Hp thy->Nat->Ann thy:=fun T h i=>{X:=SoX,fr:=fun x=> [(0,T 0),(1,T 1),(2,T 2),(3,T 3),(8,.int false .i64 x.i)],bl:=fun x=>blkL (T 0) x.L,src:=fun _=> [],md:= [bOf (T 0)],ih:=i,M:=i+30,meas:=fun x=>x.r}
def Ais2:Fr thy->Hp thy->Nat->Ann thy:=fun T h i=>{X:=SoX,fr:=fun x=> [(0,T 0),(1,T 1),(2,T 2),(3,T 3),(8,T 8),(9,.int false .i64 x.j)],bl:=fun x=>blkL (T 0) x.L,src:=fun _=> [],md:= [bOf (T 0)],ih:=i,M:=i+30,meas:=fun x=>x.r}
def Fis:Fns thy:=addL (addL F9c 67 1 Ais1 E) 67 4 Ais2 E
theorem Zxg:FnsOk E Fis:=Zp E_ok (Zp E_ok Zdm _ _ _) _ _ _
theorem Zrw (l l2:List Prt) (a b:Int):Zu E Fis (vc E Fis 400) 67 [.sl 0 0 (List.length l) (E.w Th.parts) none,.int false .i64 a,.int false .i64 b,cmpP] (hp1 Th.parts l 0) 1 (inpK Th.parts l l2)=(
 ∃(R:SoX->Prop),(∃(x:SoX),R x/\true=true/\(((0:Nat)=(0:Nat)/\List.length l=List.length l/\True)/\a=a/\b=b/\(Fn.func (30:
 FuncId)=Fn.func (30:FuncId)/\True/\True)/\wr IntKind.i64 (a+(1:Int))=SoX.i x/\True)/\(l=SoX.L x/\(0:Nat)=(0:Nat))/\True)/\∀(x:
 SoX),R x->(decide (SoX.i x<b)=true->∃(R_1:SoX->Prop),(∃(x_1:SoX),R_1 x_1/\true=true/\(((0:Nat)=(0:Nat)/\List.length l=List.length l/\True)/\a=a/\b
 =b/\(Fn.func (30:FuncId)=Fn.func (30:FuncId)/\True/\True)/\SoX.i x=SoX.i x/\SoX.i x=SoX.j x_1/\True)/\(SoX.L x
 =SoX.L x_1/\(0:Nat)=(0:Nat))/\True)/\∀(x_1:SoX),R_1 x_1->(decide (SoX.j x_1>a)=true->((0:Int)<=SoX.j x_1/\SoX.j x_1+(1:Int)<=(↑(List.length l):Int))
 /\(0:Nat)+Int.toNat (SoX.j x_1)+(1:Nat)<=List.length (SoX.L x_1)/\∀(x_2:Prt),(SoX.L x_1)[(0:Nat)+Int.toNat (SoX.j x_1)]? =some x_2->((0:Int)<=wr IntKind.i64
 (SoX.j x_1-(1:Int))/\wr IntKind.i64 (SoX.j x_1-(1:Int))+(1:Int)<=(↑(List.length l):Int))/\(0:Nat)+Int.toNat (wr IntKind.i64 (SoX.j x_1-(1:Int)))+(1:
 Nat)<=List.length (SoX.L x_1)/\∀(x_3:Prt),(SoX.L x_1)[(0:Nat)+Int.toNat (wr IntKind.i64 (SoX.j x_1-(1:Int)))]? =some x_3->True/\∀(y:Int),y=cmpI (Prt.rest
 x_3) (Prt.rest x_2)->(decide (y<(0:Int))=true->((0:Int)<=wr IntKind.i64 (SoX.j x_1-(1:Int))/\wr IntKind.i64 (SoX.j x_1-(1:Int))+(1:Int)<=(↑(List.length l)
 :Int))/\(0:Nat)+Int.toNat (wr IntKind.i64 (SoX.j x_1-(1:Int)))+(1:Nat)<=List.length (SoX.L x_1)/\∀(x_4:Prt),(SoX.L x_1)[(0:Nat)+Int.toNat (wr IntKind.i64
 (SoX.j x_1-(1:Int)))]? =some x_4->((0:Int)<=SoX.j x_1/\SoX.j x_1+(1:Int)<=(↑(List.length l):Int))/\(0:Nat)+Int.toNat (SoX.j x_1)+(1:Nat)<=List.length
 (SoX.L x_1)/\∀(x_5:Prt),(SoX.L x_1)[(0:Nat)+Int.toNat (SoX.j x_1)]? =some x_5->((0:Int)<=SoX.j x_1/\SoX.j x_1+(1:Int)<=(↑(List.length l):Int))/\(0:Nat)<=
 (0:Nat)+Int.toNat (SoX.j x_1)/\(0:Nat)+Int.toNat (SoX.j x_1)+(1:Nat)<=List.length (SoX.L x_1)/\∀(x_6:Prt),(SoX.L x_1)[(0:Nat)+Int.toNat (SoX.j x_1)]? =some
 x_6->((0:Int)<=wr IntKind.i64 (SoX.j x_1-(1:Int))/\wr IntKind.i64 (SoX.j x_1-(1:Int))+(1:Int)<=(↑(List.length l):Int))/\(0:Nat)<=(0:Nat)+Int.toNat (wr
 IntKind.i64 (SoX.j x_1-(1:Int)))/\(0:Nat)+Int.toNat (wr IntKind.i64 (SoX.j x_1-(1:Int)))+(1:Nat)<=List.length (List.set (SoX.L x_1) ((0:Nat)+Int.toNat (SoX.j
 x_1)) x_4)/\∀(x_7:Prt),(List.set (SoX.L x_1) ((0:Nat)+Int.toNat (SoX.j x_1)) x_4)[(0:Nat)+Int.toNat (wr IntKind.i64 (SoX.j x_1-(1:Int)))]? =some x_7->∃(x_8:
 SoX),R_1 x_8/\x_8.4+(1:Nat)<=x_1.4/\true=true/\(((0:Nat)=(0:Nat)/\List.length l=List.length l/\True)/\a=a/\b=b/\(Fn.func (30:FuncId)=Fn.func (30:FuncId)/\True/\True)/\SoX.i x=SoX.i x/\wr IntKind.i64 (SoX.j x_1-(1:Int))=SoX.j x_8/\True)/\(List.set (List.set (SoX.L x_1) ((0:Nat)+Int.toNat (SoX.j x_1)) x_4)
 ((0:Nat)+Int.toNat (wr IntKind.i64 (SoX.j x_1-(1:Int)))) x_5=SoX.L x_8/\(0:Nat)=(0:Nat))/\True)/\(decide (y<(0:Int))=false->∃(x_4:SoX),R x_4/\x_4.4+
 (1:Nat)<=x.4/\true=true/\(((0:Nat)=(0:Nat)/\List.length l=List.length l/\True)/\a=a/\b=b/\(Fn.func (30:FuncId)=Fn.func
 (30:FuncId)/\True/\True)/\wr IntKind.i64 (SoX.i x+(1:Int))=SoX.i x_4/\True)/\(SoX.L x_1=SoX.L x_4/\(0:Nat)=(0:Nat))/\True))/\
 (decide (SoX.j x_1>a)=false->∃(x_2:SoX),R x_2/\x_2.4+(1:Nat)<=x.4/\true=true/\(((0:Nat)=(0:Nat)/\List.length l=List.length l/\True)/\a=a/\b=b/\
 (Fn.func (30:FuncId)=Fn.func (30:FuncId)/\True/\True)/\wr IntKind.i64 (SoX.i x+(1:Int))=SoX.i x_2/\True)/\
 (SoX.L x_1=SoX.L x_2/\(0:Nat)=(0:Nat))/\True))/\(decide (SoX.i x<b)=false->SoX.L x=l2/\(0:Nat)=(0:Nat))
 ):=by kernel_rfl
def Asr:Fr thy->Hp thy->Nat->Ann thy:=fun T h i=>{X:=SoX,fr:=fun x=> [(0,T 0),(1,T 1),(2,T 2),(3,T 3),(4,T 4),(10,.int false .i64 x.i)],bl:=fun x=>blkL (T 0) x.L,src:=fun _=> [],md:= [bOf (T 0)],ih:=i,M:=i+30,meas:=fun x=>x.r}
def Fsr:Fns thy:=addL F9c 105 1 Asr E
theorem Zxh:FnsOk E Fsr:=Zp E_ok Zdm _ _ _
theorem Zxi (l l2:List Prt) (a b n:Int):Zu E Fsr (vc E Fsr 400) 105 [.sl 0 0 (List.length l) (E.w Th.parts) none,.int false .i64 a,.int false .i64 b,.int false .i64 n,cmpP] (hp1 Th.parts l 0) 1 (inpK Th.parts l l2)=(
 ∃(R:SoX->Prop),(∃(x:SoX),R x/\true=true/\(((0:Nat)=(0:Nat)/\List.length l=List.length l/\True)/\a=a/\b=b/\n=n/\(Fn.func
 (30:FuncId)=Fn.func (30:FuncId)/\True/\True)/\(0:Int)=SoX.i x/\True)/\(l=SoX.L x/\(0:Nat)=(0:Nat))/\
 True)/\∀(x:SoX),R x->(decide (SoX.i x<n)=true->((0:Int)<=wr IntKind.i64 (b+SoX.i x)/\wr IntKind.i64 (b+SoX.i x)+(1:Int)<=(↑(List.length l):Int))/\(0:
 Nat)+Int.toNat (wr IntKind.i64 (b+SoX.i x))+(1:Nat)<=List.length (SoX.L x)/\∀(x_1:Prt),(SoX.L x)[(0:Nat)+Int.toNat (wr IntKind.i64 (b+SoX.i x))]? =some x_1->
 ((0:Int)<=wr IntKind.i64 (a+SoX.i x)/\wr IntKind.i64 (a+SoX.i x)+(1:Int)<=(↑(List.length l):Int))/\(0:Nat)+Int.toNat (wr IntKind.i64 (a+SoX.i x))+(1:Nat)
 <=List.length (SoX.L x)/\∀(x_2:Prt),(SoX.L x)[(0:Nat)+Int.toNat (wr IntKind.i64 (a+SoX.i x))]? =some x_2->((0:Int)<=wr IntKind.i64 (a+SoX.i x)/\wr IntKind.i64 (a
 +SoX.i x)+(1:Int)<=(↑(List.length l):Int))/\(0:Nat)<=(0:Nat)+Int.toNat (wr IntKind.i64 (a+SoX.i x))/\(0:Nat)+Int.toNat (wr IntKind.i64 (a+SoX.i x))+(1:
 Nat)<=List.length (SoX.L x)/\∀(x_3:Prt),(SoX.L x)[(0:Nat)+Int.toNat (wr IntKind.i64 (a+SoX.i x))]? =some x_3->((0:Int)<=wr IntKind.i64 (b+SoX.i x)/\wr
 IntKind.i64 (b+SoX.i x)+(1:Int)<=(↑(List.length l):Int))/\(0:Nat)<=(0:Nat)+Int.toNat (wr IntKind.i64 (b+SoX.i x))/\(0:Nat)+Int.toNat (wr IntKind.i64 (b+
 SoX.i x))+(1:Nat)<=List.length (List.set (SoX.L x) ((0:Nat)+Int.toNat (wr IntKind.i64 (a+SoX.i x))) x_1)/\∀(x_4:Prt),(List.set (SoX.L x) ((0:Nat)+Int.toNat (wr
 IntKind.i64 (a+SoX.i x))) x_1)[(0:Nat)+Int.toNat (wr IntKind.i64 (b+SoX.i x))]? =some x_4->∃(x_5:SoX),R x_5/\x_5.4+(1:Nat)<=x.4/\true=true/\(((0:Nat)=(0
 :Nat)/\List.length l=List.length l/\True)/\a=a/\b=b/\n=n/\(Fn.func (30:FuncId)=Fn.func (30:FuncId)/\True/\
 True)/\wr IntKind.i64 (SoX.i x+(1:Int))=SoX.i x_5/\True)/\(List.set (List.set (SoX.L x) ((0:Nat)+Int.toNat (wr IntKind.i64 (a+SoX.i x))) x_1) ((0:Nat)+Int.toNat
 (wr IntKind.i64 (b+SoX.i x))) x_2=SoX.L x_5/\(0:Nat)=(0:Nat))/\True)/\(decide (SoX.i x<n)=false->SoX.L x=l2/\(0:Nat)=(0:Nat))
 ):=by kernel_rfl
abbrev klP:Prt->Int:=Prt.rest
abbrev ixP:Prt->Int:=Prt.idx
def dCmp:Dc E Unit:=dFun 30
def dI3:DcL E (Int×Int×Int×Unit×Unit):= .cons dN (.cons dN (.cons dN (.cons dCmp .nil)))
def dI2c:DcL E (Int×Int×Unit×Unit):= .cons dN (.cons dN (.cons dCmp .nil))
def Zxj (l:List Prt) (x:Int×Int×Int×Unit×Unit):Prop:=0<=x.1/\0<=x.2.2.1/\x.1+x.2.2.1<=x.2.1/\x.2.1+x.2.2.1<=l.length/\l.length<=1000000
def Ssr:Sum thy:=Zh4 E Th.parts dI3 Zxj fun l x=>swrF l x.1.toNat x.2.1.toNat x.2.2.1.toNat
def Aro:Fr thy->Hp thy->Nat->Ann thy:=fun T h i=>{X:=SoX,fr:=fun x=> [(0,T 0),(1,T 1),(2,T 2),(3,T 3),(4,T 4),(10,.int false .i64 x.i),(11,.int false .i64 x.j)],bl:=fun x=>blkL (T 0) x.L,src:=fun _=> [],md:= [bOf (T 0)],ih:=i,M:=i+30,meas:=fun x=>x.r}
def Fro:Fns thy:=addL (addS F9c 105 Ssr) 88 2 Aro E
theorem Zxk (l l2:List Prt) (a m b:Int):Zu E Fro (vc E Fro 400) 88 [.sl 0 0 (List.length l) (E.w Th.parts) none,.int false .i64 a,.int false .i64 m,.int false .i64 b,cmpP] (hp1 Th.parts l 0) 1 (inpK Th.parts l l2)=(
 ∃(R:SoX->Prop),(∃(x:SoX),R x/\true=true/\(((0:Nat)=(0:Nat)/\List.length l=List.length l/\True)/\a=a/\m=m/\b=b/\(Fn.func
 (30:FuncId)=Fn.func (30:FuncId)/\True/\True)/\wr IntKind.i64 (m-a)=SoX.i x/\wr IntKind.i64 (b-m)=SoX.j x/\
 True)/\(l=SoX.L x/\(0:Nat)=(0:Nat))/\True)/\∀(x:SoX),R x->((SoX.i x !=SoX.j x)=true->(decide (SoX.i x>SoX.j x)=true->(List.length l=List.length (SoX.L
 x)/\(0:Int)<=wr IntKind.i64 (m-SoX.i x)/\(0:Int)<=SoX.j x/\wr IntKind.i64 (m-SoX.i x)+SoX.j x<=m/\m+SoX.j x<=(↑(List.length (SoX.L x)):Int)/\List.length
 (SoX.L x)<=(1000000:Nat))/\∀(l':List Prt),l'=swrF (SoX.L x) (Int.toNat (wr IntKind.i64 (m-SoX.i x))) (Int.toNat m) (Int.toNat (SoX.j x))->∃(x_1:SoX),R x_1/\x_1.4
 +(1:Nat)<=x.4/\true=true/\(((0:Nat)=(0:Nat)/\List.length l=List.length l/\True)/\a=a/\m=m/\b=b/\(Fn.func (30:FuncId)=
 Fn.func (30:FuncId)/\True/\True)/\wr IntKind.i64 (SoX.i x-SoX.j x)=SoX.i x_1/\SoX.j x=SoX.j x_1/\True)/\(l'=SoX.L x_1/\(0:Nat)=(0:
 Nat))/\True)/\(decide (SoX.i x>SoX.j x)=false->(List.length l=List.length (SoX.L x)/\(0:Int)<=wr IntKind.i64 (m-SoX.i x)/\(0:Int)<=SoX.i x/\wr IntKind.i64 (m-
 SoX.i x)+SoX.i x<=wr IntKind.i64 (wr IntKind.i64 (m+SoX.j x)-SoX.i x)/\wr IntKind.i64 (wr IntKind.i64 (m+SoX.j x)-SoX.i x)+SoX.i x<=(↑(List.length (SoX.L x)):Int)
 /\List.length (SoX.L x)<=(1000000:Nat))/\∀(l':List Prt),l'=swrF (SoX.L x) (Int.toNat (wr IntKind.i64 (m-SoX.i x))) (Int.toNat (wr IntKind.i64 (wr IntKind.i64 (m+SoX.j
 x)-SoX.i x))) (Int.toNat (SoX.i x))->∃(x_1:SoX),R x_1/\x_1.4+(1:Nat)<=x.4/\true=true/\(((0:Nat)=(0:Nat)/\List.length l=List.length l/\True)/\a=a/\m=
 m/\b=b/\(Fn.func (30:FuncId)=Fn.func (30:FuncId)/\True/\True)/\SoX.i x=SoX.i x_1/\wr IntKind.i64 (SoX.j x-
 SoX.i x)=SoX.j x_1/\True)/\(l'=SoX.L x_1/\(0:Nat)=(0:Nat))/\True))/\((SoX.i x !=SoX.j x)=false->(List.length l=List.length (SoX.L x)/\(0:Int)<=wr
 IntKind.i64 (m-SoX.i x)/\(0:Int)<=SoX.i x/\wr IntKind.i64 (m-SoX.i x)+SoX.i x<=m/\m+SoX.i x<=(↑(List.length (SoX.L x)):Int)/\List.length (SoX.L x)<=(1000000:
 Nat))/\∀(l':List Prt),l'=swrF (SoX.L x) (Int.toNat (wr IntKind.i64 (m-SoX.i x))) (Int.toNat m) (Int.toNat (SoX.i x))->l'=l2/\(0:Nat)=(0:Nat))
 ):=by kernel_rfl
def Zva (l:List Prt) (x:Int×Int×Int×Unit×Unit):Prop:=0<=x.1/\x.1<x.2.1/\x.2.1<x.2.2.1/\x.2.2.1<=l.length/\l.length<=1000000
def Sro:Sum thy:=Zh4 E Th.parts dI3 Zva fun l x=>repl l x.1.toNat x.2.2.1.toNat (seg l x.2.1.toNat x.2.2.1.toNat++seg l x.1.toNat x.2.1.toNat)
def Zl5 (N:Int) (l:List Prt) (x:Int×Int×Int×Unit×Unit):Prop:=0<=x.1/\x.1<x.2.1/\x.2.1<x.2.2.1/\x.2.2.1<=l.length/\l.length<=1000000/\x.2.2.1-x.1<N/\Mrg klP ixP (seg l x.1.toNat x.2.1.toNat) (seg l x.2.1.toNat x.2.2.1.toNat)
def smF (l:List Prt) (x:Int×Int×Int×Unit×Unit):List Prt:=repl l x.1.toNat x.2.2.1.toNat (srtU klP ixP (seg l x.1.toNat x.2.2.1.toNat))
def Ssm (N:Int):Sum thy:=Zh4 E Th.parts dI3 (Zl5 N) smF
def Asm1:Fr thy->Hp thy->Nat->Ann thy:=fun T h i=>{X:=SoX,fr:=fun x=> [(0,T 0),(1,T 1),(2,T 2),(3,T 3),(4,T 4),(10,.int false .i64 x.i),(11,.int false .i64 x.j)],bl:=fun x=>blkL (T 0) x.L,src:=fun _=> [],md:= [bOf (T 0)],ih:=i,M:=i+30,meas:=fun x=>x.r}
def Asm2:Fr thy->Hp thy->Nat->Ann thy:=fun T h i=>{X:=SoX,fr:=fun x=> [(0,T 0),(1,T 1),(2,T 2),(3,T 3),(4,T 4),(10,T 10),(13,.int false .i64 x.i)],bl:=fun x=>blkL (T 0) x.L,src:=fun _=> [],md:= [bOf (T 0)],ih:=i,M:=i+30,meas:=fun x=>x.r}
def Asm3:Fr thy->Hp thy->Nat->Ann thy:=fun T h i=>{X:=SoX,fr:=fun x=> [(0,T 0),(1,T 1),(2,T 2),(3,T 3),(4,T 4),(14,.int false .i64 x.i),(15,.int false .i64 x.j)],bl:=fun x=>blkL (T 0) x.L,src:=fun _=> [],md:= [bOf (T 0)],ih:=i,M:=i+30,meas:=fun x=>x.r}
def Asm4:Fr thy->Hp thy->Nat->Ann thy:=fun T h i=>{X:=SoX,fr:=fun x=> [(0,T 0),(1,T 1),(2,T 2),(3,T 3),(4,T 4),(14,T 14),(17,.int false .i64 x.i)],bl:=fun x=>blkL (T 0) x.L,src:=fun _=> [],md:= [bOf (T 0)],ih:=i,M:=i+30,meas:=fun x=>x.r}
def Asm5:Fr thy->Hp thy->Nat->Ann thy:=fun T h i=>{X:=SoX,fr:=fun x=> [(0,T 0),(1,T 1),(2,T 2),(3,T 3),(4,T 4),(18,T 18),(19,T 19),(20,.int false .i64 x.i),(21,.int false .i64 x.j),(22,T 22)],bl:=fun x=>blkL (T 0) x.L,src:=fun _=> [],md:= [bOf (T 0)],ih:=i,M:=i+30,meas:=fun x=>x.r}
def Fsm (N:Int):Fns thy:=addL (addL (addL (addL (addL (addS (addS F9c 88 Sro) 68 (Ssm N)) 68 3 Asm1 E) 68 9 Asm2 E) 68 15 Asm3 E) 68 21 Asm4 E) 68 33 Asm5 E
def Zxl:FuncId:=30
def Wb (z:Int):Int:=wr .i64 (Int.fdiv (wr .u64 (wr .i64 z)) ((2:Int)^min (Int.toNat (1:Int)) (IntKind.bits IntKind.u64)))
def frS (l:List Prt) (a m b:Int) (k:Prop):Prop:=((0:Nat)=0/\l.length=l.length/\True)/\a=a/\m=m/\b=b/\(Fn.func Zxl=Fn.func Zxl/\True/\True)/\k
def inS (l:List Prt) (a m b:Int) (R:SoX->Prop) (k:SoX->Prop) (L':List Prt):Prop:=∃x:SoX,R x/\true=true/\frS l a m b (k x)/\(L'=x.L/\(0:Nat)=0)/\True
def nxS (l:List Prt) (a m b:Int) (R:SoX->Prop) (r:Nat) (k:SoX->Prop) (L':List Prt):Prop:=∃y:SoX,R y/\y.r+1<=r/\true=true/\frS l a m b (k y)/\(L'=y.L/\(0:Nat)=0)/\True
def gtS (l L:List Prt) (i:Int) (k:Prt->Prop):Prop:=(0<=i/\i+1<=(l.length:Int))/\0+i.toNat+1<=L.length/\∀x:Prt,L[0+i.toNat]? =some x->k x
def puS (l L:List Prt) (i:Int) (v:Prt) (k:List Prt->Prop):Prop:=(0<=i/\i+1<=(l.length:Int))/\(0:Nat)<=0+i.toNat/\0+i.toNat+1<=L.length/\∀x:Prt,L[0+i.toNat]? =some x->k (L.set (0+i.toNat) v)
def swL (l:List Prt) (a m b t s:Int) (c:Int->Bool) (nx:Int->Int) (L l2:List Prt):Prop:=∃R:SoX->Prop,inS l a m b R (fun z=>t=t/\s=z.i/\True) L/\∀y:SoX,R y->
 (c y.i=true->gtS l y.L (nx y.i) fun u=>gtS l y.L y.i fun v=>puS l y.L y.i u fun L1=>puS l L1 (nx y.i) v fun L2=>nxS l a m b R y.r (fun z=>t=t/\nx y.i=z.i/\True) L2)/\(c y.i=false->y.L=l2/\(0:Nat)=0)
def smA (l:List Prt) (a m b:Int) (l2:List Prt):Prop:=∃R:SoX->Prop,inS l a m b R (fun z=>m=z.i/\b=z.j/\True) l/\∀x:SoX,R x->
 (decide (x.i<x.j)=true->gtS l x.L (Wb (x.i+x.j)) fun x1=>gtS l x.L a fun x2=>True/\∀y:Int,y=cmpI x2.rest x1.rest->(decide (y<0)=true->nxS l a m b R x.r (fun z=>wr .i64 (Wb (x.i+x.j)+1)=z.i/\x.j=z.j/\True) x.L)/\(decide (y<0)=false->nxS l a m b R x.r (fun z=>x.i=z.i/\Wb (x.i+x.j)=z.j/\True) x.L))/\
 (decide (x.i<x.j)=false->swL l a m b x.i a (fun k=>decide (k<wr .i64 (x.i-1))) (fun k=>wr .i64 (k+1)) x.L l2)
def smB (l:List Prt) (a m b:Int) (l2:List Prt):Prop:=∃R:SoX->Prop,inS l a m b R (fun z=>a=z.i/\m=z.j/\True) l/\∀x:SoX,R x->
 (decide (x.i<x.j)=true->gtS l x.L m fun x1=>gtS l x.L (Wb (x.i+x.j)) fun x2=>True/\∀y:Int,y=cmpI x2.rest x1.rest->(decide (y<0)=true->nxS l a m b R x.r (fun z=>x.i=z.i/\Wb (x.i+x.j)=z.j/\True) x.L)/\(decide (y<0)=false->nxS l a m b R x.r (fun z=>wr .i64 (Wb (x.i+x.j)+1)=z.i/\x.j=z.j/\True) x.L))/\
 (decide (x.i<x.j)=false->swL l a m b x.i m (fun k=>decide (k>x.i)) (fun k=>wr .i64 (k-1)) x.L l2)
def smT3 (N:Int) (l:List Prt) (b mid e:Int) (L l2:List Prt):Prop:=∃Q:Bool->Prop,((decide (mid<e)=true->(decide (e<b)=true->Q true)/\(decide (e<b)=false->Q false))/\(decide (mid<e)=false->Q false))/\
 (Q true->(l.length=L.length/\Zl5 N L (mid,e,b,(),()))/\∀l':List Prt,l'=smF L (mid,e,b,(),())->l'=l2/\(0:Nat)=0)/\(Q false->L=l2/\(0:Nat)=0)
def smT2 (N:Int) (l:List Prt) (a b mid st e:Int) (L l2:List Prt):Prop:=∃Q:Bool->Prop,((decide (a<st)=true->(decide (st<mid)=true->Q true)/\(decide (st<mid)=false->Q false))/\(decide (a<st)=false->Q false))/\
 (Q true->(l.length=L.length/\Zl5 N L (a,st,mid,(),()))/\∀l':List Prt,l'=smF L (a,st,mid,(),())->smT3 N l b mid e l' l2)/\(Q false->smT3 N l b mid e L l2)
def smT1 (N:Int) (l:List Prt) (a m b mid st e:Int) (L l2:List Prt):Prop:=∃Q:Bool->Prop,((decide (st<m)=true->(decide (m<e)=true->Q true)/\(decide (m<e)=false->Q false))/\(decide (st<m)=false->Q false))/\
 (Q true->(l.length=L.length/\Zva L (st,m,e,(),()))/\∀l':List Prt,l'=repl L st.toNat e.toNat (seg L m.toNat e.toNat++seg L st.toNat m.toNat)->smT2 N l a b mid st e l' l2)/\(Q false->smT2 N l a b mid st e L l2)
def smC (N:Int) (l:List Prt) (a m b mid n p s0 r0:Int) (l2:List Prt):Prop:=∃R:SoX->Prop,inS l a m b R (fun z=>mid=mid/\n=n/\s0=z.i/\r0=z.j/\p=p/\True) l/\∀x:SoX,R x->
 (decide (x.i<x.j)=true->gtS l x.L (wr .i64 (p-Wb (x.i+x.j))) fun x1=>gtS l x.L (Wb (x.i+x.j)) fun x2=>True/\∀y:Int,y=cmpI x2.rest x1.rest->(decide (y<0)=true->nxS l a m b R x.r (fun z=>mid=mid/\n=n/\x.i=z.i/\Wb (x.i+x.j)=z.j/\p=p/\True) x.L)/\
  (decide (y<0)=false->nxS l a m b R x.r (fun z=>mid=mid/\n=n/\wr .i64 (Wb (x.i+x.j)+1)=z.i/\x.j=z.j/\p=p/\True) x.L))/\
 (decide (x.i<x.j)=false->smT1 N l a m b mid x.i (wr .i64 (n-x.i)) x.L l2)
def smW (N:Int) (l:List Prt) (a m b mid n p:Int) (l2:List Prt):Prop:=((wr .i64 (m-a)==1)=true->smA l a m b l2)/\((wr .i64 (m-a)==1)=false->((wr .i64 (b-m)==1)=true->smB l a m b l2)/\((wr .i64 (b-m)==1)=false->
 (decide (m>mid)=true->smC N l a m b mid n p (wr .i64 (n-b)) mid l2)/\(decide (m>mid)=false->smC N l a m b mid n p a m l2)))
theorem Zxm (N:Int) (l l2:List Prt) (a m b:Int):Zu E F0 (vc E (Fsm N) 400) 68 [.sl 0 0 (List.length l) (E.w Th.parts) none,.int false .i64 a,.int false .i64 m,.int false .i64 b,cmpP] (hp1 Th.parts l 0) 1 (inpK Th.parts l l2)=
 smW N l a m b (Wb (a+b)) (wr .i64 (Wb (a+b)+m)) (wr .i64 (wr .i64 (Wb (a+b)+m)-1)) l2:=by kernel_rfl
def Zxn (l:List Prt) (x:Int×Int×Unit×Unit):Prop:=0<=x.1/\x.1<=x.2.1/\x.2.1<=l.length/\l.length<=1000000/\(seg l x.1.toNat x.2.1.toNat).Pairwise fun p q=>p.idx<q.idx
def isF (l:List Prt) (x:Int×Int×Unit×Unit):List Prt:=repl l x.1.toNat x.2.1.toNat (srtU klP ixP (seg l x.1.toNat x.2.1.toNat))
def Sis:Sum thy:=Zh4 E Th.parts dI2c Zxn isF
def Ast1:Fr thy->Hp thy->Nat->Ann thy:=fun T h i=>{X:=SoX,fr:=fun x=> [(0,T 0),(1,T 1),(2,T 2),(6,T 6),(7,.int false .i64 x.i),(8,.int false .i64 x.j)],bl:=fun x=>blkL (T 0) x.L,src:=fun _=> [],md:= [bOf (T 0)],ih:=i,M:=i+30,meas:=fun x=>x.r}
def Ast2:Fr thy->Hp thy->Nat->Ann thy:=fun T h i=>{X:=SoX,fr:=fun x=> [(0,T 0),(1,T 1),(2,T 2),(6,.int false .i64 x.i)],bl:=fun x=>blkL (T 0) x.L,src:=fun _=> [],md:= [bOf (T 0)],ih:=i,M:=i+30,meas:=fun x=>x.r}
def Ast3:Fr thy->Hp thy->Nat->Ann thy:=fun T h i=>{X:=SoX,fr:=fun x=> [(0,T 0),(1,T 1),(2,T 2),(6,T 6),(7,.int false .i64 x.i),(8,.int false .i64 x.j)],bl:=fun x=>blkL (T 0) x.L,src:=fun _=> [],md:= [bOf (T 0)],ih:=i,M:=i+30,meas:=fun x=>x.r}
def Fst (N:Int):Fns thy:=addL (addL (addL (addS (addS F9c 67 Sis) 68 (Ssm N)) 46 2 Ast1 E) 46 7 Ast2 E) 46 9 Ast3 E
theorem Zxo (N:Int) (l l2:List Prt):Zu E (Fst N) (vc E (Fst N) 400) 46 [.sl 0 0 (List.length l) (E.w Th.parts) none,.int false .i64 (List.length l),cmpP] (hp1 Th.parts l 0) 1 (inpK Th.parts l l2)=(
 ∃(R:SoX->Prop),(∃(x:SoX),R x/\true=true/\(((0:Nat)=(0:Nat)/\List.length l=List.length l/\True)/\(↑(List.length l):Int)=(↑(List.length l):Int)/\
 (Fn.func (30:FuncId)=Fn.func (30:FuncId)/\True/\True)/\(20:Int)=(20:Int)/\(0:Int)=SoX.i x/\(20:Int)=
 SoX.j x/\True)/\(l=SoX.L x/\(0:Nat)=(0:Nat))/\True)/\∀(x:SoX),R x->(decide (SoX.j x<=(↑(List.length l):Int))=true->(List.length l=List.length (SoX.L x)/\
 (0:Int)<=SoX.i x/\SoX.i x<=SoX.j x/\SoX.j x<=(↑(List.length (SoX.L x)):Int)/\List.length (SoX.L x)<=(1000000:Nat)/\List.Pairwise (fun (p q:Prt)=>Prt.idx p<
 Prt.idx q) (seg (SoX.L x) (Int.toNat (SoX.i x)) (Int.toNat (SoX.j x))))/\∀(l':List Prt),l'=isF (SoX.L x) (SoX.i x,SoX.j x,(),())->∃(x_1:SoX),R x_1/\x_1.4+(1:
 Nat)<=x.4/\true=true/\(((0:Nat)=(0:Nat)/\List.length l=List.length l/\True)/\(↑(List.length l):Int)=(↑(List.length l):Int)/\(Fn.func
 (30:FuncId)=Fn.func (30:FuncId)/\True/\True)/\(20:Int)=(20:Int)/\SoX.j x=SoX.i x_1/\wr IntKind.i64 (SoX.j x+
 (20:Int))=SoX.j x_1/\True)/\(l'=SoX.L x_1/\(0:Nat)=(0:Nat))/\True)/\(decide (SoX.j x<=(↑(List.length l):Int))=false->(List.length l=List.length (SoX.L x)/\
 (0:Int)<=SoX.i x/\SoX.i x<=(↑(List.length l):Int)/\(↑(List.length l):Int)<=(↑(List.length (SoX.L x)):Int)/\List.length (SoX.L x)<=(1000000:Nat)/\List.Pairwise
 (fun (p q:Prt)=>Prt.idx p<Prt.idx q) (seg (SoX.L x) (Int.toNat (SoX.i x)) (Int.toNat (↑(List.length l):Int))))/\∀(l':List Prt),l'=isF (SoX.L x) (SoX.i x,
 (↑(List.length l):Int),(),())->∃(R:SoX->Prop),(∃(x:SoX),R x/\true=true/\(((0:Nat)=(0:Nat)/\List.length l=List.length l/\True)/\(↑(List.length l):Int)
 =(↑(List.length l):Int)/\(Fn.func (30:FuncId)=Fn.func (30:FuncId)/\True/\True)/\(20:Int)=SoX.i x/\True)/\(l'
 =SoX.L x/\(0:Nat)=(0:Nat))/\True)/\∀(x:SoX),R x->(decide (SoX.i x<(↑(List.length l):Int))=true->∃(R_1:SoX->Prop),(∃(x_1:SoX),R_1 x_1/\true=true/\
 (((0:Nat)=(0:Nat)/\List.length l=List.length l/\True)/\(↑(List.length l):Int)=(↑(List.length l):Int)/\(Fn.func (30:FuncId)=Fn.func
 (30:FuncId)/\True/\True)/\SoX.i x=SoX.i x/\(0:Int)=SoX.i x_1/\wr IntKind.i64 ((2:Int)*SoX.i x)=SoX.j x_1/\True)/\(SoX.L x=SoX.L x_1
 /\(0:Nat)=(0:Nat))/\True)/\∀(x_1:SoX),R_1 x_1->(decide (SoX.j x_1<=(↑(List.length l):Int))=true->(List.length l=List.length (SoX.L x_1)/\(0:Int)<=SoX.i x_1
 /\SoX.i x_1+(1:Int)<=wr IntKind.i64 (SoX.i x_1+SoX.i x)/\wr IntKind.i64 (SoX.i x_1+SoX.i x)+(1:Int)<=SoX.j x_1/\SoX.j x_1<=(↑(List.length (SoX.L x_1)):Int)/\
 List.length (SoX.L x_1)<=(1000000:Nat)/\SoX.j x_1-SoX.i x_1+(1:Int)<=N/\Mrg klP ixP (seg (SoX.L x_1) (Int.toNat (SoX.i x_1)) (Int.toNat (wr IntKind.i64 (SoX.i x_1+
 SoX.i x)))) (seg (SoX.L x_1) (Int.toNat (wr IntKind.i64 (SoX.i x_1+SoX.i x))) (Int.toNat (SoX.j x_1))))/\∀(l':List Prt),l'=smF (SoX.L x_1) (SoX.i x_1,wr IntKind.i64
 (SoX.i x_1+SoX.i x),SoX.j x_1,(),())->∃(x_2:SoX),R_1 x_2/\x_2.4+(1:Nat)<=x_1.4/\true=true/\(((0:Nat)=(0:Nat)/\List.length l=List.length l/\True)/\
 (↑(List.length l):Int)=(↑(List.length l):Int)/\(Fn.func (30:FuncId)=Fn.func (30:FuncId)/\True/\True)/\SoX.i x=
 SoX.i x/\SoX.j x_1=SoX.i x_2/\wr IntKind.i64 (SoX.j x_1+wr IntKind.i64 ((2:Int)*SoX.i x))=SoX.j x_2/\True)/\(l'=SoX.L x_2/\(0:Nat)=(0:Nat))/\True)/\(decide
 (SoX.j x_1<=(↑(List.length l):Int))=false->(decide (wr IntKind.i64 (SoX.i x_1+SoX.i x)<(↑(List.length l):Int))=true->(List.length l=List.length (SoX.L x_1)/\(0:
 Int)<=SoX.i x_1/\SoX.i x_1+(1:Int)<=wr IntKind.i64 (SoX.i x_1+SoX.i x)/\wr IntKind.i64 (SoX.i x_1+SoX.i x)+(1:Int)<=(↑(List.length l):Int)/\(↑(List.length l):
 Int)<=(↑(List.length (SoX.L x_1)):Int)/\List.length (SoX.L x_1)<=(1000000:Nat)/\(↑(List.length l):Int)-SoX.i x_1+(1:Int)<=N/\Mrg klP ixP (seg (SoX.L x_1)
 (Int.toNat (SoX.i x_1)) (Int.toNat (wr IntKind.i64 (SoX.i x_1+SoX.i x)))) (seg (SoX.L x_1) (Int.toNat (wr IntKind.i64 (SoX.i x_1+SoX.i x))) (Int.toNat (↑(List.length l):
 Int))))/\∀(l':List Prt),l'=smF (SoX.L x_1) (SoX.i x_1,wr IntKind.i64 (SoX.i x_1+SoX.i x),(↑(List.length l):Int),(),())->∃(x_2:SoX),R x_2/\x_2.4+(1:Nat)<=
 x.4/\true=true/\(((0:Nat)=(0:Nat)/\List.length l=List.length l/\True)/\(↑(List.length l):Int)=(↑(List.length l):Int)/\(Fn.func (30:
 FuncId)=Fn.func (30:FuncId)/\True/\True)/\wr IntKind.i64 (SoX.i x*(2:Int))=SoX.i x_2/\True)/\(l'=SoX.L x_2/\(0:Nat)=(0:Nat))/\
 True)/\(decide (wr IntKind.i64 (SoX.i x_1+SoX.i x)<(↑(List.length l):Int))=false->∃(x_2:SoX),R x_2/\x_2.4+(1:Nat)<=x.4/\true=true/\(((0:Nat)=(0:Nat)/\
 List.length l=List.length l/\True)/\(↑(List.length l):Int)=(↑(List.length l):Int)/\(Fn.func (30:FuncId)=Fn.func
 (30:FuncId)/\True/\True)/\wr IntKind.i64 (SoX.i x*(2:Int))=SoX.i x_2/\True)/\(SoX.L x_1=SoX.L x_2/\(0:Nat)=(0:Nat))/\True)))/\
 (decide (SoX.i x<(↑(List.length l):Int))=false->SoX.L x=l2/\(0:Nat)=(0:Nat)))
 ):=by kernel_rfl
end
section
open Go Go.RowKit
theorem wrk {z:Int} (h1: -9223372036854775808<=z) (h2:z<=9223372036854775807):wr .i64 z=z:=wr64 h1 h2
theorem Zvm {α:Type} (u:List α) (v:α) (w:List α):(u++v::w)[u.length]? =some v:=by simp
theorem Yt {α:Type} {L u w:List α} {v:α} {k:Nat} (h:L=u++v::w) (hk:k=u.length):L[k]? =some v:=by
 subst h;subst hk;exact Zvm u v w
theorem Zep {f:Nat} {th:Th} {args:List (SV thy)} {l l2 l3:List (domT th)} (h:l2=l3) (k:InpC (Y:=thy) E f th args l l3):InpC (Y:=thy) E f th args l l2:=h▸k
theorem Zx1 (l:List Prt) (x:Int×Int×Int×Unit×Unit) (h:Zxj l x):InpC E 105 Th.parts (dI3.enc x) l (swrF l x.1.toNat x.2.1.toNat x.2.2.1.toNat):=by
 obtain ⟨a,b,n,u1,u2⟩:=x
 obtain ⟨h1,h2,h3,h4,h5⟩:0<=a/\0<=n/\a+n<=b/\b+n<=l.length/\l.length<=1000000:=h
 obtain ⟨A,rfl⟩:=Int.eq_ofNat_of_zero_le h1
 obtain ⟨k,rfl⟩:=Int.eq_ofNat_of_zero_le h2
 obtain ⟨B,rfl⟩:=Int.eq_ofNat_of_zero_le (by omega:0<=b)
 obtain ⟨p,X,q1,e1,hp,hX⟩:=Zcw l (show A<=A+k by omega) (by omega)
 have hq1:q1.length=l.length-(A+k):=by rw [e1];simp;omega
 obtain ⟨r,Y,q,e2,hr,hY⟩:=Zcw q1 (show B-A-k<=B-A-k+k by omega) (by omega)
 have hXk:X.length=k:=by omega
 have hYk:Y.length=k:=by omega
 have hl:l=p++X++r++Y++q:=by rw [e1,e2];simp
 have hF:swrF l (A:Int).toNat (B:Int).toNat (k:Int).toNat=p++Y++r++X++q:=by
  rw [Int.toNat_natCast,Int.toNat_natCast,Int.toNat_natCast,hl]
  exact Zbf hp hXk (by omega) hYk
 refine Zep hF ?_
 refine Xb E_ok (Zc E_ok Zxh 400) rfl ?_
 refine Eq.mpr (Zxi l _ A B k) ?_
 refine ⟨fun x=>∃X1 X2 Y1 Y2,X=X1++X2/\Y=Y1++Y2/\X1.length=Y1.length/\x.i=X1.length/\x.L=p++(Y1++X2)++r++(X1++Y2)++q/\x.r=X2.length,
  ⟨⟨l,0,0,X.length⟩,⟨[],X,[],Y,rfl,rfl,rfl,rfl,hl,rfl⟩,rfl,⟨⟨rfl,rfl,trivial⟩,rfl,rfl,rfl,⟨rfl,trivial,trivial⟩,rfl,trivial⟩,⟨rfl,rfl⟩,trivial⟩,fun x hx=> ?_⟩
 obtain ⟨X1,X2,Y1,Y2,eX,eY,hxy,hi,hL,hr2⟩:=hx
 have lX:X1.length+X2.length=k:=by rw [<-hXk,eX,List.length_append]
 have lY:Y1.length+Y2.length=k:=by rw [<-hYk,eY,List.length_append]
 have hLl:x.L.length=l.length:=by rw [hL,hl,eX,eY];simp;omega
 refine ⟨fun h=> ?_,fun h=>⟨?_,rfl⟩⟩
 · have h:=of_decide_eq_true h
   cases X2 with
   |nil=>simp at lX;omega
   |cons u X2=>
    cases Y2 with
    |nil=>simp at lX lY;omega
    |cons v Y2=>
     rw [List.length_cons] at lX lY
     have wa:wr .i64 ((A:Int)+x.i)=((A+X1.length:Nat):Int):=by rw [wrk (by omega) (by omega)];omega
     have wb:wr .i64 ((B:Int)+x.i)=((B+X1.length:Nat):Int):=by rw [wrk (by omega) (by omega)];omega
     have wi:wr .i64 (x.i+1)=x.i+1:=wrk (by omega) (by omega)
     have gA:x.L[A+X1.length]? =some u:=Yt (u:=p++Y1) (w:=X2++r++(X1++v::Y2)++q) (by rw [hL];simp) (by simp;omega)
     have gB:x.L[B+X1.length]? =some v:=Yt (u:=p++(Y1++u::X2)++r++X1) (w:=Y2++q) (by rw [hL];simp) (by simp;omega)
     rw [wa,wb,wi,Int.toNat_natCast,Int.toNat_natCast,Nat.zero_add,Nat.zero_add]
     refine ⟨⟨by omega,by omega⟩,by omega,fun x1 k1=>⟨⟨by omega,by omega⟩,by omega,fun x2 k2=>⟨⟨by omega,by omega⟩,by omega,by omega,fun x3 k3=>⟨⟨by omega,by omega⟩,by omega,by rw [List.length_set];omega,fun x4 k4=>
      ⟨⟨_,x.i+1,0,X2.length⟩,⟨X1++ [u],X2,Y1++ [v],Y2,by rw [eX];simp,by rw [eY];simp,by simp;exact hxy,by simp;omega,?_,rfl⟩,by rw [hr2];simp,rfl,⟨⟨rfl,rfl,trivial⟩,rfl,rfl,rfl,⟨rfl,trivial,trivial⟩,rfl,trivial⟩,⟨rfl,rfl⟩,trivial⟩⟩⟩⟩⟩
     obtain rfl:v=x1:=Option.some.inj (gB.symm.trans k1)
     obtain rfl:u=x2:=Option.some.inj (gA.symm.trans k2)
     show (x.L.set (A+X1.length) v).set (B+X1.length) u=_
     rw [Zkt gA gB,hL,show A+X1.length=p.length+Y1.length by omega,show B+X1.length=p.length+Y1.length+1+X2.length+r.length+X1.length by omega,Zs1]
     simp
 · have h:=of_decide_eq_false h
   have h0:X2.length=0:=by omega
   have h02:Y2.length=0:=by omega
   rw [List.length_eq_zero_iff] at h0 h02
   rw [hL,eX,eY,h0,h02,List.append_nil,List.append_nil]
theorem Zx2:SumOk E 105 Ssr:=Va E_ok (Zg (f:=105) rfl) fun x l h=>Zx1 l x h
theorem Zx3:FnsOk E Fro:=Zp E_ok (Zh Zdm Zx2) _ _ _
theorem Zx4 (l:List Prt) (x:Int×Int×Int×Unit×Unit) (h:Zva l x):InpC E 88 Th.parts (dI3.enc x) l (repl l x.1.toNat x.2.2.1.toNat (seg l x.2.1.toNat x.2.2.1.toNat++seg l x.1.toNat x.2.1.toNat)):=by
 obtain ⟨a,m,b,u1,u2⟩:=x
 obtain ⟨h1,h2,h3,h4,h5⟩:0<=a/\a<m/\m<b/\b<=l.length/\l.length<=1000000:=h
 obtain ⟨A,rfl⟩:=Int.eq_ofNat_of_zero_le h1
 obtain ⟨M,rfl⟩:=Int.eq_ofNat_of_zero_le (by omega:0<=m)
 obtain ⟨B,rfl⟩:=Int.eq_ofNat_of_zero_le (by omega:0<=b)
 obtain ⟨p,X,q1,e1,hp,hX⟩:=Zcw l (show A<=M by omega) (by omega)
 have hq1:q1.length=l.length-M:=by rw [e1];simp;omega
 obtain ⟨r,Y,q,e2,hr,hY⟩:=Zcw q1 (show 0<=B-M by omega) (by omega)
 obtain rfl:r= []:=List.length_eq_zero_iff.1 hr
 rw [Nat.zero_add] at hY
 have hl:l=p++X++Y++q:=by rw [e1,e2];simp
 have hT:repl l (A:Int).toNat (B:Int).toNat (seg l (M:Int).toNat (B:Int).toNat++seg l (A:Int).toNat (M:Int).toNat)=p++Y++X++q:=by
  rw [Int.toNat_natCast,Int.toNat_natCast,Int.toNat_natCast]
  have s1:seg l M B=Y:=by rw [hl];exact Vv (p:=p++X) (by simp;omega) (by omega)
  have s2:seg l A M=X:=by rw [hl,List.append_assoc];exact Vv hp hX
  rw [s1,s2]
  have:l=p++(X++Y)++q:=by rw [hl];simp
  rw [this,Zi5 hp (by simp;omega)]
  simp
 refine Zep hT ?_
 refine Xb E_ok (Zc E_ok Zx3 400) rfl ?_
 refine Eq.mpr (Zxk l _ A M B) ?_
 refine ⟨fun x=>∃pre A' B' post,x.L=pre++A'++B'++post/\p++Y++X++q=pre++B'++A'++post/\x.i=A'.length/\x.j=B'.length/\pre.length+A'.length=M/\0<A'.length/\0<B'.length/\x.L.length=l.length/\x.r=A'.length+B'.length,
  ⟨⟨l,(X.length:Int),(Y.length:Int),X.length+Y.length⟩,⟨p,X,Y,q,hl,rfl,rfl,rfl,by omega,by omega,by omega,rfl,rfl⟩,rfl,⟨⟨rfl,rfl,trivial⟩,rfl,rfl,rfl,⟨rfl,trivial,trivial⟩,by rw [wrk (by omega) (by omega)];show _=(X.length:Int);omega,by rw [wrk (by omega) (by omega)];show _=(Y.length:Int);omega,trivial⟩,⟨rfl,rfl⟩,trivial⟩,fun x hx=> ?_⟩
 obtain ⟨pre,A',B',post,hL,hE,hi,hj,hM,hA,hB,hLl,hr⟩:=hx
 have hsum:pre.length+A'.length+B'.length+post.length=l.length:=by rw [<-hLl,hL];simp;omega
 have wm:wr .i64 ((M:Int)-x.i)=(pre.length:Int):=by rw [wrk (by omega) (by omega)];omega
 refine ⟨fun h=>⟨fun h2=> ?_,fun h2=> ?_⟩,fun h=> ?_⟩
 · have h2:=of_decide_eq_true h2
   rw [wm]
   refine ⟨⟨hLl.symm,by omega,by omega,by omega,by omega,by omega⟩,fun l' hl'=> ?_⟩
   obtain ⟨A1,A2,rfl,hA1⟩:∃A1 A2,A'=A1++A2/\A1.length=B'.length:=⟨A'.take B'.length,A'.drop B'.length,(List.take_append_drop _ _).symm,by rw [List.length_take];omega⟩
   rw [List.length_append] at*
   have e:l'=pre++B'++A2++A1++post:=by
    rw [hl',Int.toNat_natCast,Int.toNat_natCast,hj,Int.toNat_natCast,hL,show pre++(A1++A2)++B'++post=pre++A1++A2++B'++post by simp]
    exact Zbf rfl hA1 (by omega) rfl
   refine ⟨⟨l',x.i-x.j,x.j,A2.length+A1.length⟩,⟨pre++B',A2,A1,post,e,by rw [hE];simp,?_,?_,by simp;omega,by omega,by omega,?_,rfl⟩,?_,rfl,⟨⟨rfl,rfl,trivial⟩,rfl,rfl,rfl,⟨rfl,trivial,trivial⟩,wrk (by omega) (by omega),rfl,trivial⟩,⟨rfl,rfl⟩,trivial⟩
   · show x.i-x.j=_;omega
   · show x.j=_;omega
   · show l'.length=_;rw [e];simp;omega
   · show A2.length+A1.length+1<=x.r;omega
 · have h2:=of_decide_eq_false h2
   have hne:x.i≠x.j:=by simpa using h
   have w2:wr .i64 (wr .i64 ((M:Int)+x.j)-x.i)=((M+(B'.length-A'.length):Nat):Int):=by rw [wrk (z:=(M:Int)+x.j) (by omega) (by omega),wrk (by omega) (by omega)];omega
   rw [wm,w2]
   refine ⟨⟨hLl.symm,by omega,by omega,by omega,by omega,by omega⟩,fun l' hl'=> ?_⟩
   obtain ⟨B1,B2,rfl,hB1⟩:∃B1 B2,B'=B1++B2/\B1.length=B'.length-A'.length:=⟨B'.take (B'.length-A'.length),B'.drop (B'.length-A'.length),(List.take_append_drop _ _).symm,by rw [List.length_take];omega⟩
   rw [List.length_append] at*
   have hB2:B2.length=A'.length:=by omega
   have e:l'=pre++B2++B1++A'++post:=by
    rw [hl',Int.toNat_natCast,Int.toNat_natCast,hi,Int.toNat_natCast,hL,show pre++A'++(B1++B2)++post=pre++A'++B1++B2++post by simp]
    exact Zbf rfl rfl (by omega) hB2
   refine ⟨⟨l',x.i,x.j-x.i,B2.length+B1.length⟩,⟨pre,B2,B1,A'++post,by rw [e];simp,by rw [hE];simp,?_,?_,by omega,by omega,by omega,?_,rfl⟩,?_,rfl,⟨⟨rfl,rfl,trivial⟩,rfl,rfl,rfl,⟨rfl,trivial,trivial⟩,rfl,wrk (by omega) (by omega),trivial⟩,⟨rfl,rfl⟩,trivial⟩
   · show x.i=_;omega
   · show x.j-x.i=_;omega
   · show l'.length=_;rw [e];simp;omega
   · show B2.length+B1.length+1<=x.r;omega
 · have hne:x.i=x.j:=by simpa using h
   rw [wm]
   refine ⟨⟨hLl.symm,by omega,by omega,by omega,by omega,by omega⟩,fun l' hl'=>⟨?_,rfl⟩⟩
   rw [hl',Int.toNat_natCast,Int.toNat_natCast,hi,Int.toNat_natCast,hL,hE,show pre++A'++B'++post=pre++A'++ []++B'++post by simp,Zbf rfl rfl (by simp;omega) (by omega)]
   simp
theorem Zx5:SumOk E 88 Sro:=Va E_ok (Zg (f:=88) rfl) fun x l h=>Zx4 l x h
end
section
open Go Go.RowKit
theorem Zca {l:List Prt} (h:l.Pairwise fun (p q:Prt)=>p.idx<q.idx):Dix ixP l:=h.imp fun h=>by show _≠_;exact Int.ne_of_lt h
theorem Zyv (l:List Prt) (x:Int×Int×Unit×Unit) (h:Zxn l x):InpC E 67 Th.parts (dI2c.enc x) l (isF l x):=by
 obtain ⟨a,b,u1,u2⟩:=x
 obtain ⟨h1,h2,h3,h4,h5⟩:0<=a/\a<=b/\b<=l.length/\l.length<=1000000/\(seg l a.toNat b.toNat).Pairwise (fun (p q:Prt)=>p.idx<q.idx):=h
 obtain ⟨A,rfl⟩:=Int.eq_ofNat_of_zero_le h1
 obtain ⟨B,rfl⟩:=Int.eq_ofNat_of_zero_le (by omega:0<=b)
 rw [Int.toNat_natCast,Int.toNat_natCast] at h5
 obtain ⟨p,X,q,hl,hp,hX⟩:=Zcw l (show A<=B by omega) (by omega)
 have hs:seg l A B=X:=by rw [hl];exact Vv hp hX
 rw [hs] at h5
 have hF:isF l ((A:Int),(B:Int),u1,u2)=p++srtU klP ixP X++q:=by
  unfold isF
  show repl l (A:Int).toNat (B:Int).toNat (srtU klP ixP (seg l (A:Int).toNat (B:Int).toNat))=_
  rw [Int.toNat_natCast,Int.toNat_natCast,hs,hl]
  exact Zi5 hp hX
 refine Zep hF ?_
 refine Xb E_ok (Zc E_ok Zxg 400) rfl ?_
 refine Eq.mpr (Zrw l _ A B) ?_
 have hpl:p.length+X.length+q.length=l.length:=by rw [hl];simp;omega
 refine ⟨fun x=>∃Y Z,X=Y++Z/\x.L=p++srtU klP ixP Y++Z++q/\((x.i=A+Y.length/\1<=Y.length)\/(X= []/\x.i=A+1))/\x.r=Z.length,?_,fun x hx=> ?_⟩
 · have w1:wr .i64 ((A:Int)+1)=(A:Int)+1:=wrk (by omega) (by omega)
   rw [w1]
   cases X with
   |nil=>exact ⟨⟨l,(A:Int)+1,0,0⟩,⟨[],[],rfl,by rw [hl];simp [srtU],.inr ⟨rfl,rfl⟩,rfl⟩,rfl,⟨⟨rfl,rfl,trivial⟩,rfl,rfl,⟨rfl,trivial,trivial⟩,rfl,trivial⟩,⟨rfl,rfl⟩,trivial⟩
   |cons u X=>exact ⟨⟨l,(A:Int)+1,0,X.length⟩,⟨[u],X,rfl,by rw [hl];simp [srtU,insU],.inl ⟨rfl,by simp⟩,rfl⟩,rfl,⟨⟨rfl,rfl,trivial⟩,rfl,rfl,⟨rfl,trivial,trivial⟩,rfl,trivial⟩,⟨rfl,rfl⟩,trivial⟩
 obtain ⟨Y,Z,eX,hL,hi,hr⟩:=hx
 have lXY:Y.length+Z.length=X.length:=by rw [eX,List.length_append]
 refine ⟨fun h=> ?_,fun h=>⟨?_,rfl⟩⟩
 · have h:=of_decide_eq_true h
   have hi:x.i=A+Y.length/\1<=Y.length:=by
    rcases hi with hi|⟨hi,hi2⟩
    · exact hi
    · rw [hi] at hX;simp at hX;omega
   cases Z with
   |nil=>simp at lXY;omega
   |cons v Z=>
    rw [List.length_cons] at lXY hr
    have hdY:Dix ixP (Y++ [v]):=by
     have:Dix ixP X:=Zca h5
     rw [eX,show Y++v::Z=(Y++ [v])++Z by simp] at this
     exact (List.pairwise_append.1 this).1
    have hlt:∀y∈Y,y.idx<v.idx:=by
     rw [eX] at h5
     exact fun y hy=>(List.pairwise_append.1 h5).2.2 y hy v (by simp)
    have wi:wr .i64 (x.i+1)=x.i+1:=wrk (by omega) (by omega)
    have hsl:(srtU klP ixP Y).length=Y.length:=Y7 Y
    refine ⟨fun y=>∃s1 s2,srtU klP ixP Y=s1++s2/\(∀z∈s2,z.rest<v.rest)/\y.L=p++s1++v::s2++Z++q/\y.j=A+s1.length/\y.r=s1.length,
     ⟨⟨x.L,0,x.i,Y.length⟩,⟨srtU klP ixP Y,[],by simp,fun z hz=>by (cases hz),by rw [hL];simp,by rw [hsl];exact hi.1,hsl.symm⟩,rfl,⟨⟨rfl,rfl,trivial⟩,rfl,rfl,⟨rfl,trivial,trivial⟩,rfl,rfl,trivial⟩,⟨rfl,rfl⟩,trivial⟩,fun y hy=> ?_⟩
    obtain ⟨s1,s2,hs12,hs2,hyL,hyj,hyr⟩:=hy
    have l12:s1.length+s2.length=Y.length:=by rw [<-hsl,hs12,List.length_append]
    have hyl:y.L.length=l.length:=by rw [hyL,<-hpl];simp;omega
    have fin:(∀z∈s1,v.rest<=z.rest)->∃x4:SoX,(∃Y Z,X=Y++Z/\x4.L=p++srtU klP ixP Y++Z++q/\((x4.i=A+Y.length/\1<=Y.length)\/(X= []/\x4.i=A+1))/\x4.r=Z.length)/\x4.r+1<=x.r/\true=true/\(((0:Nat)=0/\l.length=l.length/\True)/\(A:Int)=A/\(B:Int)=B/\(Fn.func (30:FuncId)=Fn.func 30/\True/\True)/\wr .i64 (x.i+1)=x4.i/\True)/\(y.L=x4.L/\(0:Nat)=0)/\True:=by
     intro hs1
     have hput:=Zs2 (kl:=klP) (ix:=ixP) hdY hlt hs12 hs1 hs2
     exact ⟨⟨y.L,x.i+1,0,Z.length⟩,⟨Y++ [v],Z,by rw [eX];simp,by rw [hput,hyL];simp,.inl ⟨by simp;omega,by simp⟩,rfl⟩,by show Z.length+1<=x.r;omega,rfl,⟨⟨rfl,rfl,trivial⟩,rfl,rfl,⟨rfl,trivial,trivial⟩,wi,trivial⟩,⟨rfl,rfl⟩,trivial⟩
    refine ⟨fun k=> ?_,fun k=> ?_⟩
    · have k:=of_decide_eq_true k
      obtain ⟨s0,w,rfl⟩:∃s0 w,s1=s0++ [w]:=by
       have hne:s1≠ []:=by rintro rfl;simp at hyj;omega
       exact ⟨s1.dropLast,s1.getLast hne,(List.dropLast_concat_getLast hne).symm⟩
      rw [List.length_append,List.length_cons,List.length_nil] at*
      have wj:wr .i64 (y.j-1)=((A+s0.length:Nat):Int):=by rw [wrk (by omega) (by omega)];omega
      have ej:y.j=((A+s0.length+1:Nat):Int):=by omega
      have g1:y.L[A+s0.length+1]? =some v:=Yt (u:=p++s0++ [w]) (w:=s2++Z++q) (by rw [hyL];simp) (by simp;omega)
      have g0:y.L[A+s0.length]? =some w:=Yt (u:=p++s0) (w:=v::s2++Z++q) (by rw [hyL];simp) (by simp;omega)
      rw [wj,ej,Int.toNat_natCast,Int.toNat_natCast,Nat.zero_add,Nat.zero_add]
      refine ⟨⟨by omega,by omega⟩,by omega,fun x2 k2=>⟨⟨by omega,by omega⟩,by omega,fun x3 k3=>⟨trivial,fun c hc=>⟨fun hc2=> ?_,fun hc2=> ?_⟩⟩⟩⟩
      all_goals
       obtain rfl:v=x2:=Option.some.inj (g1.symm.trans k2)
       obtain rfl:w=x3:=Option.some.inj (g0.symm.trans k3)
      · have hwv:w.rest<v.rest:=by
         have hc2:=of_decide_eq_true hc2
         rw [hc] at hc2
         exact (Wu _ _).1 hc2
        refine ⟨⟨by omega,by omega⟩,by omega,fun x4 k4=>⟨⟨by omega,by omega⟩,by omega,fun x5 k5=>⟨⟨by omega,by omega⟩,by omega,by omega,fun x6 k6=>⟨⟨by omega,by omega⟩,by omega,by rw [List.length_set];omega,fun x7 k7=>
         ⟨⟨_,0,((A+s0.length:Nat):Int),s0.length⟩,⟨s0,w::s2,by rw [hs12];simp,fun z hz=> ?_,?_,by show ((A+s0.length:Nat):Int)=_;omega,rfl⟩,by show s0.length+1<=y.r;omega,rfl,⟨⟨rfl,rfl,trivial⟩,rfl,rfl,⟨rfl,trivial,trivial⟩,rfl,rfl,trivial⟩,⟨rfl,rfl⟩,trivial⟩⟩⟩⟩⟩
        · rcases List.mem_cons.1 hz with rfl|hz
          · exact hwv
          · exact hs2 z hz
        · obtain rfl:w=x4:=Option.some.inj (g0.symm.trans k4)
          obtain rfl:v=x5:=Option.some.inj (g1.symm.trans k5)
          show (y.L.set (A+s0.length+1) w).set (A+s0.length) v=_
          rw [Zkt g1 g0,hyL,show A+s0.length+1=(p++s0).length+1 by simp;omega,show A+s0.length=(p++s0).length by simp;omega,show p++(s0++ [w])++v::s2++Z++q=(p++s0)++w::v::(s2++Z++q) by simp,Zfb]
          simp
      · refine fin fun z hz=> ?_
        have hge:v.rest<=w.rest:=by
         have hc2:=of_decide_eq_false hc2
         rw [hc,Wu] at hc2
         omega
        have hsrt:Srt klP ixP (s0++ [w]):=by
         have:Srt klP ixP (s0++ [w]++s2):=hs12▸Y8 (List.pairwise_append.1 hdY).1
         exact (srt_app.1 this).1
        have:w.rest<=z.rest:=Ue (kl:=klP) hsrt hz
        omega
    · have k:=of_decide_eq_false k
      have h0:s1.length=0:=by omega
      rw [List.length_eq_zero_iff] at h0
      exact fin fun z hz=>by rw [h0] at hz;cases hz
 · have h:=of_decide_eq_false h
   have hZ:Z= []:=by
    rcases hi with hi|⟨hi,hi2⟩
    · exact List.length_eq_zero_iff.1 (by omega)
    · rw [hi,List.length_nil] at lXY;exact List.length_eq_zero_iff.1 (by omega)
   rw [hL,eX,hZ]
   simp
theorem Zxt:SumOk E 67 Sis:=Va E_ok (Zg (f:=67) rfl) fun x l h=>Zyv l x h
end
section
open Go Go.RowKit
theorem Za9 {z:Int} (h1:0<=z) (h2:z<=4611686018427387904):Wb z=z/2:=by
 unfold Wb
 rw [show (2:Int)^min (Int.toNat (1:Int)) (IntKind.bits IntKind.u64)=2 from rfl,wrk (z:=z) (by omega) (by omega),wu64,Int.fdiv_eq_ediv_of_nonneg _ (by decide)]
 rw [show z%18446744073709551616=z by omega]
 exact wrk (by omega) (by omega)
theorem Xy {l:List Prt} {a m b:Int} {k:Prop} (h:k):frS l a m b k:=⟨⟨rfl,rfl,trivial⟩,rfl,rfl,rfl,⟨rfl,trivial,trivial⟩,h⟩
theorem Vs {l L:List Prt} {i:Int} {k:Prt->Prop} (n:Nat) (hi:i=n) (hl:L.length=l.length) (x:Prt) (hx:L[n]? =some x) (h:k x):gtS l L i k:=by
 have hn:=(gA9.1 hx).1
 subst hi
 refine ⟨⟨by omega,by omega⟩,by rw [Int.toNat_natCast];omega,fun y hy=> ?_⟩
 rw [Int.toNat_natCast,Nat.zero_add,hx] at hy
 cases hy
 exact h
theorem Zjv {l L:List Prt} {i:Int} {v:Prt} {k:List Prt->Prop} (n:Nat) (hi:i=n) (hl:L.length=l.length) (hn:n<l.length) (h:k (L.set n v)):puS l L i v k:=by
 subst hi
 refine ⟨⟨by omega,by omega⟩,Nat.zero_le _,by rw [Int.toNat_natCast];omega,fun y hy=> ?_⟩
 rw [Int.toNat_natCast,Nat.zero_add]
 exact h
theorem Zw1 {l L p t1 w:List Prt} {x:Prt} {a m b t s:Int} (hL:L=p++x::(t1++w)) (hl:L.length=l.length) (h6:l.length<=1000000) (hs:s=p.length) (ht:t=p.length+1+t1.length):
 swL l a m b t s (fun k=>decide (k<wr .i64 (t-1))) (fun k=>wr .i64 (k+1)) L (p++t1++x::w):=by
 have hsum:p.length+t1.length+w.length+1=l.length:=by rw [<-hl,hL];simp;omega
 have wt:wr .i64 (t-1)=p.length+t1.length:=by rw [wrk (by omega) (by omega)];omega
 refine ⟨fun y=>∃u v,t1=u++v/\y.L=p++u++x::(v++w)/\y.i=p.length+u.length/\y.r=v.length,⟨⟨L,s,0,t1.length⟩,⟨[],t1,rfl,by rw [hL];simp,by show s=_;simp [hs],rfl⟩,rfl,Xy ⟨rfl,rfl,trivial⟩,⟨rfl,rfl⟩,trivial⟩,fun y hy=> ?_⟩
 obtain ⟨u,v,ht1,hyL,hyi,hyr⟩:=hy
 have luv:u.length+v.length=t1.length:=by rw [ht1,List.length_append]
 have hyl:y.L.length=l.length:=by rw [hyL,<-hsum];simp;omega
 rw [wt]
 refine ⟨fun k=> ?_,fun k=>⟨?_,rfl⟩⟩
 · have k:=of_decide_eq_true k
   cases v with
   |nil=>simp at luv;omega
   |cons z v=>
    rw [List.length_cons] at luv hyr
    have w1:wr .i64 (y.i+1)=((p.length+u.length+1:Nat):Int):=by rw [wrk (by omega) (by omega)];omega
    have g0:y.L[p.length+u.length]? =some x:=Yt (u:=p++u) (w:=z::v++w) (by rw [hyL]) (by simp)
    have g1:y.L[p.length+u.length+1]? =some z:=Yt (u:=p++u++ [x]) (w:=v++w) (by rw [hyL];simp) (by simp;omega)
    refine Vs _ w1 hyl z g1 (Vs _ (show y.i=((p.length+u.length:Nat):Int) by omega) hyl x g0 (Zjv _ (show y.i=((p.length+u.length:Nat):Int) by omega) hyl (by omega) (Zjv _ w1 (by rw [List.length_set];exact hyl) (by omega) ?_)))
    refine ⟨⟨_,wr .i64 (y.i+1),0,v.length⟩,⟨u++ [z],v,by rw [ht1];simp,?_,by show wr .i64 (y.i+1)=_;rw [w1];simp;omega,rfl⟩,by show v.length+1<=y.r;omega,rfl,Xy ⟨rfl,rfl,trivial⟩,⟨rfl,rfl⟩,trivial⟩
    show (y.L.set (p.length+u.length) z).set (p.length+u.length+1) x=_
    rw [Zkt g0 g1,Zks _ _ _ (by omega),hyL,show p.length+u.length=(p++u).length by simp,show p++u++x::(z::v++w)=(p++u)++x::z::(v++w) by simp,Zfb]
    simp
 · have k:=of_decide_eq_false k
   have hv:v= []:=List.length_eq_zero_iff.1 (by omega)
   rw [hyL,ht1,hv]
   simp
theorem Zw2 {l L p s2 w:List Prt} {x:Prt} {a m b t s:Int} (hL:L=p++s2++x::w) (hl:L.length=l.length) (h6:l.length<=1000000) (hs:s=p.length+s2.length) (ht:t=p.length):
 swL l a m b t s (fun k=>decide (k>t)) (fun k=>wr .i64 (k-1)) L (p++x::(s2++w)):=by
 have hsum:p.length+s2.length+w.length+1=l.length:=by rw [<-hl,hL];simp;omega
 refine ⟨fun y=>∃u v,s2=u++v/\y.L=p++u++x::(v++w)/\y.i=p.length+u.length/\y.r=u.length,⟨⟨L,s,0,s2.length⟩,⟨s2,[],by simp,by rw [hL];simp,hs,rfl⟩,rfl,Xy ⟨rfl,rfl,trivial⟩,⟨rfl,rfl⟩,trivial⟩,fun y hy=> ?_⟩
 obtain ⟨u,v,hs2,hyL,hyi,hyr⟩:=hy
 have luv:u.length+v.length=s2.length:=by rw [hs2,List.length_append]
 have hyl:y.L.length=l.length:=by rw [hyL,<-hsum];simp;omega
 refine ⟨fun k=> ?_,fun k=>⟨?_,rfl⟩⟩
 · have k:=of_decide_eq_true k
   obtain ⟨u0,z,rfl⟩:∃u0 z,u=u0++ [z]:=by
    have hne:u≠ []:=by rintro rfl;simp at hyi;omega
    exact ⟨u.dropLast,u.getLast hne,(List.dropLast_concat_getLast hne).symm⟩
   rw [List.length_append,List.length_cons,List.length_nil] at*
   have w1:wr .i64 (y.i-1)=((p.length+u0.length:Nat):Int):=by rw [wrk (by omega) (by omega)];omega
   have e1:y.i=((p.length+u0.length+1:Nat):Int):=by omega
   have g0:y.L[p.length+u0.length]? =some z:=Yt (u:=p++u0) (w:=x::(v++w)) (by rw [hyL];simp) (by simp)
   have g1:y.L[p.length+u0.length+1]? =some x:=Yt (u:=p++u0++ [z]) (w:=v++w) (by rw [hyL];simp) (by simp;omega)
   refine Vs _ w1 hyl z g0 (Vs _ e1 hyl x g1 (Zjv _ e1 hyl (by omega) (Zjv _ w1 (by rw [List.length_set];exact hyl) (by omega) ?_)))
   refine ⟨⟨_,wr .i64 (y.i-1),0,u0.length⟩,⟨u0,z::v,by rw [hs2];simp,?_,by show wr .i64 (y.i-1)=_;rw [w1];omega,rfl⟩,by show u0.length+1<=y.r;omega,rfl,Xy ⟨rfl,rfl,trivial⟩,⟨rfl,rfl⟩,trivial⟩
   show (y.L.set (p.length+u0.length+1) z).set (p.length+u0.length) x=_
   rw [Zkt g1 g0,hyL,show p.length+u0.length=(p++u0).length by simp,show p++(u0++ [z])++x::(v++w)=(p++u0)++z::x::(v++w) by simp,Zfb]
   simp
 · have k:=of_decide_eq_false k
   have hv:u= []:=List.length_eq_zero_iff.1 (by omega)
   rw [hyL,hs2,hv]
   simp
theorem Zw3 {l p T q:List Prt} {x:Prt} {a m b:Int} (hl:l=p++x::(T++q)) (h6:l.length<=1000000) (ha:a=p.length) (hm:m=p.length+1) (hb:b=p.length+1+T.length) (hM:Mrg klP ixP [x] T):
 smA l a m b (p++srtU klP ixP ([x]++T)++q):=by
 have hsum:p.length+1+T.length+q.length=l.length:=by rw [hl];simp;omega
 refine ⟨fun y=>y.L=l/\m<=y.i/\y.i<=y.j/\y.j<=b/\y.r=(y.j-y.i).toNat/\(y.i=m\/∀z,l[(y.i-1).toNat]? =some z->x.rest<z.rest)/\(y.j=b\/∀z,l[y.j.toNat]? =some z->z.rest<=x.rest),
  ⟨⟨l,m,b,(b-m).toNat⟩,⟨rfl,Int.le_refl _,by show m<=b;omega,Int.le_refl _,rfl,.inl rfl,.inl rfl⟩,rfl,Xy ⟨rfl,rfl,trivial⟩,⟨rfl,rfl⟩,trivial⟩,fun y hy=> ?_⟩
 obtain ⟨hyL,h1,h2,h3,hr,c1,c2⟩:=hy
 refine ⟨fun k=> ?_,fun k=> ?_⟩
 · have k:=of_decide_eq_true k
   have hh:Wb (y.i+y.j)=(y.i+y.j)/2:=Za9 (by omega) (by omega)
   obtain ⟨z,hz⟩:∃z,l[((y.i+y.j)/2).toNat]? =some z:=⟨_,gB9 (by omega)⟩
   have g0:l[p.length]? =some x:=Yt (u:=p) (w:=T++q) hl rfl
   have w1:wr .i64 ((y.i+y.j)/2+1)=(y.i+y.j)/2+1:=wrk (by omega) (by omega)
   rw [hh,hyL,w1]
   refine Vs ((y.i+y.j)/2).toNat (by omega) rfl z hz (Vs p.length ha rfl x g0 ⟨trivial,fun c hc=>⟨fun k2=> ?_,fun k2=> ?_⟩⟩)
   · have k2:=of_decide_eq_true k2
     rw [hc] at k2
     have k2:=(Wu _ _).1 k2
     refine ⟨⟨l,(y.i+y.j)/2+1,y.j,(y.j-((y.i+y.j)/2+1)).toNat⟩,⟨rfl,by show m<=(y.i+y.j)/2+1;omega,by show (y.i+y.j)/2+1<=y.j;omega,h3,rfl,.inr fun z' hz'=> ?_,c2⟩,by show (y.j-((y.i+y.j)/2+1)).toNat+1<=y.r;omega,rfl,Xy ⟨rfl,rfl,trivial⟩,⟨rfl,rfl⟩,trivial⟩
     have hz':l[((y.i+y.j)/2+1-1).toNat]? =some z':=hz'
     rw [show (y.i+y.j)/2+1-1=(y.i+y.j)/2 by omega,hz] at hz'
     cases hz'
     exact k2
   · have k2:=of_decide_eq_false k2
     rw [hc,Wu] at k2
     refine ⟨⟨l,y.i,(y.i+y.j)/2,((y.i+y.j)/2-y.i).toNat⟩,⟨rfl,h1,by show y.i<=(y.i+y.j)/2;omega,by show (y.i+y.j)/2<=b;omega,rfl,c1,.inr fun z' hz'=> ?_⟩,by show ((y.i+y.j)/2-y.i).toNat+1<=y.r;omega,rfl,Xy ⟨rfl,rfl,trivial⟩,⟨rfl,rfl⟩,trivial⟩
     have hz':l[((y.i+y.j)/2).toNat]? =some z':=hz'
     rw [hz] at hz'
     cases hz'
     omega
 · have k:=of_decide_eq_false k
   have hij:y.i=y.j:=by omega
   obtain ⟨t1,t2,hT,ht1⟩:∃t1 t2,T=t1++t2/\y.i=p.length+1+t1.length:=⟨T.take (y.i-m).toNat,T.drop (y.i-m).toNat,(List.take_append_drop _ _).symm,by rw [List.length_take];omega⟩
   have d1:∀z∈t1,x.rest<z.rest:=by
    intro z hz
    rcases c1 with c1|c1
    · have:t1= []:=List.length_eq_zero_iff.1 (by omega)
      rw [this] at hz;cases hz
    · obtain ⟨u0,w,rfl⟩:∃u0 w,t1=u0++ [w]:=by
       have hne:t1≠ []:=by rintro rfl;cases hz
       exact ⟨t1.dropLast,t1.getLast hne,(List.dropLast_concat_getLast hne).symm⟩
      have hw:=c1 w (Yt (u:=p++x::u0) (w:=t2++q) (by rw [hl,hT];simp) (by rw [List.length_append] at ht1;simp at ht1⊢;omega))
      have hsT:Srt klP ixP (u0++ [w]++t2):=hT▸hM.ht
      have:w.rest<=z.rest:=Ue (kl:=klP) (srt_app.1 hsT).1 hz
      omega
   have d2:∀z∈t2,z.rest<=x.rest:=by
    intro z hz
    rcases c2 with c2|c2
    · have:t2= []:=List.length_eq_zero_iff.1 (by have:=congrArg List.length hT;rw [List.length_append] at this;omega)
      rw [this] at hz;cases hz
    · cases t2 with
      |nil=>cases hz
      |cons w t2=>
       have hw:=c2 w (Yt (u:=p++x::t1) (w:=t2++q) (by rw [hl,hT];simp) (by simp;omega))
       have hsT:Srt klP ixP (t1++w::t2):=hT▸hM.ht
       have:z.rest<=w.rest:=Zcy (kl:=klP) (srt_app.1 hsT).2.1 hz
       omega
   have hres:srtU klP ixP ([x]++T)=t1++x::t2:=by
    refine Zaj hM.hd (Zie (hT▸hM.ht) (fun z hz=>hM.hlt x (by simp) z (by rw [hT];exact hz)) d1 d2) ?_
    rw [hT]
    exact List.perm_middle
   rw [hres,hyL]
   have:=Zw1 (l:=l) (L:=l) (p:=p) (t1:=t1) (w:=t2++q) (x:=x) (a:=a) (m:=m) (b:=b) (t:=y.i) (s:=a) (by rw [hl,hT];simp) rfl h6 ha ht1
   rw [show p++(t1++x::t2)++q=p++t1++x::(t2++q) by simp]
   exact this
theorem Zw4 {l p S q:List Prt} {x:Prt} {a m b:Int} (hl:l=p++S++x::q) (h6:l.length<=1000000) (ha:a=p.length) (hm:m=p.length+S.length) (hb:b=p.length+S.length+1) (hM:Mrg klP ixP S [x]):
 smB l a m b (p++srtU klP ixP (S++ [x])++q):=by
 have hsum:p.length+S.length+1+q.length=l.length:=by rw [hl];simp;omega
 refine ⟨fun y=>y.L=l/\a<=y.i/\y.i<=y.j/\y.j<=m/\y.r=(y.j-y.i).toNat/\(y.i=a\/∀z,l[(y.i-1).toNat]? =some z->x.rest<=z.rest)/\(y.j=m\/∀z,l[y.j.toNat]? =some z->z.rest<x.rest),
  ⟨⟨l,a,m,(m-a).toNat⟩,⟨rfl,Int.le_refl _,by show a<=m;omega,Int.le_refl _,rfl,.inl rfl,.inl rfl⟩,rfl,Xy ⟨rfl,rfl,trivial⟩,⟨rfl,rfl⟩,trivial⟩,fun y hy=> ?_⟩
 obtain ⟨hyL,h1,h2,h3,hr,c1,c2⟩:=hy
 refine ⟨fun k=> ?_,fun k=> ?_⟩
 · have k:=of_decide_eq_true k
   have hh:Wb (y.i+y.j)=(y.i+y.j)/2:=Za9 (by omega) (by omega)
   obtain ⟨z,hz⟩:∃z,l[((y.i+y.j)/2).toNat]? =some z:=⟨_,gB9 (by omega)⟩
   have g0:l[p.length+S.length]? =some x:=Yt (u:=p++S) (w:=q) hl (by simp)
   have w1:wr .i64 ((y.i+y.j)/2+1)=(y.i+y.j)/2+1:=wrk (by omega) (by omega)
   rw [hh,hyL,w1]
   refine Vs (p.length+S.length) (by omega) rfl x g0 (Vs ((y.i+y.j)/2).toNat (by omega) rfl z hz ⟨trivial,fun c hc=>⟨fun k2=> ?_,fun k2=> ?_⟩⟩)
   · have k2:=of_decide_eq_true k2
     rw [hc] at k2
     have k2:=(Wu _ _).1 k2
     refine ⟨⟨l,y.i,(y.i+y.j)/2,((y.i+y.j)/2-y.i).toNat⟩,⟨rfl,h1,by show y.i<=(y.i+y.j)/2;omega,by show (y.i+y.j)/2<=m;omega,rfl,c1,.inr fun z' hz'=> ?_⟩,by show ((y.i+y.j)/2-y.i).toNat+1<=y.r;omega,rfl,Xy ⟨rfl,rfl,trivial⟩,⟨rfl,rfl⟩,trivial⟩
     have hz':l[((y.i+y.j)/2).toNat]? =some z':=hz'
     rw [hz] at hz'
     cases hz'
     exact k2
   · have k2:=of_decide_eq_false k2
     rw [hc,Wu] at k2
     refine ⟨⟨l,(y.i+y.j)/2+1,y.j,(y.j-((y.i+y.j)/2+1)).toNat⟩,⟨rfl,by show a<=(y.i+y.j)/2+1;omega,by show (y.i+y.j)/2+1<=y.j;omega,h3,rfl,.inr fun z' hz'=> ?_,c2⟩,by show (y.j-((y.i+y.j)/2+1)).toNat+1<=y.r;omega,rfl,Xy ⟨rfl,rfl,trivial⟩,⟨rfl,rfl⟩,trivial⟩
     have hz':l[((y.i+y.j)/2+1-1).toNat]? =some z':=hz'
     rw [show (y.i+y.j)/2+1-1=(y.i+y.j)/2 by omega,hz] at hz'
     cases hz'
     omega
 · have k:=of_decide_eq_false k
   have hij:y.i=y.j:=by omega
   obtain ⟨s1,s2,hS,hs1⟩:∃s1 s2,S=s1++s2/\y.i=p.length+s1.length:=⟨S.take (y.i-a).toNat,S.drop (y.i-a).toNat,(List.take_append_drop _ _).symm,by rw [List.length_take];omega⟩
   have lS:s1.length+s2.length=S.length:=by rw [hS,List.length_append]
   have d1:∀z∈s1,x.rest<=z.rest:=by
    intro z hz
    rcases c1 with c1|c1
    · have:s1= []:=List.length_eq_zero_iff.1 (by omega)
      rw [this] at hz;cases hz
    · obtain ⟨u0,w,rfl⟩:∃u0 w,s1=u0++ [w]:=by
       have hne:s1≠ []:=by rintro rfl;cases hz
       exact ⟨s1.dropLast,s1.getLast hne,(List.dropLast_concat_getLast hne).symm⟩
      have hw:=c1 w (Yt (u:=p++u0) (w:=s2++x::q) (by rw [hl,hS];simp) (by rw [List.length_append] at hs1;simp at hs1⊢;omega))
      have hsS:Srt klP ixP (u0++ [w]++s2):=hS▸hM.hs
      have:w.rest<=z.rest:=Ue (kl:=klP) (srt_app.1 hsS).1 hz
      omega
   have d2:∀z∈s2,z.rest<x.rest:=by
    intro z hz
    rcases c2 with c2|c2
    · have:s2= []:=List.length_eq_zero_iff.1 (by omega)
      rw [this] at hz;cases hz
    · cases s2 with
      |nil=>cases hz
      |cons w s2=>
       have hw:=c2 w (Yt (u:=p++s1) (w:=s2++x::q) (by rw [hl,hS];simp) (by simp;omega))
       have hsS:Srt klP ixP (s1++w::s2):=hS▸hM.hs
       have:z.rest<=w.rest:=Zcy (kl:=klP) (srt_app.1 hsS).2.1 hz
       omega
   have hres:srtU klP ixP (S++ [x])=s1++x::s2:=by
    refine Zaj hM.hd (Zap (hS▸hM.hs) (fun z hz=>hM.hlt z (by rw [hS];exact hz) x (by simp)) d1 d2) ?_
    rw [hS]
    exact List.perm_middle.trans (List.perm_append_comm (l₁:= [x]) (l₂:=s1++s2))
   rw [hres,hyL]
   have:=Zw2 (l:=l) (L:=l) (p:=p++s1) (s2:=s2) (w:=q) (x:=x) (a:=a) (m:=m) (b:=b) (t:=y.i) (s:=m) (by rw [hl,hS];simp) rfl h6 (by simp;omega) (by simp;omega)
   rw [show p++(s1++x::s2)++q=p++s1++x::(s2++q) by simp]
   exact this
end
section
open Go Go.RowKit
theorem Ze5 {p S T q:List Prt} {a m b:Int} (ha:a=p.length) (hb:b=p.length+S.length+T.length):smF (p++S++T++q) (a,m,b,(),())=p++srtU klP ixP (S++T)++q:=by
 subst ha
 unfold smF
 show repl _ (p.length:Int).toNat b.toNat (srtU klP ixP (seg _ (p.length:Int).toNat b.toNat))=_
 rw [Int.toNat_natCast,show p++S++T++q=p++(S++T)++q by simp,show b.toNat=p.length+(S++T).length by simp;omega,Zcv,Zfa]
theorem Ze6 {N:Int} {p S T q:List Prt} {a m b:Int} (ha:a=p.length) (hm:m=p.length+S.length) (hb:b=p.length+S.length+T.length) (h1:0<S.length) (h2:0<T.length) (h6:(p++S++T++q).length<=1000000) (hN:b-a<N) (hM:Mrg klP ixP S T):
 Zl5 N (p++S++T++q) (a,m,b,(),()):=by
 subst ha
 have e1:seg (p++S++T++q) (p.length:Int).toNat m.toNat=S:=by
  rw [Int.toNat_natCast,show m.toNat=p.length+S.length by omega,show p++S++T++q=p++S++(T++q) by simp,Zcv]
 have e2:seg (p++S++T++q) m.toNat b.toNat=T:=by
  rw [show m.toNat=(p++S).length by simp;omega,show b.toNat=(p++S).length+T.length by simp;omega,Zcv]
 refine ⟨by show (0:Int)<=p.length;omega,by show (p.length:Int)<m;omega,by show m<b;omega,by show b<=((p++S++T++q).length:Int);simp;omega,h6,hN,?_⟩
 show Mrg klP ixP (seg (p++S++T++q) (p.length:Int).toNat m.toNat) (seg (p++S++T++q) m.toNat b.toNat)
 rw [e1,e2]
 exact hM
theorem Zkm {S T:List Prt} (h:Mrg klP ixP S T) (h0:S= []\/T= []):srtU klP ixP (S++T)=S++T:=by
 refine Zqm h.hd ?_
 rcases h0 with rfl|rfl
 · exact h.ht
 · rw [List.append_nil];exact h.hs
theorem Zvz {N:Int} {l P S T q:List Prt} {b mid e:Int} (hmid:mid=P.length) (he:e=P.length+S.length) (hb:b=P.length+S.length+T.length) (hl:(P++S++T++q).length=l.length) (h6:l.length<=1000000) (hN:b-mid<N) (hM:Mrg klP ixP S T):
 smT3 N l b mid e (P++S++T++q) (P++srtU klP ixP (S++T)++q):=by
 by_cases hc:mid<e/\e<b
 · refine ⟨fun q=>q=true,⟨fun _=>⟨fun _=>rfl,fun k=>absurd hc.2 (of_decide_eq_false k)⟩,fun k=>absurd hc.1 (of_decide_eq_false k)⟩,fun _=>⟨⟨hl.symm,Ze6 hmid he hb (by omega) (by omega) (by rw [hl];exact h6) hN hM⟩,fun l' hl'=>⟨?_,rfl⟩⟩,fun k=>by cases k⟩
   rw [hl',Ze5 hmid hb]
 · refine ⟨fun q=>q=false,⟨fun k1=>⟨fun k2=>absurd ⟨of_decide_eq_true k1,of_decide_eq_true k2⟩ hc,fun _=>rfl⟩,fun _=>rfl⟩,fun k=>(by cases k),fun _=>⟨?_,rfl⟩⟩
   rw [Zkm hM (by
    by_cases h0:S= []
    · exact .inl h0
    · have:=List.length_pos_iff.2 h0
      exact .inr (List.length_eq_zero_iff.1 (by omega)))]
   simp
theorem Zv0 {N:Int} {l p s1 t1 s2 t2 q:List Prt} {a b mid st e:Int} (ha:a=p.length) (hst:st=p.length+s1.length) (hmid:mid=p.length+s1.length+t1.length) (he:e=p.length+s1.length+t1.length+s2.length) (hb:b=p.length+s1.length+t1.length+s2.length+t2.length)
 (hl:(p++s1++t1++s2++t2++q).length=l.length) (h6:l.length<=1000000) (hN1:mid-a<N) (hN2:b-mid<N) (hM1:Mrg klP ixP s1 t1) (hM2:Mrg klP ixP s2 t2):
 smT2 N l a b mid st e (p++s1++t1++s2++t2++q) (p++(srtU klP ixP (s1++t1)++srtU klP ixP (s2++t2))++q):=by
 have hlen:=Y7 (kl:=klP) (ix:=ixP) (s1++t1)
 rw [List.length_append] at hlen
 have t3:smT3 N l b mid e (p++srtU klP ixP (s1++t1)++s2++t2++q) (p++(srtU klP ixP (s1++t1)++srtU klP ixP (s2++t2))++q):=by
  have:=Zvz (N:=N) (l:=l) (P:=p++srtU klP ixP (s1++t1)) (S:=s2) (T:=t2) (q:=q) (b:=b) (mid:=mid) (e:=e) (by simp;omega) (by simp;omega) (by simp;omega) (by rw [<-hl];simp;omega) h6 hN2 hM2
  rw [show p++(srtU klP ixP (s1++t1)++srtU klP ixP (s2++t2))++q=p++srtU klP ixP (s1++t1)++srtU klP ixP (s2++t2)++q by simp]
  exact this
 have e0:p++s1++t1++s2++t2++q=p++s1++t1++(s2++t2++q):=by simp
 by_cases hc:a<st/\st<mid
 · refine ⟨fun q=>q=true,⟨fun _=>⟨fun _=>rfl,fun k=>absurd hc.2 (of_decide_eq_false k)⟩,fun k=>absurd hc.1 (of_decide_eq_false k)⟩,fun _=>⟨⟨hl.symm,?_⟩,fun l' hl'=> ?_⟩,fun k=>by cases k⟩
   · rw [e0]
     exact Ze6 ha hst hmid (by omega) (by omega) (by rw [<-e0,hl];exact h6) hN1 hM1
   · rw [hl',e0,Ze5 ha hmid,show p++srtU klP ixP (s1++t1)++(s2++t2++q)=p++srtU klP ixP (s1++t1)++s2++t2++q by simp]
     exact t3
 · refine ⟨fun q=>q=false,⟨fun k1=>⟨fun k2=>absurd ⟨of_decide_eq_true k1,of_decide_eq_true k2⟩ hc,fun _=>rfl⟩,fun _=>rfl⟩,fun k=>(by cases k),fun _=> ?_⟩
   have hs:=Zkm hM1 (by
    by_cases h0:s1= []
    · exact .inl h0
    · have:=List.length_pos_iff.2 h0
      exact .inr (List.length_eq_zero_iff.1 (by omega)))
   rw [hs] at t3⊢
   rw [show p++s1++t1++s2++t2++q=p++(s1++t1)++s2++t2++q by simp]
   exact t3
theorem Zv1 {N:Int} {l p s1 s2 t1 t2 q:List Prt} {a m b mid st e:Int} (ha:a=p.length) (hst:st=p.length+s1.length) (hm:m=p.length+s1.length+s2.length) (hmid:mid=p.length+s1.length+t1.length) (he:e=p.length+s1.length+t1.length+s2.length) (hb:b=p.length+s1.length+t1.length+s2.length+t2.length)
 (hl:l=p++s1++s2++t1++t2++q) (h6:l.length<=1000000) (hN1:mid-a<N) (hN2:b-mid<N) (hM:Mrg klP ixP (s1++s2) (t1++t2)) (c1:∀x∈s2.head?,∀y∈t1.getLast?,x.rest<y.rest) (c2:∀x∈s1.getLast?,∀y∈t2.head?,y.rest<=x.rest):
 smT1 N l a m b mid st e l (p++srtU klP ixP (s1++s2++(t1++t2))++q):=by
 obtain ⟨hM1,hM2⟩:=Zhd hM
 have hh:=Zmy hM c1 c2
 have t2':=Zv0 (N:=N) (l:=l) (q:=q) ha hst hmid he hb (by rw [hl];simp;omega) h6 hN1 hN2 hM1 hM2
 rw [hh] at t2'
 by_cases hc:st<m/\m<e
 · refine ⟨fun q=>q=true,⟨fun _=>⟨fun _=>rfl,fun k=>absurd hc.2 (of_decide_eq_false k)⟩,fun k=>absurd hc.1 (of_decide_eq_false k)⟩,fun _=>⟨⟨rfl,?_⟩,fun l' hl'=> ?_⟩,fun k=>by cases k⟩
   · refine ⟨by show 0<=st;omega,by show st<m;omega,by show m<e;omega,?_,h6⟩
     show e<=(l.length:Int)
     rw [hl];simp;omega
   · have el:l=(p++s1)++(s2++t1)++(t2++q):=by rw [hl];simp
     have e1:seg l m.toNat e.toNat=t1:=by
      rw [show l=(p++s1++s2)++t1++(t2++q) by rw [hl];simp]
      exact Vv (by simp;omega) (by omega)
     have e2:seg l st.toNat m.toNat=s2:=by
      rw [show l=(p++s1)++s2++(t1++t2++q) by rw [hl];simp]
      exact Vv (by simp;omega) (by omega)
     have e3:l'=p++s1++t1++s2++t2++q:=by
      rw [hl',e1,e2,el,Zi5 (by simp;omega) (by simp;omega)]
      simp
     rw [e3]
     exact t2'
 · refine ⟨fun q=>q=false,⟨fun k1=>⟨fun k2=>absurd ⟨of_decide_eq_true k1,of_decide_eq_true k2⟩ hc,fun _=>rfl⟩,fun _=>rfl⟩,fun k=>(by cases k),fun _=> ?_⟩
   have hs:p++s1++t1++s2++t2++q=l:=by
    rw [hl]
    by_cases h0:s2= []
    · rw [h0];simp
    · have:=List.length_pos_iff.2 h0
      have:t1= []:=List.length_eq_zero_iff.1 (by omega)
      rw [this];simp
   rw [hs] at t2'
   exact t2'
theorem Ztx {N:Int} {l p S T q:List Prt} {a m b mid n pp s0 r0:Int} (hl:l=p++S++T++q) (h6:l.length<=1000000) (ha:a=p.length) (hm:m=p.length+S.length) (hb:b=p.length+S.length+T.length) (hM:Mrg klP ixP S T) (hmid:mid=(a+b)/2) (hn:n=mid+m) (hpp:pp=n-1)
 (h1:2<=m-a) (h2:2<=b-m) (hN:b-a<=N) (hsr:(m>mid/\s0=n-b/\r0=mid)\/(m<=mid/\s0=a/\r0=m)):
 smC N l a m b mid n pp s0 r0 (p++srtU klP ixP (S++T)++q):=by
 have hsum:p.length+S.length+T.length+q.length=l.length:=by rw [hl];simp;omega
 have hb0:s0<=r0/\a<=s0/\r0<=m/\r0<=mid/\n-s0<=b/\m<=n-r0:=by omega
 refine ⟨fun y=>y.L=l/\s0<=y.i/\y.i<=y.j/\y.j<=r0/\y.r=(y.j-y.i).toNat/\(y.i=s0\/∀u v,l[(pp-(y.i-1)).toNat]? =some u->l[(y.i-1).toNat]? =some v->u.rest<=v.rest)/\(y.j=r0\/∀u v,l[(pp-y.j).toNat]? =some u->l[y.j.toNat]? =some v->v.rest<u.rest),
  ⟨⟨l,s0,r0,(r0-s0).toNat⟩,⟨rfl,Int.le_refl _,hb0.1,Int.le_refl _,rfl,.inl rfl,.inl rfl⟩,rfl,Xy ⟨rfl,rfl,rfl,rfl,rfl,trivial⟩,⟨rfl,rfl⟩,trivial⟩,fun y hy=> ?_⟩
 obtain ⟨hyL,g1,g2,g3,hr,c1,c2⟩:=hy
 refine ⟨fun k=> ?_,fun k=> ?_⟩
 · have k:=of_decide_eq_true k
   have hh:Wb (y.i+y.j)=(y.i+y.j)/2:=Za9 (by omega) (by omega)
   obtain ⟨c,hc⟩:∃c,c=(y.i+y.j)/2:=⟨_,rfl⟩
   have hcb:y.i<=c/\c<y.j:=by omega
   obtain ⟨z,hz⟩:∃z,l[c.toNat]? =some z:=⟨_,gB9 (by omega)⟩
   obtain ⟨w,hw⟩:∃w,l[(pp-c).toNat]? =some w:=⟨_,gB9 (by omega)⟩
   have w1:wr .i64 (c+1)=c+1:=wrk (by omega) (by omega)
   have w2:wr .i64 (pp-c)=pp-c:=wrk (by omega) (by omega)
   rw [hh,hyL,<-hc,w1,w2]
   refine Vs (pp-c).toNat (by omega) rfl w hw (Vs c.toNat (by omega) rfl z hz ⟨trivial,fun d hd=>⟨fun k2=> ?_,fun k2=> ?_⟩⟩)
   · have k2:=of_decide_eq_true k2
     rw [hd] at k2
     have k2:=(Wu _ _).1 k2
     refine ⟨⟨l,y.i,c,(c-y.i).toNat⟩,⟨rfl,g1,hcb.1,by show c<=r0;omega,rfl,c1,.inr fun u v hu hv=> ?_⟩,by show (c-y.i).toNat+1<=y.r;omega,rfl,Xy ⟨rfl,rfl,rfl,rfl,rfl,trivial⟩,⟨rfl,rfl⟩,trivial⟩
     have hu:l[(pp-c).toNat]? =some u:=hu
     have hv:l[c.toNat]? =some v:=hv
     rw [hw] at hu
     rw [hz] at hv
     cases hu
     cases hv
     exact k2
   · have k2:=of_decide_eq_false k2
     rw [hd,Wu] at k2
     refine ⟨⟨l,c+1,y.j,(y.j-(c+1)).toNat⟩,⟨rfl,by show s0<=c+1;omega,by show c+1<=y.j;omega,g3,rfl,.inr fun u v hu hv=> ?_,c2⟩,by show (y.j-(c+1)).toNat+1<=y.r;omega,rfl,Xy ⟨rfl,rfl,rfl,rfl,rfl,trivial⟩,⟨rfl,rfl⟩,trivial⟩
     have hu:l[(pp-(c+1-1)).toNat]? =some u:=hu
     have hv:l[(c+1-1).toNat]? =some v:=hv
     rw [show c+1-1=c by omega] at hu hv
     rw [hw] at hu
     rw [hz] at hv
     cases hu
     cases hv
     omega
 · have k:=of_decide_eq_false k
   have hij:y.i=y.j:=by omega
   have we:wr .i64 (n-y.i)=n-y.i:=wrk (by omega) (by omega)
   rw [we,hyL]
   obtain ⟨st,hst⟩:∃st,st=y.i:=⟨_,rfl⟩
   rw [<-hij] at c2 g3
   rw [<-hst] at c1 c2 g1 g3⊢
   obtain ⟨s1,s2,hS,hs1⟩:∃s1 s2,S=s1++s2/\st=p.length+s1.length:=⟨S.take (st-a).toNat,S.drop (st-a).toNat,(List.take_append_drop _ _).symm,by rw [List.length_take];omega⟩
   obtain ⟨t1,t2,hT,ht1⟩:∃t1 t2,T=t1++t2/\n-st=m+t1.length:=⟨T.take (n-st-m).toNat,T.drop (n-st-m).toNat,(List.take_append_drop _ _).symm,by rw [List.length_take];omega⟩
   have lS:s1.length+s2.length=S.length:=by rw [hS,List.length_append]
   have lT:t1.length+t2.length=T.length:=by rw [hT,List.length_append]
   have hl':l=p++s1++s2++t1++t2++q:=by rw [hl,hS,hT];simp
   have d1:∀x∈s2.head?,∀z∈t1.getLast?,x.rest<z.rest:=by
    intro x hx z hz
    cases s2 with
    |nil=>cases hx
    |cons x' s2=>
     obtain rfl:x'=x:=by simpa using hx
     obtain ⟨u0,rfl⟩:∃u0,t1=u0++ [z]:=by
      rw [Option.mem_def,List.getLast?_eq_some_iff] at hz
      exact hz
     rw [List.length_append,List.length_cons,List.length_nil] at ht1 lT
     rw [List.length_cons] at lS
     rcases c2 with c2|c2
     · omega
     · refine c2 z x' (Yt (u:=p++s1++x'::s2++u0) (w:=t2++q) (by rw [hl'];simp) (by simp;omega)) (Yt (u:=p++s1) (w:=s2++(u0++ [z])++t2++q) (by rw [hl'];simp) (by simp;omega))
   have d2:∀x∈s1.getLast?,∀z∈t2.head?,z.rest<=x.rest:=by
    intro x hx z hz
    cases t2 with
    |nil=>cases hz
    |cons z' t2=>
     obtain rfl:z'=z:=by simpa using hz
     obtain ⟨u0,rfl⟩:∃u0,s1=u0++ [x]:=by
      rw [Option.mem_def,List.getLast?_eq_some_iff] at hx
      exact hx
     rw [List.length_append,List.length_cons,List.length_nil] at hs1 lS
     rw [List.length_cons] at lT
     rcases c1 with c1|c1
     · omega
     · refine c1 z' x (Yt (u:=p++(u0++ [x])++s2++t1) (w:=t2++q) (by rw [hl'];simp) (by simp;omega)) (Yt (u:=p++u0) (w:=s2++t1++z'::t2++q) (by rw [hl'];simp) (by simp;omega))
   have:=Zv1 (N:=N) (l:=l) (p:=p) (s1:=s1) (s2:=s2) (t1:=t1) (t2:=t2) (q:=q) (a:=a) (m:=m) (b:=b) (mid:=mid) (st:=st) (e:=n-st) ha hs1 (by omega) (by omega) (by omega) (by omega) hl' h6 (by omega) (by omega) (by rw [<-hS,<-hT];exact hM) d1 d2
   rw [hS,hT]
   exact this
theorem Zyb {N:Int} (hN:SumOk E 68 (Ssm N)):FnsOk E (Fsm N):=Zp E_ok (Zp E_ok (Zp E_ok (Zp E_ok (Zp E_ok (Zh (Zh Zdm Zx5) hN) _ _ _) _ _ _) _ _ _) _ _ _) _ _ _
theorem Zy0 {N:Int} (hN:SumOk E 68 (Ssm N)) (l:List Prt) (x:Int×Int×Int×Unit×Unit) (h:Zl5 (N+1) l x):InpC E 68 Th.parts (dI3.enc x) l (smF l x):=by
 obtain ⟨a,m,b,⟨⟩,⟨⟩⟩:=x
 obtain ⟨h1,h2,h3,h4,h5,h6,h7⟩:0<=a/\a<m/\m<b/\b<=l.length/\l.length<=1000000/\b-a<N+1/\Mrg klP ixP (seg l a.toNat m.toNat) (seg l m.toNat b.toNat):=h
 obtain ⟨A,rfl⟩:=Int.eq_ofNat_of_zero_le h1
 obtain ⟨M,rfl⟩:=Int.eq_ofNat_of_zero_le (by omega:0<=m)
 obtain ⟨B,rfl⟩:=Int.eq_ofNat_of_zero_le (by omega:0<=b)
 rw [Int.toNat_natCast,Int.toNat_natCast,Int.toNat_natCast] at h7
 obtain ⟨p,S,q1,e1,hp,hX⟩:=Zcw l (show A<=M by omega) (by omega)
 have hq1:q1.length=l.length-M:=by rw [e1];simp;omega
 obtain ⟨r,T,q,e2,hr,hY⟩:=Zcw q1 (show 0<=B-M by omega) (by omega)
 obtain rfl:r= []:=List.length_eq_zero_iff.1 hr
 rw [Nat.zero_add] at hY
 have hl:l=p++S++T++q:=by rw [e1,e2];simp
 have s1:seg l M B=T:=by rw [hl];exact Vv (p:=p++S) (by simp;omega) (by omega)
 have s2:seg l A M=S:=by rw [hl,List.append_assoc];exact Vv hp hX
 rw [s1,s2] at h7
 have hF:smF l ((A:Int),(M:Int),(B:Int),(),())=p++srtU klP ixP (S++T)++q:=by
  rw [hl]
  exact Ze5 (by omega) (by omega)
 refine Zep hF ?_
 refine Xb E_ok (Za8 E_ok F0_ok fun f n c=>(Zue E_ok (Zyb hN) 400 f n c).1) rfl ?_
 refine Eq.mpr (Zxm N l _ A M B) ?_
 have w1:wr .i64 ((M:Int)-A)=(M:Int)-A:=wrk (by omega) (by omega)
 have w2:wr .i64 ((B:Int)-M)=(B:Int)-M:=wrk (by omega) (by omega)
 have hz:Wb ((A:Int)+B)=((A:Int)+B)/2:=Za9 (by omega) (by omega)
 have w3:wr .i64 (((A:Int)+B)/2+M)=((A:Int)+B)/2+M:=wrk (by omega) (by omega)
 have w4:wr .i64 (((A:Int)+B)/2+M-1)=((A:Int)+B)/2+M-1:=wrk (by omega) (by omega)
 have w5:wr .i64 (((A:Int)+B)/2+M-B)=((A:Int)+B)/2+M-B:=wrk (by omega) (by omega)
 rw [hz,w3,w4]
 refine ⟨fun k=> ?_,fun k=>⟨fun k2=> ?_,fun k2=> ?_⟩⟩
 · rw [w1] at k
   have k:(M:Int)-A=1:=beq_iff_eq.1 k
   obtain ⟨x,rfl⟩:=List.length_eq_one_iff.1 (show S.length=1 by omega)
   exact Zw3 (by rw [hl];simp) h5 (by omega) (by omega) (by omega) h7
 · rw [w2] at k2
   have k2:(B:Int)-M=1:=beq_iff_eq.1 k2
   obtain ⟨x,rfl⟩:=List.length_eq_one_iff.1 (show T.length=1 by omega)
   exact Zw4 (by rw [hl];simp) h5 (by omega) (by omega) (by omega) h7
 · rw [w1] at k
   rw [w2] at k2
   have k:(M:Int)-A≠1:=beq_eq_false_iff_ne.1 k
   have k2:(B:Int)-M≠1:=beq_eq_false_iff_ne.1 k2
   rw [w5]
   refine ⟨fun k3=> ?_,fun k3=> ?_⟩
   · have k3:=of_decide_eq_true k3
     exact Ztx hl h5 (by omega) (by omega) (by omega) h7 rfl rfl rfl (by omega) (by omega) (by omega) (.inl ⟨k3,rfl,rfl⟩)
   · have k3:=of_decide_eq_false k3
     exact Ztx hl h5 (by omega) (by omega) (by omega) h7 rfl rfl rfl (by omega) (by omega) (by omega) (.inr ⟨by omega,rfl,rfl⟩)
theorem Zty:∀N:Nat,SumOk E 68 (Ssm (N:Int))
 |0=>Va E_ok (Zg (f:=68) rfl) fun x l h=>by
  obtain ⟨h1,h2,h3,h4,h5,h6,h7⟩:=h
  exfalso
  have h6:x.2.2.1-x.1<0:=h6
  omega
 |N+1=>Va E_ok (Zg (f:=68) rfl) fun x l h=>Zy0 (Zty N) l x h
end
section
open Go Go.RowKit
inductive Blk20 (s:Nat):List Prt->List Prt->Prop
 |one {l:List Prt}:l.length<=s->Blk20 s l (srtU klP ixP l)
 |more {a l L:List Prt}:a.length=s->Blk20 s l L->Blk20 s (a++l) (srtU klP ixP a++L)
theorem Blk20.len {s:Nat} {l L:List Prt} (h:Blk20 s l L):L.length=l.length:=by
 induction h with
 |one h=>exact Y7 _
 |more h _ ih=>rw [List.length_append,List.length_append,Y7,ih]
theorem Blk20.split {s:Nat} {l L:List Prt} (h:Blk20 s l L) (hs:s<=l.length):∃a l' L',l=a++l'/\a.length=s/\L=srtU klP ixP a++L'/\Blk20 s l' L':=by
 cases h with
 |one h=>exact ⟨l,[],[],by simp,by omega,by simp,.one (Nat.zero_le _)⟩
 |more h1 h2=>exact ⟨_,_,_,rfl,h1,rfl,h2⟩
theorem Blk20.whole {s:Nat} {l L:List Prt} (h:Blk20 s l L) (hs:l.length<=s):L=srtU klP ixP l:=by
 cases h with
 |one h=>rfl
 |more h1 h2=>
  rename_i a l' L'
  rw [List.length_append] at hs
  obtain rfl:l'= []:=List.length_eq_zero_iff.1 (by omega)
  obtain rfl:L'= []:=List.length_eq_zero_iff.1 (by rw [h2.len];rfl)
  simp
theorem Zvh {a b:List Prt} (h:(a++b).Pairwise fun (p q:Prt)=>p.idx<q.idx):Mrg klP ixP (srtU klP ixP a) (srtU klP ixP b):=by
 have hd:=Zca h
 obtain ⟨h1,h2,h3⟩:=List.pairwise_append.1 h
 refine ⟨Y8 (Zca h1),Y8 (Zca h2),hd.perm ((Zs a).symm.append (Zs b).symm),fun x hx y hy=>h3 x ((Zs a).mem_iff.1 hx) y ((Zs b).mem_iff.1 hy)⟩
theorem Zvi {a b:List Prt} (h:(a++b).Pairwise fun (p q:Prt)=>p.idx<q.idx):srtU klP ixP (srtU klP ixP a++srtU klP ixP b)=srtU klP ixP (a++b):=by
 have hd:=Zca h
 have p:(srtU klP ixP a++srtU klP ixP b).Perm (a++b):=(Zs a).append (Zs b)
 exact Zaj (hd.perm p.symm) (Y8 hd) ((Zs (a++b)).trans p.symm)
theorem Ztm {α:Type} {R:α->α->Prop} {a b c:List α} (h:(a++b++c).Pairwise R):b.Pairwise R:=(List.pairwise_append.1 (List.pairwise_append.1 h).1).2.1
theorem Zxq (N:Nat):FnsOk E (Fst (N:Int)):=Zp E_ok (Zp E_ok (Zp E_ok (Zh (Zh Zdm Zxt) (Zty N)) _ _ _) _ _ _) _ _ _
theorem Zxr (l:List Prt) (h6:l.length<=1000000) (hl:l.Pairwise fun (p q:Prt)=>p.idx<q.idx):InpC E 46 Th.parts [.int false .i64 (l.length:Int),cmpP] l (srtU klP ixP l):=by
 refine Xb E_ok (Zc E_ok (Zxq 1000001) 400) rfl ?_
 refine Eq.mpr (Zxo _ l _) ?_
 refine ⟨fun x=>∃l1 l2 L1,l=l1++l2/\x.L=L1++l2/\L1.length=l1.length/\x.i=l1.length/\x.j=l1.length+20/\x.r=l2.length/\∀l' L',Blk20 20 l' L'->Blk20 20 (l1++l') (L1++L'),
  ⟨⟨l,0,20,l.length⟩,⟨[],l,[],rfl,rfl,rfl,rfl,rfl,rfl,fun _ _ h=>h⟩,rfl,⟨⟨rfl,rfl,trivial⟩,rfl,⟨rfl,trivial,trivial⟩,rfl,rfl,rfl,trivial⟩,⟨rfl,rfl⟩,trivial⟩,fun x hx=> ?_⟩
 obtain ⟨l1,l2,L1,hl12,hL,hLl,hi,hj,hr,hcl⟩:=hx
 have hlen:l1.length+l2.length=l.length:=by rw [hl12,List.length_append]
 have hxl:x.L.length=l.length:=by rw [hL,List.length_append];omega
 have isE:∀(a q:List Prt) (j:Int),l2=a++q->j=l1.length+a.length->isF x.L (x.i,j,(),())=L1++srtU klP ixP a++q/\seg x.L x.i.toNat j.toNat=a:=by
  intro a q j ha hj2
  have e1:x.i.toNat=L1.length:=by omega
  have e2:j.toNat=L1.length+a.length:=by omega
  have e3:x.L=L1++a++q:=by rw [hL,ha];simp
  have e4:seg x.L x.i.toNat j.toNat=a:=by rw [e1,e2,e3,Zcv]
  refine ⟨?_,e4⟩
  show repl x.L x.i.toNat j.toNat (srtU klP ixP (seg x.L x.i.toNat j.toNat))=_
  rw [e4,e1,e2,e3,Zfa]
 refine ⟨fun k=> ?_,fun k=> ?_⟩
 · have k:=of_decide_eq_true k
   obtain ⟨a,q,ha,hal⟩:∃a q,l2=a++q/\a.length=20:=⟨l2.take 20,l2.drop 20,(List.take_append_drop _ _).symm,by rw [List.length_take];omega⟩
   obtain ⟨i1,i2⟩:=isE a q x.j ha (by omega)
   have hpa:a.Pairwise fun (p q:Prt)=>p.idx<q.idx:=by
    rw [hl12,ha,<-List.append_assoc] at hl
    exact Ztm hl
   refine ⟨⟨hxl.symm,by omega,by omega,by omega,by omega,by rw [i2];exact hpa⟩,fun l' hl'=> ?_⟩
   have lq:a.length+q.length=l2.length:=by rw [ha,List.length_append]
   have wj:wr .i64 (x.j+20)=x.j+20:=wrk (by omega) (by omega)
   refine ⟨⟨l',x.j,x.j+20,q.length⟩,⟨l1++a,q,L1++srtU klP ixP a,by rw [hl12,ha];simp,hl'.trans i1,by rw [List.length_append,List.length_append,Y7];omega,?_,?_,rfl,fun l'' L'' hb=> ?_⟩,by show q.length+1<=x.r;omega,rfl,⟨⟨rfl,rfl,trivial⟩,rfl,⟨rfl,trivial,trivial⟩,rfl,rfl,wj,trivial⟩,⟨rfl,rfl⟩,trivial⟩
   · show x.j=_;rw [List.length_append];omega
   · show x.j+20=_;rw [List.length_append];omega
   · rw [List.append_assoc,List.append_assoc]
     exact hcl _ _ (.more hal hb)
 · have k:=of_decide_eq_false k
   obtain ⟨i1,i2⟩:=isE l2 [] (l.length:Int) (by simp) (by omega)
   have hp2:l2.Pairwise fun (p q:Prt)=>p.idx<q.idx:=by rw [hl12] at hl;exact (List.pairwise_append.1 hl).2.1
   rw [List.append_nil] at i1
   refine ⟨⟨hxl.symm,by omega,by omega,by omega,by omega,by rw [i2];exact hp2⟩,fun l' hl'=> ?_⟩
   have hb0:Blk20 20 l l':=by
    rw [hl'.trans i1,hl12]
    exact hcl _ _ (.one (by omega))
   refine ⟨fun y=>∃s:Nat,20<=s/\s<=2097152/\y.i=s/\Blk20 s l y.L/\y.r=2097152-s,
    ⟨⟨l',20,0,2097152-20⟩,⟨20,Nat.le_refl _,by decide,rfl,hb0,rfl⟩,rfl,⟨⟨rfl,rfl,trivial⟩,rfl,⟨rfl,trivial,trivial⟩,rfl,trivial⟩,⟨rfl,rfl⟩,trivial⟩,fun y hy=> ?_⟩
   obtain ⟨s,hs1,hs2,hyi,hbk,hyr⟩:=hy
   have hyl:=hbk.len
   refine ⟨fun k2=> ?_,fun k2=> ?_⟩
   · have k2:=of_decide_eq_true k2
     have ws:wr .i64 (2*y.i)=((2*s:Nat):Int):=by rw [wrk (by omega) (by omega)];omega
     have ws2:wr .i64 (y.i*2)=((2*s:Nat):Int):=by rw [wrk (by omega) (by omega)];omega
     rw [ws,ws2]
     refine ⟨fun z=>∃m1 m2 M1 M2,l=m1++m2/\z.L=M1++M2/\M1.length=m1.length/\z.i=m1.length/\z.j=m1.length+2*s/\z.r=m2.length/\Blk20 s m2 M2/\∀l' L',Blk20 (2*s) l' L'->Blk20 (2*s) (m1++l') (M1++L'),
      ⟨⟨y.L,0,((2*s:Nat):Int),l.length⟩,⟨[],l,[],y.L,rfl,rfl,rfl,rfl,by show ((2*s:Nat):Int)=_;simp,rfl,hbk,fun _ _ h=>h⟩,rfl,⟨⟨rfl,rfl,trivial⟩,rfl,⟨rfl,trivial,trivial⟩,rfl,rfl,rfl,trivial⟩,⟨rfl,rfl⟩,trivial⟩,fun z hz=> ?_⟩
     obtain ⟨m1,m2,M1,M2,hm,hzL,hMl,hzi,hzj,hzr,hbm,hcm⟩:=hz
     have hmlen:m1.length+m2.length=l.length:=by rw [hm,List.length_append]
     have hM2:=hbm.len
     have hzl:z.L.length=l.length:=by rw [hzL,List.length_append];omega
     have wis:wr .i64 (z.i+y.i)=((m1.length+s:Nat):Int):=by rw [wrk (by omega) (by omega)];omega
     rw [wis]
     have mg:∀(a b q Q:List Prt) (j:Int),m2=a++b++q->a.length=s->M2=srtU klP ixP a++srtU klP ixP b++Q->0<b.length->j=m1.length+s+b.length->
      Zl5 (1000001:Nat) z.L (z.i,((m1.length+s:Nat):Int),j,(),())/\smF z.L (z.i,((m1.length+s:Nat):Int),j,(),())=M1++srtU klP ixP (a++b)++Q:=by
      intro a b q Q j e1 e2 e3 e4 e5
      have hpw:(a++b).Pairwise fun (p q:Prt)=>p.idx<q.idx:=by
       rw [hm,e1,<-List.append_assoc] at hl
       exact Ztm hl
      have eL:z.L=M1++srtU klP ixP a++srtU klP ixP b++Q:=by rw [hzL,e3];simp
      have la:=Y7 (kl:=klP) (ix:=ixP) a
      have lb:=Y7 (kl:=klP) (ix:=ixP) b
      have lm2:a.length+b.length+q.length=m2.length:=by rw [e1];simp;omega
      rw [eL]
      refine ⟨Ze6 (by omega) (by omega) (by omega) (by omega) (by omega) (by rw [<-eL];omega) (by omega) (Zvh hpw),?_⟩
      rw [Ze5 (by omega) (by omega),Zvi hpw]
     refine ⟨fun k3=> ?_,fun k3=>⟨fun k4=> ?_,fun k4=> ?_⟩⟩
     · have k3:=of_decide_eq_true k3
       obtain ⟨a,m3,M3,ea,la,eM,hb3⟩:=hbm.split (by omega)
       have lm3:a.length+m3.length=m2.length:=by rw [ea,List.length_append]
       obtain ⟨b,m4,M4,eb,lb,eM4,hb4⟩:=hb3.split (by omega)
       have lm4:b.length+m4.length=m3.length:=by rw [eb,List.length_append]
       obtain ⟨p1,p2⟩:=mg a b m4 M4 z.j (by rw [ea,eb];simp) la (by rw [eM,eM4];simp) (by omega) (by omega)
       have wj:wr .i64 (z.j+((2*s:Nat):Int))=z.j+((2*s:Nat):Int):=wrk (by omega) (by omega)
       have hA:(M1++srtU klP ixP (a++b)).length=(m1++(a++b)).length:=by rw [List.length_append,List.length_append,Y7];omega
       refine ⟨⟨hzl.symm,p1⟩,fun l' hl'=>⟨⟨l',z.j,z.j+((2*s:Nat):Int),m4.length⟩,⟨m1++(a++b),m4,M1++srtU klP ixP (a++b),M4,by rw [hm,ea,eb];simp,hl'.trans p2,hA,?_,?_,rfl,hb4,fun l'' L'' hb=> ?_⟩,by show m4.length+1<=z.r;omega,rfl,⟨⟨rfl,rfl,trivial⟩,rfl,⟨rfl,trivial,trivial⟩,rfl,rfl,wj,trivial⟩,⟨rfl,rfl⟩,trivial⟩⟩
       · show z.j=_;rw [List.length_append,List.length_append];omega
       · show z.j+((2*s:Nat):Int)=_;rw [List.length_append,List.length_append];omega
       · rw [List.append_assoc m1,List.append_assoc M1]
         exact hcm _ _ (.more (by rw [List.length_append];omega) hb)
     · have k3:=of_decide_eq_false k3
       have k4:=of_decide_eq_true k4
       obtain ⟨a,b,M3,ea,la,eM,hb3⟩:=hbm.split (by omega)
       have lm3:a.length+b.length=m2.length:=by rw [ea,List.length_append]
       have hM3:=hb3.whole (by omega)
       obtain ⟨p1,p2⟩:=mg a b [] [] (l.length:Int) (by rw [ea];simp) la (by rw [eM,hM3];simp) (by omega) (by omega)
       refine ⟨⟨hzl.symm,p1⟩,fun l' hl'=>⟨⟨l',((2*s:Nat):Int),0,2097152-2*s⟩,⟨2*s,by omega,by omega,rfl,?_,rfl⟩,by show 2097152-2*s+1<=y.r;omega,rfl,⟨⟨rfl,rfl,trivial⟩,rfl,⟨rfl,trivial,trivial⟩,rfl,trivial⟩,⟨rfl,rfl⟩,trivial⟩⟩
       show Blk20 (2*s) l l'
       rw [hl'.trans p2,List.append_nil,hm,ea]
       exact hcm _ _ (.one (by rw [List.length_append];omega))
     · have k3:=of_decide_eq_false k3
       have k4:=of_decide_eq_false k4
       refine ⟨⟨z.L,((2*s:Nat):Int),0,2097152-2*s⟩,⟨2*s,by omega,by omega,rfl,?_,rfl⟩,by show 2097152-2*s+1<=y.r;omega,rfl,⟨⟨rfl,rfl,trivial⟩,rfl,⟨rfl,trivial,trivial⟩,rfl,trivial⟩,⟨rfl,rfl⟩,trivial⟩
       show Blk20 (2*s) l z.L
       rw [hzL,hm,hbm.whole (by omega)]
       exact hcm _ _ (.one (by omega))
   · have k2:=of_decide_eq_false k2
     exact ⟨hbk.whole (by omega),rfl⟩
end
section
open Go Go.RowKit
def dSt:DcL E (Int×Unit×Unit):= .cons dN (.cons dCmp .nil)
def Zyi (l:List Prt) (x:Int×Unit×Unit):Prop:=x.1=l.length/\l.length<=1000000/\l.Pairwise fun (p q:Prt)=>p.idx<q.idx
def Sst:Sum thy:=Zh4 E Th.parts dSt Zyi fun l _=>srtU klP ixP l
theorem Zwd:SumOk E 46 Sst:=Va E_ok (Zg (f:=46) rfl) fun x l h=>by
 obtain ⟨n,u1,u2⟩:=x
 obtain ⟨rfl,h2,h3⟩:n=l.length/\l.length<=1000000/\l.Pairwise fun (p q:Prt)=>p.idx<q.idx:=h
 exact Zxr l h2 h3
theorem Zm7 (t:Int) (v:Int):Zu E F9 (vc E F9 400) 26 [.int false .i64 t] hp0 0 (fun r=>ret E (patch hp0 0 r) r.v (.int false .u64 v))=(
(decide (t<(0:Int))=true->wr IntKind.u64 ((0:Int)-wr IntKind.u64 t)=v)/\(decide (t<(0:Int))=false->wr IntKind.u64 t=v)):=by kernel_rfl
theorem Zqx (t:Int) (h: -9007199254740992<=t/\t<=9007199254740992):PureC E 26 [.int false .i64 t] (.int false .u64 (t.natAbs:Int)):=by
 refine Zb E_ok (Zc E_ok Uh 400) ?_
 rw [Zm7]
 refine ⟨fun k=> ?_,fun k=> ?_⟩
 · have k:=of_decide_eq_true k
   rw [wu64,wu64];omega
 · have k:=of_decide_eq_false k
   rw [wu64];omega
def Zwe:Sum thy:=Xe (dL1 dN) (fun x=> -9007199254740992<=x.1/\x.1<=9007199254740992) (fun x=>x.1.natAbs) fun (y:Nat)=> .int false .u64 (y:Int)
theorem Zqy:SumOk E 26 Zwe:=Zq E_ok (Zg (f:=26) rfl) fun x h=>Zqx x.1 h
structure ShX where
 a:Int
 b:Int
 k:Nat
 r:Nat
 L:List Prt
 O:List Int
def Ash1:Fr thy->Hp thy->Nat->Ann thy:=fun T h i=>{X:=ShX,fr:=fun x=> [(0,T 0),(1,T 1),(4,T 4),(5,T 5),(6,.int false .u64 x.a),(23,T 23),(24,T 24),(25,.int false .i64 x.k)],bl:=fun x=> [],src:=fun _=> [],md:= [],ih:=i,M:=i+40,meas:=fun x=>x.r}
def Ash2:Fr thy->Hp thy->Nat->Ann thy:=fun T h i=>{X:=ShX,fr:=fun x=> [(0,T 0),(1,T 1),(4,T 4),(5,T 5),(6,T 6),(9,.int false .i64 x.b),(10,T 10),(54,T 54),(55,T 55),(56,.int false .i64 x.k)],bl:=fun x=> [(bOf (T 10),.rows Th.parts x.L 0)],src:=fun _=> [],md:= [bOf (T 10)],ih:=i,M:=i+40,meas:=fun x=>x.r}
def Ash3:Fr thy->Hp thy->Nat->Ann thy:=fun T h i=>{X:=ShX,fr:=fun x=> [(0,T 0),(4,T 4),(5,T 5),(9,T 9),(10,T 10),(17,T 17),(94,T 94),(95,T 95),(96,.int false .i64 x.k)],bl:=fun x=>blkS h (T 94)++ [(bOf (T 17),.rows Th.ints x.O 0)],src:=fun _=> [],md:= [bOf (T 17)],ih:=i,M:=i+40,meas:=fun x=>x.r}
def Fsh:Fns thy:=addL (addL (addL (addS (addS F9c 26 Zwe) 46 Sst) 7 5 Ash1 E) 7 18 Ash2 E) 7 28 Ash3 E
theorem Zwf:FnsOk E Fsh:=Zp E_ok (Zp E_ok (Zp E_ok (Zh (Zh Zdm Zqy) Zwd) _ _ _) _ _ _) _ _ _
abbrev qCE3 (a0:List Int):=(↑(List.length a0):Int)
abbrev qCE4:=(0:Nat)
abbrev qCE1 (a0:List Int):=(qCE4=qCE4/\Int.toNat (qCE3 a0)=Int.toNat (qCE3 a0)/\Int.toNat (qCE3 a0)=Int.toNat (qCE3 a0))
abbrev qCE6 (a0:List Int):=(↑(Int.toNat (qCE3 a0)):Int)
abbrev qCE5 (a0:ShX):=(↑(ShX.k a0):Int)
abbrev qCEa:=(1:Int)
abbrev qCE7:=(0:Int)
abbrev qCE2 (a0:Int) (b0:ShX) (c0:List Int) (d0:ShX) (e0:ShX):=(a0=a0/\Value.slice none qCE4 qCE4=Value.slice none qCE4 qCE4/\qCE7=qCE7/\ShX.b b0=ShX.b b0/\(qCE1 c0)/\(qCE1 c0)/\(qCE1 c0)/\(qCE6 c0)=(qCE6 c0)/\wr IntKind.i64 ((qCE5 d0)+qCEa)=(qCE5 e0)/\True)
abbrev qCE8 (a0:List Int):=(a0=a0/\(false=true->false=true))
abbrev qCEe:=(-9007199254740992:Int)
abbrev qCEf:=(9007199254740992:Int)
abbrev qCE9 (a0:Int) (b0:Bool->Prop):=((decide (a0<qCEe)=true->b0 true)/\(decide (a0<qCEe)=false->(decide (a0>qCEf)=true->b0 true)/\(decide (a0>qCEf)=false->b0 false)))
abbrev qCEb (a0:Prt) (b0:List Int):=(qCE7<=Prt.idx a0/\Prt.idx a0+qCEa<=(qCE6 b0))
abbrev qCEc:=(18446744073709551616:Int)
abbrev qCEd:=(18446744073709551616:Nat)
abbrev qCEg:=(1:Nat)
abbrev qCEh (a0:Prt):=(qCE4+Int.toNat (Prt.idx a0))
theorem Zk4 (t:Int) (ws:List Int) (z:List Int) (e:Int):Zu E Fsh (vc E Fsh 400) 7 [.int false .i64 t,.psl .ints ws false] hp0 0 (fun r=>ret E (patch hp0 0 r) r.v (.tup [.psl Th.ints z false,.int false .i64 e]))=(
 (decide ((qCE3 ws)>(256:Int))=true->z= []/\(2:Int)=e/\True)/\(decide ((qCE3 ws)>(256:Int))=false->∃(R:ShX->Prop),(∃(x:ShX),R x/\true=true/\(t=t/\(qCE8 ws)/\Value.slice none qCE4 qCE4=Value.slice none qCE4 qCE4/\qCE7=qCE7/\qCE7=ShX.a x/\(qCE8 ws)/\(qCE3 ws)=(qCE3 ws)/\qCE7=(qCE5 x)/\True)/\True)/\∀(x:ShX),R x->(decide ((qCE5 x)<(qCE3 ws))=true->qCE7<=(qCE5 x)/\(qCE5 x)+qCEa<=(qCE3 ws)/\∀(x_1:Int),ws[Int.toNat (qCE5 x)]? =some x_1->(decide (x_1<qCE7)=true->z= []/\qCEa=e/\True)/\(decide (x_1<qCE7)=false->∃(Q:Bool->Prop),(qCE9 x_1 Q)/\(Q true->z= []/\qCEa=e/\True)/\(Q false->∃(x_2:ShX),R x_2/\x_2.4+qCEg<=x.4/\true=true/\(t=t/\(qCE8 ws)/\Value.slice none qCE4 qCE4=Value.slice none qCE4 qCE4/\qCE7=qCE7/\wr IntKind.u64 (ShX.a x+wr IntKind.u64 x_1)=ShX.a x_2/\(qCE8 ws)/\(qCE3 ws)=(qCE3 ws)/\wr IntKind.i64 ((qCE5 x)+qCEa)=(qCE5 x_2)/\True)/\True)))/\(decide ((qCE5 x)<(qCE3 ws))=false->((ShX.a x==qCE7)=true->z= []/\qCEa=e/\True)/\((ShX.a x==qCE7)=false->∃(Q:Bool->Prop),(qCE9 t Q)/\(Q true->z= []/\(3:Int)=e/\True)/\(Q false->(qCEe<=t/\t<=qCEf)/\∀(y:Nat),y=Int.natAbs t->qCE7<=(qCE3 ws)/\(qCE3 ws)<=(qCE3 ws)/\(↑(24:Nat):Int)*(qCE3 ws)<=(281474976710656:Int)/\∃(R:ShX->Prop),(∃(x_1:ShX),R x_1/\true=true/\(t=t/\(qCE8 ws)/\Value.slice none qCE4 qCE4=Value.slice none qCE4 qCE4/\qCE7=qCE7/\ShX.a x=ShX.a x/\wr IntKind.i64 (↑y:Int)=ShX.b x_1/\(qCE1 ws)/\(qCE8 ws)/\(qCE3 ws)=(qCE3 ws)/\qCE7=(qCE5 x_1)/\True)/\(List.replicate (Int.toNat (qCE3 ws)) (Prt.mk qCE7 qCE7 qCE7)=ShX.L x_1/\qCE4=qCE4)/\True)/\∀(x_1:ShX),R x_1->(decide ((qCE5 x_1)<(qCE3 ws))=true->qCE7<=(qCE5 x_1)/\(qCE5 x_1)+qCEa<=(qCE3 ws)/\∀(x_2:Int),ws[Int.toNat (qCE5 x_1)]? =some x_2->(qCEe<=t/\t<=qCEf)/\∀(y:Nat),y=Int.natAbs t->((qCE7<=(↑y:Int)/\(↑y:Int)+qCEa<=qCEc)/\qCE7<=wr IntKind.u64 x_2/\wr IntKind.u64 x_2+qCEa<=qCEc)/\∀(y_1:Int×Int),y_1=((↑(Int.toNat (↑y:Int)*Int.toNat (wr IntKind.u64 x_2)/qCEd):Int),(↑(Int.toNat (↑y:Int)*Int.toNat (wr IntKind.u64 x_2)%qCEd):Int))->((qCE7<=Prod.fst y_1/\Prod.fst y_1+qCEa<=ShX.a x)/\(qCE7<=Prod.snd y_1/\Prod.snd y_1+qCEa<=qCEc)/\ShX.a x+qCEa<=qCEc)/\∀(y:Int×Int),y=((↑((Int.toNat (Prod.fst y_1)*qCEd+Int.toNat (Prod.snd y_1))/Int.toNat (ShX.a x)):Int),(↑((Int.toNat (Prod.fst y_1)*qCEd+Int.toNat (Prod.snd y_1))%Int.toNat (ShX.a x)):Int))->(qCE7<=(qCE5 x_1)/\(qCE5 x_1)+qCEa<=(qCE6 ws))/\qCE4<=qCE4+Int.toNat (qCE5 x_1)/\qCE4+Int.toNat (qCE5 x_1)+qCEg<=List.length (ShX.L x_1)/\∀(x_3:Prt),(ShX.L x_1)[qCE4+Int.toNat (qCE5 x_1)]? =some x_3->∃(x_4:ShX),R x_4/\x_4.4+qCEg<=x_1.4/\true=true/\(t=t/\(qCE8 ws)/\Value.slice none qCE4 qCE4=Value.slice none qCE4 qCE4/\qCE7=qCE7/\ShX.a x=ShX.a x/\wr IntKind.i64 (ShX.b x_1-wr IntKind.i64 (Prod.fst y))=ShX.b x_4/\(qCE1 ws)/\(qCE8 ws)/\(qCE3 ws)=(qCE3 ws)/\wr IntKind.i64 ((qCE5 x_1)+qCEa)=(qCE5 x_4)/\True)/\(List.set (ShX.L x_1) (qCE4+Int.toNat (qCE5 x_1)) (Prt.mk (qCE5 x_1) (wr IntKind.i64 (Prod.fst y)) (Prod.snd y))=ShX.L x_4/\qCE4=qCE4)/\True)/\(decide ((qCE5 x_1)<(qCE3 ws))=false->(Int.toNat (qCE3 ws)=List.length (ShX.L x_1)/\(qCE6 ws)=(↑(List.length (ShX.L x_1)):Int)/\List.length (ShX.L x_1)<=(1000000:Nat)/\List.Pairwise (fun (p q:Prt)=>Prt.idx p<Prt.idx q) (ShX.L x_1))/\∀(l':List Prt),l'=srtU klP ixP (ShX.L x_1)->qCE7<=(qCE3 ws)/\(qCE3 ws)<=(qCE3 ws)/\(↑(8:Nat):Int)*(qCE3 ws)<=(281474976710656:Int)/\∃(R:ShX->Prop),(∃(x:ShX),R x/\true=true/\(t=t/\Value.slice none qCE4 qCE4=Value.slice none qCE4 qCE4/\qCE7=qCE7/\ShX.b x_1=ShX.b x_1/\(qCE1 ws)/\(qCE1 ws)/\(qCE1 ws)/\(qCE6 ws)=(qCE6 ws)/\qCE7=(qCE5 x)/\
True)/\(l'=l'/\qCE4=qCE4)/\(List.replicate (Int.toNat (qCE3 ws)) qCE7=ShX.O x/\qCE4=qCE4)/\True)/\∀(x:ShX),R x->(decide ((qCE5 x)<(qCE6 ws))=true->(qCE7<=(qCE5 x)/\(qCE5 x)+qCEa<=(qCE6 ws))/\qCE4+Int.toNat (qCE5 x)+qCEg<=List.length l'/\∀(x_2:Prt),l'[qCE4+Int.toNat (qCE5 x)]? =some x_2->(decide ((qCE5 x)<ShX.b x_1)=true->(decide (t<qCE7)=true->(qCEb x_2 ws)/\qCE4<=qCE4+Int.toNat (Prt.idx x_2)/\qCE4+Int.toNat (Prt.idx x_2)+qCEg<=List.length (ShX.O x)/\∀(x_3:Int),(ShX.O x)[qCE4+Int.toNat (Prt.idx x_2)]? =some x_3->∃(x_4:ShX),R x_4/\x_4.4+qCEg<=x.4/\true=true/\(qCE2 t x_1 ws x x_4)/\(l'=l'/\qCE4=qCE4)/\(List.set (ShX.O x) (qCEh x_2) (wr IntKind.i64 (qCE7-wr IntKind.i64 (Prt.amt x_2+qCEa)))=ShX.O x_4/\qCE4=qCE4)/\True)/\(decide (t<qCE7)=false->(qCEb x_2 ws)/\qCE4<=qCE4+Int.toNat (Prt.idx x_2)/\qCE4+Int.toNat (Prt.idx x_2)+qCEg<=List.length (ShX.O x)/\∀(x_3:Int),(ShX.O x)[qCE4+Int.toNat (Prt.idx x_2)]? =some x_3->∃(x_4:ShX),R x_4/\x_4.4+qCEg<=x.4/\true=true/\(qCE2 t x_1 ws x x_4)/\(l'=l'/\qCE4=qCE4)/\(List.set (ShX.O x) (qCEh x_2) (wr IntKind.i64 (Prt.amt x_2+qCEa))=ShX.O x_4/\qCE4=qCE4)/\True))/\(decide ((qCE5 x)<ShX.b x_1)=false->(decide (t<qCE7)=true->(qCEb x_2 ws)/\qCE4<=qCE4+Int.toNat (Prt.idx x_2)/\qCE4+Int.toNat (Prt.idx x_2)+qCEg<=List.length (ShX.O x)/\∀(x_3:Int),(ShX.O x)[qCE4+Int.toNat (Prt.idx x_2)]? =some x_3->∃(x_4:ShX),R x_4/\x_4.4+qCEg<=x.4/\true=true/\(qCE2 t x_1 ws x x_4)/\(l'=l'/\qCE4=qCE4)/\(List.set (ShX.O x) (qCEh x_2) (wr IntKind.i64 (qCE7-Prt.amt x_2))=ShX.O x_4/\qCE4=qCE4)/\True)/\(decide (t<qCE7)=false->(qCEb x_2 ws)/\qCE4<=qCE4+Int.toNat (Prt.idx x_2)/\qCE4+Int.toNat (Prt.idx x_2)+qCEg<=List.length (ShX.O x)/\∀(x_3:Int),(ShX.O x)[qCE4+Int.toNat (Prt.idx x_2)]? =some x_3->∃(x_4:ShX),R x_4/\x_4.4+qCEg<=x.4/\true=true/\(qCE2 t x_1 ws x x_4)/\(l'=l'/\qCE4=qCE4)/\(List.set (ShX.O x) (qCEh x_2) (Prt.amt x_2)=ShX.O x_4/\qCE4=qCE4)/\True)))/\(decide ((qCE5 x)<(qCE6 ws))=false->(qCE4+Int.toNat (qCE3 ws)<=List.length (ShX.O x)/\List.take (Int.toNat (qCE3 ws)) (ShX.O x)=z)/\qCE7=e/\True))))))):=by kernel_rfl
structure MdX where
 q:Int
 r0:Int
 s:Int
 r:Nat
def Amd:Fr thy->Hp thy->Nat->Ann thy:=fun T h i=>{X:=MdX,fr:=fun x=> [(0,T 0),(1,T 1),(2,T 2),(6,T 6),(7,T 7),(8,.int false .i64 x.q),(9,.int false .i64 x.r0),(10,.int false .i64 x.s)],bl:=fun x=> [],src:=fun _=> [],md:= [],ih:=i,M:=i+40,meas:=fun x=>x.r}
def Fmd:Fns thy:=addL F9 20 4 Amd E
theorem Zwg:FnsOk E Fmd:=Zp E_ok Uh _ _ _
abbrev qCEi:=(0:Int)
abbrev qCEj (a0:Int) (b0:MdX):=(Int.tmod (Int.fdiv a0 ((2:Int)^min (Int.toNat (MdX.s b0)) (IntKind.bits IntKind.i64))) (2:Int)==(1:Int))
theorem Zhk (a w d:Int) (q m:Int):Zu E Fmd (vc E Fmd 400) 20 [.int false .i64 a,.int false .i64 w,.int false .i64 d] hp0 0 (fun r=>ret E (patch hp0 0 r) r.v (.tup [.int false .i64 q,.int false .i64 m]))=(
 ∃(R:MdX->Prop),(∃(x:MdX),R x/\true=true/\(a=a/\w=w/\d=d/\qCEi=qCEi/\qCEi=qCEi/\qCEi=MdX.q x/\qCEi=MdX.r0 x/\(53:Int)=MdX.s x/\True)/\True)/\∀(x:MdX),R x->(decide (MdX.s x>=qCEi)=true->qCEi<=MdX.s x/\((qCEj a x)=true->(d=qCEi->False)/\(d=qCEi->False)/\∃(x_1:MdX),R x_1/\x_1.4+(1:Nat)<=x.4/\true=true/\(a=a/\w=w/\d=d/\qCEi=qCEi/\qCEi=qCEi/\wr IntKind.i64 (wr IntKind.i64 ((2:Int)*MdX.q x)+wr IntKind.i64 (Int.tdiv (wr IntKind.i64 (wr IntKind.i64 ((2:Int)*MdX.r0 x)+w)) d))=MdX.q x_1/\Int.tmod (wr IntKind.i64 (wr IntKind.i64 ((2:Int)*MdX.r0 x)+w)) d=MdX.r0 x_1/\wr IntKind.i64 (MdX.s x-(1:Int))=MdX.s x_1/\True)/\True)/\((qCEj a x)=false->(d=qCEi->False)/\(d=qCEi->False)/\∃(x_1:MdX),R x_1/\x_1.4+(1:Nat)<=x.4/\true=true/\(a=a/\w=w/\d=d/\qCEi=qCEi/\qCEi=qCEi/\wr IntKind.i64 (wr IntKind.i64 ((2:Int)*MdX.q x)+wr IntKind.i64 (Int.tdiv (wr IntKind.i64 ((2:Int)*MdX.r0 x)) d))=MdX.q x_1/\Int.tmod (wr IntKind.i64 ((2:Int)*MdX.r0 x)) d=MdX.r0 x_1/\wr IntKind.i64 (MdX.s x-(1:Int))=MdX.s x_1/\True)/\True))/\(decide (MdX.s x>=qCEi)=false->MdX.q x=q/\MdX.r0 x=m/\True)):=by kernel_rfl
end
section
open Go Go.RowKit
theorem Zvb {q r d w P h b r1:Int} (hd:1<=d) (hinv:q*d+r=h*w) (hP:P=2*h+b) (hr1:r1=2*r+b*w):(2*q+r1/d)*d+r1%d=P*w:=by
 have e:=Int.mul_ediv_add_emod r1 d
 rw [Int.add_mul,Int.mul_assoc,Int.mul_comm (r1/d) d,hP,Int.add_mul,Int.mul_assoc,<-hinv]
 generalize q*d=z at*
 generalize b*w=y at*
 generalize d*(r1/d)=v at*
 generalize r1%d=u at*
 omega
theorem md_q {q r d w h:Int} (hd:1<=d) (hr:0<=r) (hw:w<=d) (hh:0<=h) (hinv:q*d+r=h*w):q<=h:=by
 have h1:h*w<=h*d:=Int.mul_le_mul_of_nonneg_left hw hh
 exact Int.le_of_mul_le_mul_right (show q*d<=h*d by omega) (by omega)
theorem Zvc (a w d:Int) (ha:0<=a) (ha2:a<=9007199254740992) (hw:0<=w) (hw2:w<=d) (hd:1<=d) (hd2:d<=2305843009213693952):PureC E 20 [.int false .i64 a,.int false .i64 w,.int false .i64 d] (.tup [.int false .i64 (a*w/d),.int false .i64 (a*w%d)]):=by
 refine Zb E_ok (Zc E_ok Zwg 400) ?_
 rw [Zhk]; delta qCEi qCEj
 refine ⟨fun x=>∃k:Nat,k<=54/\x.s=(k:Int)-1/\x.q*d+x.r0=a/2^k*w/\0<=x.r0/\x.r0<d/\0<=x.q/\x.r=k,⟨⟨0,0,53,54⟩,⟨54,Nat.le_refl _,rfl,?_,Int.le_refl _,by show (0:Int)<d;omega,Int.le_refl _,rfl⟩,rfl,⟨rfl,rfl,rfl,rfl,rfl,rfl,rfl,rfl,trivial⟩,trivial⟩,fun x hx=> ?_⟩
 · show (0:Int)*d+0=a/2^54*w
   rw [show a/2^54=0 by omega]
   simp
 obtain ⟨k,hk,hs,hinv,h0,h1,hq0,hr⟩:=hx
 refine ⟨fun h=> ?_,fun h=> ?_⟩
 · have h:=of_decide_eq_true h
   obtain ⟨j,rfl⟩:∃j,k=j+1:=⟨k-1,by omega⟩
   have hsj:x.s=(j:Int):=by omega
   have hA:a/2^(j+1)=a/2^j/2:=by
    rw [Int.pow_succ,Int.ediv_ediv_of_nonneg (by exact Int.pow_nonneg (by decide))]
   have hP0:0<=a/2^j:=Int.ediv_nonneg ha (Int.pow_nonneg (by decide))
   have hPa:a/2^j<=a:=Int.ediv_le_self _ ha
   have hf:Int.fdiv a ((2:Int)^min (Int.toNat x.s) (IntKind.bits IntKind.i64))=a/2^j:=by
    rw [hsj,Int.toNat_natCast,show min j (IntKind.bits IntKind.i64)=j from Nat.min_eq_left (by show j<=64;omega)]
    exact Int.fdiv_eq_ediv_of_nonneg _ (Int.pow_nonneg (by decide))
   rw [hA] at hinv
   rw [hf]
   generalize hPd:a/2^j=P at*
   have hq:=md_q hd h0 hw2 (by omega) hinv
   have ws:wr .i64 (x.s-1)=x.s-1:=wrk (by omega) (by omega)
   have w2q:wr .i64 (2*x.q)=2*x.q:=wrk (by omega) (by omega)
   have w2r:wr .i64 (2*x.r0)=2*x.r0:=wrk (by omega) (by omega)
   have hm:P.tmod 2=P%2:=Int.tmod_eq_emod_of_nonneg hP0
   rw [ws,w2q,w2r,hm]
   have dn:d=0->False:=by omega
   have st:∀b r1:Int,P=2*(P/2)+b->r1=2*x.r0+b*w->0<=r1->r1<=6917529027641081856->(wr .i64 (2*x.q+wr .i64 (r1.tdiv d))*d+r1.tmod d=P*w/\0<=wr .i64 (2*x.q+wr .i64 (r1.tdiv d)))/\0<=r1.tmod d/\r1.tmod d<d:=by
    intro b r1 e1 e2 e3 e4
    have g1:r1.tdiv d=r1/d:=Int.tdiv_eq_ediv_of_nonneg e3
    have g2:r1.tmod d=r1%d:=Int.tmod_eq_emod_of_nonneg e3
    have g3:0<=r1/d:=Int.ediv_nonneg e3 (by omega)
    have g4:r1/d<=r1:=Int.ediv_le_self _ e3
    rw [g1,g2,wrk (z:=r1/d) (by omega) (by omega),wrk (by omega) (by omega)]
    exact ⟨⟨Zvb hd hinv e1 e2,by omega⟩,Int.emod_nonneg _ (by omega),Int.emod_lt_of_pos _ (by omega)⟩
   refine ⟨by omega,fun hb=>⟨dn,dn,?_⟩,fun hb=>⟨dn,dn,?_⟩⟩
   · have hb:P%2=1:=beq_iff_eq.1 hb
     have w2w:wr .i64 (2*x.r0+w)=2*x.r0+w:=wrk (by omega) (by omega)
     rw [w2w]
     obtain ⟨⟨s1,s2⟩,s3,s4⟩:=st 1 (2*x.r0+w) (by omega) (by omega) (by omega) (by omega)
     exact ⟨⟨_,_,x.s-1,j⟩,⟨j,by omega,by show x.s-1=_;omega,by rw [hPd];exact s1,s3,s4,s2,rfl⟩,by show j+1<=x.r;omega,rfl,⟨rfl,rfl,rfl,rfl,rfl,rfl,rfl,rfl,trivial⟩,trivial⟩
   · have hb:P%2=0:=by
      have:P%2≠1:=beq_eq_false_iff_ne.1 hb
      omega
     obtain ⟨⟨s1,s2⟩,s3,s4⟩:=st 0 (2*x.r0) (by omega) (by omega) (by omega) (by omega)
     exact ⟨⟨_,_,x.s-1,j⟩,⟨j,by omega,by show x.s-1=_;omega,by rw [hPd];exact s1,s3,s4,s2,rfl⟩,by show j+1<=x.r;omega,rfl,⟨rfl,rfl,rfl,rfl,rfl,rfl,rfl,rfl,trivial⟩,trivial⟩
 · have h:=of_decide_eq_false h
   obtain rfl:k=0:=by omega
   rw [Int.pow_zero,Int.ediv_one] at hinv
   have e1:a*w/d=x.q:=by
    rw [<-hinv,Int.add_comm,Int.add_mul_ediv_right _ _ (by omega),Int.ediv_eq_zero_of_lt h0 h1,Int.zero_add]
   have e2:a*w%d=x.r0:=by
    rw [<-hinv,Int.add_comm,Int.add_mul_emod_self_right,Int.emod_eq_of_lt h0 h1]
   exact ⟨e1.symm,e2.symm,trivial⟩
def okW (w:Int):Bool:=decide (0<=w)&&decide (w<=9007199254740992)
def Yn (t:Int) (ws:List Int):List Int×Int:=
 if 256<ws.length then ([],2) else if ws.all okW=false then ([],1) else if ws.sum=0 then ([],1) else if inR t=false then ([],3) else (outP (decide (t<0)) t.natAbs ws,0)
theorem Zar:∀{l:List Int},l.all okW=true->0<=l.sum/\l.sum<=9007199254740992*l.length/\∀w∈l,0<=w/\w<=9007199254740992/\w<=l.sum
 | [],_=>⟨by simp,by simp,fun w hw=>by cases hw⟩
 |x::l,h=>by
  rw [List.all_cons,Bool.and_eq_true] at h
  obtain ⟨h1,h2⟩:=h
  obtain ⟨k1,k2,k3⟩:=Zar h2
  have hx:0<=x/\x<=9007199254740992:=by
   unfold okW at h1
   rw [Bool.and_eq_true,decide_eq_true_eq,decide_eq_true_eq] at h1
   exact h1
  rw [List.sum_cons,List.length_cons]
  refine ⟨by omega,by omega,fun w hw=> ?_⟩
  rcases List.mem_cons.1 hw with rfl|hw
  · omega
  · have:=k3 w hw
    omega
theorem Yq {α:Type} {l:List α} {k:Nat} {x:α} (h:l[k]? =some x):l.take (k+1)=l.take k++ [x]:=by
 rw [List.take_add_one,h]
 rfl
theorem Zox (A S:Int):∀(k:Nat) (l m:List Int),mkP A S k (l++m)=mkP A S k l++mkP A S (k+l.length) m
 |k,[],m=>rfl
 |k,w::r,m=>by
  show _::mkP A S (k+1) (r++m)=_::(mkP A S (k+1) r++_)
  rw [Zox A S (k+1) r m,List.length_cons,show k+1+r.length=k+(r.length+1) by omega]
theorem Zjz (A S:Int):∀(k:Nat) (l:List Int),(mkP A S k l).Pairwise fun (p q:Prt)=>p.idx<q.idx
 |_,[]=>List.Pairwise.nil
 |k,w::r=>by
  refine List.pairwise_cons.2 ⟨fun p hp=> ?_,Zjz A S (k+1) r⟩
  obtain ⟨i,v,h1,rfl⟩:=Wk hp
  show (k:Int)<((k+1+i:Nat):Int)
  omega
theorem Ztj (a b:List Prt):sA (a++b)=sA a+sA b:=by simp [sA]
theorem Zoy {A S:Int} (hA:0<=A) (hS:0<S) {l m:List Int} (hl:∀w∈l,0<=w) (hm:0<=m.sum) (hs:(l++m).sum=S):0<=sA (mkP A S 0 l)/\sA (mkP A S 0 l)<=A:=by
 have e:=Zhi A S 0 l
 have hb:=Zd2 (S:=S) (mkP A S 0 l) fun p hp=>by
  obtain ⟨i,w,h1,rfl⟩:=Wk hp
  exact ⟨Int.emod_nonneg _ (by omega),Int.emod_lt_of_pos _ hS⟩
 have hnn:0<=sA (mkP A S 0 l):=by
  have:∀P:List Prt,(∀p∈P,0<=p.amt)->0<=sA P:=by
   intro P
   induction P with
   |nil=>intro _;exact Int.le_refl _
   |cons p P ih=>
    intro h
    rw [Zhg]
    have:=h p (by simp)
    have:=ih fun q hq=>h q (by simp [hq])
    omega
  refine this _ fun p hp=> ?_
  obtain ⟨i,w,h1,rfl⟩:=Wk hp
  exact Int.ediv_nonneg (Int.mul_nonneg hA (hl w (List.mem_iff_getElem?.2 ⟨i,h1⟩))) (by omega)
 refine ⟨hnn,?_⟩
 rw [List.sum_append] at hs
 have h1:A*l.sum<=A*S:=Int.mul_le_mul_of_nonneg_left (by omega) hA
 exact Int.le_of_mul_le_mul_right (show sA (mkP A S 0 l)*S<=A*S by omega) hS
end
section
open Go Go.RowKit
theorem Zl4 (t:Int) (ws:List Int):PureC E 7 [.int false .i64 t,.psl Th.ints ws false] (.tup [.psl Th.ints (Yn t ws).1 false,.int false .i64 (Yn t ws).2]):=by
 refine Zb E_ok (Zc E_ok Zwf 400) ?_
 rw [Zk4]; delta qCE3 qCE8 qCE4 qCE7 qCE5 qCEa qCE9 qCEg qCEe qCEf qCE1 qCEc qCEd qCE6 qCEb qCE2 qCEh
 refine ⟨fun h=> ?_,fun h=> ?_⟩
 · have h:=of_decide_eq_true h
   unfold Yn
   rw [if_pos (by omega)]
   exact ⟨rfl,rfl,trivial⟩
 have h:=of_decide_eq_false h
 have hlen:ws.length<=256:=by omega
 have e0:Yn t ws=(if ws.all okW=false then ([],1) else if ws.sum=0 then ([],1) else if inR t=false then ([],3) else (outP (decide (t<0)) t.natAbs ws,0)):=by
  unfold Yn
  rw [if_neg (by omega)]
 have bad:∀(k:Nat) (w:Int),ws[k]? =some w->okW w=false-> []=(Yn t ws).1/\(1:Int)=(Yn t ws).2/\True:=by
  intro k w hk hw
  have:ws.all okW=false:=by
   rw [List.all_eq_false]
   exact ⟨w,List.mem_iff_getElem?.2 ⟨k,hk⟩,by rw [hw];decide⟩
  rw [e0,if_pos this]
  exact ⟨rfl,rfl,trivial⟩
 refine ⟨fun x=>x.k<=ws.length/\(ws.take x.k).all okW=true/\x.a=(ws.take x.k).sum/\x.r=ws.length-x.k,⟨⟨0,0,0,ws.length,[],[]⟩,⟨Nat.zero_le _,rfl,rfl,rfl⟩,rfl,⟨rfl,⟨rfl,fun h=>h⟩,rfl,rfl,rfl,⟨rfl,fun h=>h⟩,rfl,rfl,trivial⟩,trivial⟩,fun x hx=> ?_⟩
 obtain ⟨hk,hall,ha,hr⟩:=hx
 obtain ⟨s1,s2,s3⟩:=Zar hall
 have htl:(ws.take x.k).length<=256:=by rw [List.length_take];omega
 refine ⟨fun h1=> ?_,fun h1=>⟨fun h2=> ?_,fun h2=> ?_⟩⟩
 · have h1:=of_decide_eq_true h1
   refine ⟨by omega,by omega,fun w hw=>⟨fun h2=> ?_,fun h2=> ?_⟩⟩
   · have hw:ws[x.k]? =some w:=hw
     have h2:=of_decide_eq_true h2
     have hb:=bad x.k w hw (by unfold okW;simp;omega)
     exact ⟨hb.1.symm,hb.2⟩
   · have hw:ws[x.k]? =some w:=hw
     have h2:=of_decide_eq_false h2
     refine ⟨fun b=>b=decide (9007199254740992<w),⟨fun h3=>absurd (of_decide_eq_true h3) (by omega),fun _=>⟨fun h3=>(decide_eq_true (of_decide_eq_true h3)).symm,fun h3=>(decide_eq_false (of_decide_eq_false h3)).symm⟩⟩,fun q=> ?_,fun q=> ?_⟩
     · have q:=of_decide_eq_true q.symm
       have hb:=bad x.k w hw (by unfold okW;simp;omega)
       exact ⟨hb.1.symm,hb.2⟩
     · have q:=of_decide_eq_false q.symm
       have hsn:=Yq hw
       have w1:wr .u64 w=w:=by rw [wu64];omega
       have w2:wr .u64 (x.a+w)=x.a+w:=by rw [wu64];omega
       have w3:wr .i64 ((x.k:Int)+1)=(x.k:Int)+1:=wrk (by omega) (by omega)
       rw [w1,w2,w3]
       refine ⟨⟨x.a+w,0,x.k+1,ws.length-(x.k+1),[],[]⟩,⟨by show x.k+1<=ws.length;omega,?_,?_,rfl⟩,by show ws.length-(x.k+1)+1<=x.r;omega,rfl,⟨rfl,⟨rfl,fun h=>h⟩,rfl,rfl,rfl,⟨rfl,fun h=>h⟩,rfl,rfl,trivial⟩,trivial⟩
       · show (ws.take (x.k+1)).all okW=true
         rw [hsn,List.all_append,hall,Bool.true_and,List.all_cons,List.all_nil,Bool.and_true]
         unfold okW;simp;omega
       · show x.a+w=(ws.take (x.k+1)).sum
         rw [hsn,List.sum_append,ha];simp
 · have h1:=of_decide_eq_false h1
   have hkl:x.k=ws.length:=by omega
   rw [hkl,List.take_length] at ha hall
   have h2:x.a=0:=beq_iff_eq.1 h2
   rw [e0,if_neg (by rw [hall];decide),if_pos (by omega)]
   exact ⟨rfl,rfl,trivial⟩
 have h1:=of_decide_eq_false h1
 have hkl:x.k=ws.length:=by omega
 rw [hkl,List.take_length] at ha hall s1 s2 s3
 have h2:x.a≠0:=beq_eq_false_iff_ne.1 h2
 have hS:0<ws.sum:=by omega
 have e1:Yn t ws=(if inR t=false then ([],3) else (outP (decide (t<0)) t.natAbs ws,0)):=by
  rw [e0,if_neg (by rw [hall];decide),if_neg (by omega)]
 refine ⟨fun b=>b= !inR t,⟨fun h3=> ?_,fun h3=>⟨fun h4=> ?_,fun h4=> ?_⟩⟩,fun q=> ?_,fun q=> ?_⟩
 · have h3:=of_decide_eq_true h3
   unfold inR;simp;omega
 · have h4:=of_decide_eq_true h4
   unfold inR;simp;omega
 · have h3:=of_decide_eq_false h3
   have h4:=of_decide_eq_false h4
   unfold inR;simp;omega
 · have q:inR t=false:=by simpa using q.symm
   rw [e1,if_pos q]
   exact ⟨rfl,rfl,trivial⟩
 have q:inR t=true:=by simpa using q.symm
 have hin: -9007199254740992<=t/\t<=9007199254740992:=by
  unfold inR at q
  simpa using q
 have e2:Yn t ws=(outP (decide (t<0)) t.natAbs ws,0):=by rw [e1,if_neg (by rw [q];decide)]
 rw [e2]
 obtain ⟨A,hA⟩:∃A:Nat,A=t.natAbs:=⟨_,rfl⟩
 have hA2:A<=9007199254740992:=by omega
 have wA:wr .i64 ((A:Nat):Int)=A:=wrk (by omega) (by omega)
 refine ⟨hin,fun y hy=> ?_⟩
 rw [<-hA] at hy⊢
 rw [hy,wA]
 have hl1:(ws.length:Int).toNat=ws.length:=Int.toNat_natCast _
 rw [hl1,ha]
 refine ⟨by omega,Int.le_refl _,by omega,?_⟩
 refine ⟨fun x=>x.k<=ws.length/\x.L=mkP A ws.sum 0 (ws.take x.k)++List.replicate (ws.length-x.k) (Prt.mk 0 0 0)/\x.b=A-sA (mkP A ws.sum 0 (ws.take x.k))/\x.r=ws.length-x.k,
  ⟨⟨0,A,0,ws.length,List.replicate ws.length (Prt.mk 0 0 0),[]⟩,⟨Nat.zero_le _,by simp [mkP],by simp [mkP,sA],rfl⟩,rfl,⟨rfl,⟨rfl,fun h=>h⟩,rfl,rfl,rfl,rfl,⟨rfl,rfl,rfl⟩,⟨rfl,fun h=>h⟩,rfl,rfl,trivial⟩,⟨rfl,rfl⟩,trivial⟩,fun x2 hx2=> ?_⟩
 obtain ⟨hk2,hL2,hb2,hr2⟩:=hx2
 have hLl:x2.L.length=ws.length:=by rw [hL2,List.length_append,U4,List.length_take,List.length_replicate];omega
 refine ⟨fun h3=> ?_,fun h3=> ?_⟩
 · have h3:=of_decide_eq_true h3
   refine ⟨by omega,by omega,fun w hw=> ?_⟩
   have hw:ws[x2.k]? =some w:=hw
   obtain ⟨v1,v2,v3⟩:=s3 w (List.mem_iff_getElem?.2 ⟨x2.k,hw⟩)
   have w1:wr .u64 w=w:=by rw [wu64];omega
   refine ⟨hin,fun y hy=> ?_⟩
   rw [hy,w1]
   obtain ⟨W,rfl⟩:=Int.eq_ofNat_of_zero_le v1
   obtain ⟨S,hSn⟩:=Int.eq_ofNat_of_zero_le (show 0<=ws.sum by omega)
   rw [hSn]
   rw [hSn] at v3 hS
   have hAW:A*W<=9007199254740992*W:=Nat.mul_le_mul_right _ hA2
   have hWS:W<=S:=by omega
   have hS2:S<=2305843009213693952:=by omega
   refine ⟨⟨⟨by omega,by omega⟩,by omega,by omega⟩,fun y1 hy1=> ?_⟩
   simp only [Int.toNat_natCast] at hy1
   subst hy1
   have hdiv:A*W/18446744073709551616<S:=by
    refine Nat.div_lt_of_lt_mul ?_
    have:9007199254740992*W<=9007199254740992*S:=Nat.mul_le_mul_left _ hWS
    omega
   refine ⟨⟨⟨by show (0:Int)<=((A*W/18446744073709551616:Nat):Int);omega,by show ((A*W/18446744073709551616:Nat):Int)+1<=(S:Int);omega⟩,⟨by show (0:Int)<=((A*W%18446744073709551616:Nat):Int);omega,by show ((A*W%18446744073709551616:Nat):Int)+1<=_;omega⟩,by omega⟩,fun y2 hy2=> ?_⟩
   have hy2:y2=(((A*W/S:Nat):Int),((A*W%S:Nat):Int)):=by
    rw [hy2]
    simp only [Int.toNat_natCast]
    rw [Nat.div_add_mod' (A*W) 18446744073709551616]
   have hqA:A*W/S<=A:=by
    refine Nat.div_le_of_le_mul ?_
    rw [Nat.mul_comm S A]
    exact Nat.mul_le_mul_left _ hWS
   obtain ⟨Q,hQ⟩:∃Q,A*W/S=Q:=⟨_,rfl⟩
   obtain ⟨M,hM⟩:∃M,A*W%S=M:=⟨_,rfl⟩
   have hsn:=Yq hw
   have htk:(ws.take x2.k).length=x2.k:=by rw [List.length_take];omega
   have hmk:mkP A S 0 (ws.take (x2.k+1))=mkP A S 0 (ws.take x2.k)++ [⟨(x2.k:Int),(Q:Int),(M:Int)⟩]:=by
    rw [hsn,Zox,htk,Nat.zero_add,<-hQ,<-hM]
    show _++ [Prt.mk _ _ _]=_
    rw [Int.natCast_ediv,Int.natCast_emod,Int.natCast_mul]
   rw [hQ,hM] at hy2
   rw [hQ] at hqA
   clear hQ hM
   subst hy2
   have w2:wr .i64 (Q:Int)=Q:=wrk (by omega) (by omega)
   rw [hSn] at hL2 hb2
   have hbd:=Zoy (A:=A) (S:=S) (l:=ws.take (x2.k+1)) (m:=ws.drop (x2.k+1)) (by omega) hS (fun v hv=>(s3 v (List.mem_of_mem_take hv)).1) (Zar (List.all_eq_true.2 fun v hv=>List.all_eq_true.1 hall v (List.mem_of_mem_drop hv))).1 (by rw [List.take_append_drop,hSn])
   rw [hmk,Ztj] at hbd
   have hone:sA [(⟨(x2.k:Int),(Q:Int),(M:Int)⟩:Prt)]=(Q:Int):=by simp [sA]
   rw [hone] at hbd
   have hbd0:=Zoy (A:=A) (S:=S) (l:=ws.take x2.k) (m:=ws.drop x2.k) (by omega) hS (fun v hv=>(s3 v (List.mem_of_mem_take hv)).1) (Zar (List.all_eq_true.2 fun v hv=>List.all_eq_true.1 hall v (List.mem_of_mem_drop hv))).1 (by rw [List.take_append_drop,hSn])
   have w3:wr .i64 (x2.b-(Q:Int))=x2.b-(Q:Int):=wrk (by omega) (by omega)
   have w4:wr .i64 ((x2.k:Int)+1)=(x2.k:Int)+1:=wrk (by omega) (by omega)
   simp only [w2,w3,w4,Int.toNat_natCast,Nat.zero_add]
   refine ⟨⟨by omega,by omega⟩,by omega,by omega,fun x3 _=>⟨⟨0,x2.b-(Q:Int),x2.k+1,ws.length-(x2.k+1),_,[]⟩,⟨by show x2.k+1<=ws.length;omega,?_,?_,rfl⟩,by show ws.length-(x2.k+1)+1<=x2.r;omega,trivial,⟨trivial,⟨trivial,fun h=>h⟩,trivial,trivial,trivial,rfl,⟨trivial,trivial,trivial⟩,⟨trivial,fun h=>h⟩,trivial,rfl,trivial⟩,⟨rfl,trivial⟩,trivial⟩⟩
   · show x2.L.set x2.k _=mkP A S 0 (ws.take (x2.k+1))++List.replicate (ws.length-(x2.k+1)) _
     rw [hmk,hL2]
     have hlm:(mkP A S 0 (ws.take x2.k)).length=x2.k:=by rw [U4,htk]
     rw [show ws.length-x2.k=(ws.length-(x2.k+1))+1 by omega,List.replicate_succ,List.set_append_right _ _ (by omega),hlm,Nat.sub_self,List.set_cons_zero]
     simp
   · show x2.b-_=(A:Int)-sA (mkP A S 0 (ws.take (x2.k+1)))
     rw [hmk,Ztj,hone]
     omega
 · have h3:=of_decide_eq_false h3
   have hk3:x2.k=ws.length:=by omega
   rw [hk3,List.take_length] at hL2 hb2
   rw [Nat.sub_self,List.replicate_zero,List.append_nil] at hL2
   refine ⟨⟨hLl.symm,by omega,by omega,by rw [hL2];exact Zjz _ _ _ _⟩,fun l' hl'=>⟨by omega,Int.le_refl _,by omega,?_⟩⟩
   have hl':l'=srtU Prt.rest Prt.idx (mkP A ws.sum 0 ws):=by rw [hl',hL2]
   have hll:l'.length=ws.length:=by rw [hl',Y7,U4]
   have hsA:=W6 (A:=A) (ws:=ws) (by omega) hS
   have hmem:∀p∈l',∃(i:Nat) (w:Int),ws[i]? =some w/\p=⟨(i:Int),A*w/ws.sum,A*w%ws.sum⟩:=by
    intro p hp
    rw [hl'] at hp
    obtain ⟨i,w,k1,k2⟩:=Wk ((Zs (mkP A ws.sum 0 ws)).mem_iff.1 hp)
    exact ⟨i,w,k1,by rw [k2,Nat.zero_add]⟩
   refine ⟨fun x=>x.k<=ws.length/\x.O.length=ws.length/\putL (decide (t<0)) x2.b x.k (l'.drop x.k) x.O=outP (decide (t<0)) A ws/\x.r=ws.length-x.k,
    ⟨⟨0,0,0,ws.length,[],List.replicate ws.length 0⟩,⟨Nat.zero_le _,List.length_replicate,?_,rfl⟩,rfl,⟨rfl,rfl,rfl,rfl,⟨rfl,rfl,rfl⟩,⟨rfl,rfl,rfl⟩,⟨rfl,rfl,rfl⟩,rfl,rfl,trivial⟩,⟨rfl,rfl⟩,⟨rfl,rfl⟩,trivial⟩,fun x4 hx4=> ?_⟩
   · show putL (decide (t<0)) x2.b 0 l' (List.replicate ws.length 0)=outP (decide (t<0)) A ws
     unfold outP
     rw [hb2,hl']
   obtain ⟨hk4,hO4,hp4,hr4⟩:=hx4
   have w4:wr .i64 ((x4.k:Int)+1)=(x4.k:Int)+1:=wrk (by omega) (by omega)
   refine ⟨fun h5=> ?_,fun h5=> ?_⟩
   · have h5:=of_decide_eq_true h5
     refine ⟨⟨by omega,by omega⟩,by rw [Int.toNat_natCast];omega,fun p hp=> ?_⟩
     rw [Int.toNat_natCast,Nat.zero_add] at hp
     obtain ⟨i,w,hi,hpe⟩:=hmem p (List.mem_iff_getElem?.2 ⟨x4.k,hp⟩)
     have hil:i<ws.length:=(gA9.1 hi).1
     obtain ⟨v1,v2,v3⟩:=s3 w (List.mem_iff_getElem?.2 ⟨i,hi⟩)
     have hidx:p.idx=(i:Int):=by rw [hpe]
     have hamt:0<=p.amt/\p.amt<=A:=by
      rw [hpe]
      refine ⟨Int.ediv_nonneg (Int.mul_nonneg (by omega) v1) (by omega),?_⟩
      refine Int.ediv_le_of_le_mul hS ?_
      exact Int.mul_le_mul_of_nonneg_left v3 (by omega)
     have hstep:∀v:Int,v=valP (decide (t<0)) x2.b x4.k p->putL (decide (t<0)) x2.b (x4.k+1) (l'.drop (x4.k+1)) (x4.O.set i v)=outP (decide (t<0)) A ws:=by
      intro v hv
      rw [<-hp4]
      obtain ⟨hlt,hge⟩:=gA9.1 hp
      rw [List.drop_eq_getElem_cons hlt,hge,hv]
      show _=putL _ _ (x4.k+1) _ (x4.O.set p.idx.toNat _)
      rw [hidx,Int.toNat_natCast]
     have done:∀v:Int,v=valP (decide (t<0)) x2.b x4.k p->((0<=p.idx/\p.idx+1<=(ws.length:Int))/\(0:Nat)<=0+p.idx.toNat/\0+p.idx.toNat+1<=x4.O.length/\∀x3:Int,x4.O[0+p.idx.toNat]? =some x3->∃x5:ShX,(x5.k<=ws.length/\x5.O.length=ws.length/\putL (decide (t<0)) x2.b x5.k (l'.drop x5.k) x5.O=outP (decide (t<0)) A ws/\x5.r=ws.length-x5.k)/\x5.r+1<=x4.r/\true=true/\
      (t=t/\Value.slice none 0 0=Value.slice none 0 0/\(0:Int)=0/\x2.b=x2.b/\((0:Nat)=0/\ws.length=ws.length/\ws.length=ws.length)/\((0:Nat)=0/\ws.length=ws.length/\ws.length=ws.length)/\((0:Nat)=0/\ws.length=ws.length/\ws.length=ws.length)/\(ws.length:Int)=ws.length/\wr .i64 ((x4.k:Int)+1)=(x5.k:Int)/\True)/\(l'=l'/\(0:Nat)=0)/\(x4.O.set (0+p.idx.toNat) v=x5.O/\(0:Nat)=0)/\True):=by
      intro v hv
      rw [hidx,Int.toNat_natCast,Nat.zero_add]
      refine ⟨⟨by omega,by omega⟩,by omega,by omega,fun _ _=>⟨⟨0,0,x4.k+1,ws.length-(x4.k+1),[],x4.O.set i v⟩,⟨by show x4.k+1<=_;omega,by show (x4.O.set i v).length=_;rw [List.length_set];exact hO4,hstep v hv,rfl⟩,by show ws.length-(x4.k+1)+1<=x4.r;omega,rfl,⟨rfl,rfl,rfl,rfl,⟨rfl,rfl,rfl⟩,⟨rfl,rfl,rfl⟩,⟨rfl,rfl,rfl⟩,rfl,w4,trivial⟩,⟨rfl,rfl⟩,⟨rfl,rfl⟩,trivial⟩⟩
     have w5:wr .i64 (p.amt+1)=p.amt+1:=wrk (by omega) (by omega)
     have w6:wr .i64 (0-(p.amt+1))= -(p.amt+1):=by rw [wrk (by omega) (by omega)];omega
     have w7:wr .i64 (0-p.amt)= -p.amt:=by rw [wrk (by omega) (by omega)];omega
     rw [w5,w6,w7]
     refine ⟨fun h6=>⟨fun h7=> ?_,fun h7=> ?_⟩,fun h6=>⟨fun h7=> ?_,fun h7=> ?_⟩⟩
     · exact done _ (by unfold valP;rw [if_pos h7,if_pos (of_decide_eq_true h6)])
     · exact done _ (by unfold valP;rw [if_neg (by rw [h7];decide),if_pos (of_decide_eq_true h6)])
     · exact done _ (by unfold valP;rw [if_pos h7,if_neg (of_decide_eq_false h6)])
     · exact done _ (by unfold valP;rw [if_neg (by rw [h7];decide),if_neg (of_decide_eq_false h6)])
   · have h5:=of_decide_eq_false h5
     have hk5:x4.k=ws.length:=by omega
     rw [hk5,<-hll,List.drop_length] at hp4
     have hp4:x4.O=outP (decide (t<0)) A ws:=hp4
     refine ⟨⟨by omega,?_⟩,rfl,trivial⟩
     rw [List.take_of_length_le (by omega)]
     exact hp4
def SshM:Sum thy:=Zfy E gthI 4 (dL2 dN Zij) (fun _=>True) (fun x=>Yn x.1 x.2.1) fun y=> .tup [.psl Th.ints y.1 false,.int false .i64 y.2]
end
section
open Go Go.RowKit
theorem Zuc:SumOk E 7 SshM:=W7 E_ok (Zg (f:=7) rfl) fun x _=>Zl4 x.1 x.2.1
def SmdM:Sum thy:=Xe (dL3 dN dN dN) (fun x=>0<=x.1/\x.1<=9007199254740992/\0<=x.2.1/\x.2.1<=x.2.2.1/\1<=x.2.2.1/\x.2.2.1<=2305843009213693952) (fun x=>(x.1*x.2.1/x.2.2.1,x.1*x.2.1%x.2.2.1)) U2
theorem Znn:SumOk E 20 SmdM:=Zq E_ok (Zg (f:=20) rfl) fun x h=>Zvc x.1 x.2.1 x.2.2.1 h.1 h.2.1 h.2.2.1 h.2.2.2.1 h.2.2.2.2.1 h.2.2.2.2.2
theorem Zno (t:Int) (v:Int):Zu E F9 (vc E F9 400) 21 [.int false .i64 t] hp0 0 (fun r=>ret E (patch hp0 0 r) r.v (.int false .i64 v))=(
(decide (t<(0:Int))=true->wr IntKind.i64 ((0:Int)-t)=v)/\(decide (t<(0:Int))=false->t=v)):=by kernel_rfl
theorem Znp (t:Int) (h: -9007199254740993<=t/\t<=9007199254740993):PureC E 21 [.int false .i64 t] (.int false .i64 (t.natAbs:Int)):=by
 refine Zb E_ok (Zc E_ok Uh 400) ?_
 rw [Zno]
 refine ⟨fun k=> ?_,fun k=> ?_⟩
 · have k:=of_decide_eq_true k
   rw [wrk (by omega) (by omega)];omega
 · have k:=of_decide_eq_false k
   omega
def Ztc:Sum thy:=Xe (dL1 dN) (fun x=> -9007199254740993<=x.1/\x.1<=9007199254740993) (fun x=>x.1.natAbs) fun (y:Nat)=> .int false .i64 (y:Int)
theorem Znq:SumOk E 21 Ztc:=Zq E_ok (Zg (f:=21) rfl) fun x h=>Znp x.1 h
structure WeX where
 f:Bool
 k:Nat
 r:Nat
def Awe:Fr thy->Hp thy->Nat->Ann thy:=fun T h i=>{X:=WeX,fr:=fun x=> [(0,T 0),(2,T 2),(3,.bool false x.f),(4,.int false .i64 x.k)],bl:=fun x=> [],src:=fun _=> [],md:= [],ih:=i,M:=i+40,meas:=fun x=>x.r}
def Fwe:Fns thy:=addL F9 17 5 Awe E
theorem Zwp:FnsOk E Fwe:=Zp E_ok Uh _ _ _
abbrev qCH1 (a0:WeX):=(↑(WeX.k a0):Int)
abbrev qCH2:=(0:Int)
abbrev qCH3:=(false=true->false=true)
abbrev qCH4 (a0:List Int):=(↑(List.length a0):Int)
abbrev qCH5 (a0:List Int) (b0:WeX) (c0:WeX):=((a0=a0/\qCH3)/\qCH2=qCH2/\true=WeX.f b0/\wr IntKind.i64 ((qCH1 c0)+(1:Int))=(qCH1 b0)/\True)
theorem Zfu (ws:List Int) (e:Int):Zu E Fwe (vc E Fwe 400) 17 [.psl .ints ws false] hp0 0 (fun r=>ret E (patch hp0 0 r) r.v (.int false .i64 e))=(
 (decide ((qCH4 ws)>(256:Int))=true->(2:Int)=e)/\(decide ((qCH4 ws)>(256:Int))=false->∃(R:WeX->Prop),(∃(x:WeX),R x/\true=true/\((ws=ws/\qCH3)/\qCH2=qCH2/\false=WeX.f x/\qCH2=(qCH1 x)/\True)/\True)/\∀(x:WeX),R x->(decide ((qCH1 x)<(qCH4 ws))=true->∃(Q:Bool->Prop),(qCH2<=(qCH1 x)/\(qCH1 x)+(1:Int)<=(qCH4 ws)/\∀(x_1:Int),ws[Int.toNat (qCH1 x)]? =some x_1->(decide (x_1<qCH2)=true->Q true)/\(decide (x_1<qCH2)=false->qCH2<=(qCH1 x)/\(qCH1 x)+(1:Int)<=(qCH4 ws)/\∀(x_2:Int),ws[Int.toNat (qCH1 x)]? =some x_2->(decide (x_2>(9007199254740992:Int))=true->Q true)/\(decide (x_2>(9007199254740992:Int))=false->Q false)))/\(Q true->(1:Int)=e)/\(Q false->(WeX.f x=true->∃(x_1:WeX),R x_1/\x_1.3+(1:Nat)<=x.3/\true=true/\(qCH5 ws x_1 x)/\True)/\(WeX.f x=false->qCH2<=(qCH1 x)/\(qCH1 x)+(1:Int)<=(qCH4 ws)/\∀(x_1:Int),ws[Int.toNat (qCH1 x)]? =some x_1->(decide (x_1>qCH2)=true->∃(x_2:WeX),R x_2/\x_2.3+(1:Nat)<=x.3/\true=true/\(qCH5 ws x_2 x)/\True)/\(decide (x_1>qCH2)=false->∃(x_2:WeX),R x_2/\x_2.3+(1:Nat)<=x.3/\true=true/\((ws=ws/\qCH3)/\qCH2=qCH2/\false=WeX.f x_2/\wr IntKind.i64 ((qCH1 x)+(1:Int))=(qCH1 x_2)/\True)/\True))))/\(decide ((qCH1 x)<(qCH4 ws))=false->((!WeX.f x)=true->(1:Int)=e)/\((!WeX.f x)=false->qCH2=e)))):=by kernel_rfl
def Ato:Fr thy->Hp thy->Nat->Ann thy:=fun T h i=>{X:=ShX,fr:=fun x=> [(0,T 0),(2,T 2),(3,.int false .i64 x.a),(4,.int false .i64 x.k)],bl:=fun x=> [],src:=fun _=> [],md:= [],ih:=i,M:=i+40,meas:=fun x=>x.r}
def Fto:Fns thy:=addL F9 19 3 Ato E
theorem Zwq:FnsOk E Fto:=Zp E_ok Uh _ _ _
theorem Zlh (ws:List Int) (e:Int):Zu E Fto (vc E Fto 400) 19 [.psl .ints ws false] hp0 0 (fun r=>ret E (patch hp0 0 r) r.v (.int false .i64 e))=(
∃(R:ShX->Prop),(∃(x:ShX),R x/\true=true/\((ws=ws/\(false=true->false=true))/\(0:Int)=(0:Int)/\(0:Int)=ShX.a x/\(0:Int)=(↑(ShX.k x):Int)/\True)/\True)/\∀(x:ShX),R x->(decide ((↑(ShX.k x):Int)<(↑(List.length ws):Int))=true->(0:Int)<=(↑(ShX.k x):Int)/\(↑(ShX.k x):Int)+(1:Int)<=(↑(List.length ws):Int)/\∀(x_1:Int),ws[Int.toNat (↑(ShX.k x):Int)]? =some x_1->∃(x_2:ShX),R x_2/\x_2.4+(1:Nat)<=x.4/\true=true/\((ws=ws/\(false=true->false=true))/\(0:Int)=(0:Int)/\wr IntKind.i64 (ShX.a x+x_1)=ShX.a x_2/\wr IntKind.i64 ((↑(ShX.k x):Int)+(1:Int))=(↑(ShX.k x_2):Int)/\True)/\True)/\(decide ((↑(ShX.k x):Int)<(↑(List.length ws):Int))=false->ShX.a x=e)):=by kernel_rfl
def weF (ws:List Int):Int:=if 256<ws.length then 2 else if ws.all okW=false then 1 else if ws.sum=0 then 1 else 0
def SweM:Sum thy:=Zfy E gthI 4 (.cons Zij .nil) (fun _=>True) (fun x=>weF x.1) fun y=> .int false .i64 y
def StoM:Sum thy:=Zfy E gthI 4 (.cons Zij .nil) (fun x=>x.1.all okW=true/\x.1.length<=256) (fun x=>x.1.sum) fun y=> .int false .i64 y
end
section
open Go Go.RowKit
theorem Zff (ws:List Int):PureC E 17 [.psl .ints ws false] (.int false .i64 (weF ws)):=by
 refine Zb E_ok (Zc E_ok Zwp 400) ?_
 rw [Zfu]; delta qCH4 qCH3 qCH2 qCH1 qCH5
 refine ⟨fun h=> ?_,fun h=> ?_⟩
 · have h:=of_decide_eq_true h
   unfold weF
   rw [if_pos (by omega)]
 have h:=of_decide_eq_false h
 have hlen:ws.length<=256:=by omega
 have e0:weF ws=(if ws.all okW=false then 1 else if ws.sum=0 then 1 else 0):=by
  unfold weF
  rw [if_neg (by omega)]
 refine ⟨fun x=>x.k<=ws.length/\(ws.take x.k).all okW=true/\x.f= !decide ((ws.take x.k).sum=0)/\x.r=ws.length-x.k,⟨⟨false,0,ws.length⟩,⟨Nat.zero_le _,rfl,rfl,rfl⟩,rfl,⟨⟨rfl,fun h=>h⟩,rfl,rfl,rfl,trivial⟩,trivial⟩,fun x hx=> ?_⟩
 obtain ⟨hk,hall,hf,hr⟩:=hx
 obtain ⟨s1,s2,s3⟩:=Zar hall
 refine ⟨fun h1=> ?_,fun h1=> ?_⟩
 · have h1:=of_decide_eq_true h1
   have hlt:x.k<ws.length:=by omega
   obtain ⟨w,hw⟩:∃w,ws[x.k]? =some w:=⟨_,gB9 hlt⟩
   have hsn:=Yq hw
   have w3:wr .i64 ((x.k:Int)+1)=(x.k:Int)+1:=wrk (by omega) (by omega)
   rw [w3]
   have hw':∀v,ws[Int.toNat (x.k:Int)]? =some v->v=w:=by
    intro v hv
    rw [Int.toNat_natCast,hw] at hv
    cases hv
    rfl
   refine ⟨fun b=>b= !okW w,⟨by omega,by omega,fun v hv=> ?_⟩,fun q=> ?_,fun q=> ?_⟩
   · rw [hw' v hv]
     refine ⟨fun h2=> ?_,fun h2=>⟨by omega,by omega,fun v hv=> ?_⟩⟩
     · have h2:=of_decide_eq_true h2
       show true= !okW w
       unfold okW;simp;omega
     · rw [hw' v hv]
       have h2:=of_decide_eq_false h2
       refine ⟨fun h3=> ?_,fun h3=> ?_⟩
       · have h3:=of_decide_eq_true h3
         show true= !okW w
         unfold okW;simp;omega
       · have h3:=of_decide_eq_false h3
         show false= !okW w
         unfold okW;simp;omega
   · have q:okW w=false:=by simpa using q.symm
     have:ws.all okW=false:=by
      rw [List.all_eq_false]
      exact ⟨w,List.mem_iff_getElem?.2 ⟨x.k,hw⟩,by rw [q];decide⟩
     rw [e0,if_pos this]
   have q:okW w=true:=by simpa using q.symm
   have qb:0<=w/\w<=9007199254740992:=by unfold okW at q;simpa using q
   have hsum:(ws.take (x.k+1)).sum=(ws.take x.k).sum+w:=by rw [hsn,List.sum_append];simp
   have step:∀f:Bool,f=(!decide ((ws.take (x.k+1)).sum=0))->∃x_1:WeX,(x_1.k<=ws.length/\(ws.take x_1.k).all okW=true/\x_1.f=(!decide ((ws.take x_1.k).sum=0))/\x_1.r=ws.length-x_1.k)/\x_1.r+1<=x.r/\true=true/\((ws=ws/\(false=true->false=true))/\(0:Int)=0/\f=x_1.f/\(x.k:Int)+1=(x_1.k:Int)/\True)/\True:=by
    intro f hff
    refine ⟨⟨f,x.k+1,ws.length-(x.k+1)⟩,⟨by show x.k+1<=_;omega,?_,hff,rfl⟩,by show ws.length-(x.k+1)+1<=x.r;omega,rfl,⟨⟨rfl,fun h=>h⟩,rfl,rfl,rfl,trivial⟩,trivial⟩
    show (ws.take (x.k+1)).all okW=true
    rw [hsn,List.all_append,hall,Bool.true_and,List.all_cons,List.all_nil,q]
    rfl
   refine ⟨fun h2=> ?_,fun h2=>⟨by omega,by omega,fun v hv=> ?_⟩⟩
   · refine step true ?_
     rw [hf] at h2
     simp only [Bool.not_eq_true',decide_eq_false_iff_not] at h2
     rw [hsum,decide_eq_false (by omega)]
     rfl
   · rw [hw' v hv]
     rw [hf] at h2
     simp only [Bool.not_eq_false',decide_eq_true_eq] at h2
     refine ⟨fun h3=>step true ?_,fun h3=>step false ?_⟩
     · have h3:=of_decide_eq_true h3
       rw [hsum,decide_eq_false (by omega)]
       rfl
     · have h3:=of_decide_eq_false h3
       rw [hsum,decide_eq_true (by omega)]
       rfl
 · have h1:=of_decide_eq_false h1
   have hkl:x.k=ws.length:=by omega
   rw [hkl,List.take_length] at hf hall
   rw [e0,if_neg (by rw [hall];decide),hf]
   refine ⟨fun h2=> ?_,fun h2=> ?_⟩
   · simp only [Bool.not_not,decide_eq_true_eq] at h2
     rw [if_pos h2]
   · simp only [Bool.not_not,decide_eq_false_iff_not] at h2
     rw [if_neg h2]
theorem Zk3 (ws:List Int) (hall:ws.all okW=true) (hlen:ws.length<=256):PureC E 19 [.psl .ints ws false] (.int false .i64 ws.sum):=by
 refine Zb E_ok (Zc E_ok Zwq 400) ?_
 rw [Zlh]
 refine ⟨fun x=>x.k<=ws.length/\x.a=(ws.take x.k).sum/\x.r=ws.length-x.k,⟨⟨0,0,0,ws.length,[],[]⟩,⟨Nat.zero_le _,rfl,rfl⟩,rfl,⟨⟨rfl,fun h=>h⟩,rfl,rfl,rfl,trivial⟩,trivial⟩,fun x hx=> ?_⟩
 obtain ⟨hk,ha,hr⟩:=hx
 refine ⟨fun h1=> ?_,fun h1=> ?_⟩
 · have h1:=of_decide_eq_true h1
   refine ⟨by omega,by omega,fun w hw=> ?_⟩
   rw [Int.toNat_natCast] at hw
   have hsn:=Yq hw
   have w3:wr .i64 ((x.k:Int)+1)=(x.k:Int)+1:=wrk (by omega) (by omega)
   have hsum:(ws.take (x.k+1)).sum=(ws.take x.k).sum+w:=by rw [hsn,List.sum_append];simp
   have h2:(ws.take (x.k+1)).all okW=true:=List.all_eq_true.2 fun v hv=>List.all_eq_true.1 hall v (List.mem_of_mem_take hv)
   obtain ⟨s1,s2,s3⟩:=Zar h2
   have hl2:(ws.take (x.k+1)).length<=256:=by rw [List.length_take];omega
   have w4:wr .i64 (x.a+w)=x.a+w:=wrk (by omega) (by omega)
   rw [w3,w4]
   exact ⟨⟨x.a+w,0,x.k+1,ws.length-(x.k+1),[],[]⟩,⟨by show x.k+1<=_;omega,by show x.a+w=_;rw [hsum,ha],rfl⟩,by show ws.length-(x.k+1)+1<=x.r;omega,rfl,⟨⟨rfl,fun h=>h⟩,rfl,rfl,rfl,trivial⟩,trivial⟩
 · have h1:=of_decide_eq_false h1
   rw [show x.k=ws.length by omega,List.take_length] at ha
   exact ha
theorem Zt3:SumOk E 17 SweM:=W7 E_ok (Zg (f:=17) rfl) fun x _=>Zff x.1
theorem Zt4:SumOk E 19 StoM:=W7 E_ok (Zg (f:=19) rfl) fun x h=>Zk3 x.1 h.1 h.2
theorem Zm6 {t:Int} {ws:List Int} (h:inR t=true) (hw:weF ws=0):ws.all okW=true/\ws.length<=256/\0<ws.sum/\Yn t ws=(outP (decide (t<0)) t.natAbs ws,0):=by
 unfold Yn
 unfold weF at hw
 by_cases h1:256<ws.length
 · rw [if_pos h1] at hw;cases hw
 rw [if_neg h1] at hw⊢
 by_cases h2:ws.all okW=false
 · rw [if_pos h2] at hw;cases hw
 rw [if_neg h2] at hw⊢
 by_cases h3:ws.sum=0
 · rw [if_pos h3] at hw;cases hw
 rw [if_neg h3,if_neg (by rw [h];decide)]
 have h2:ws.all okW=true:=by simpa using h2
 have:=(Zar h2).1
 exact ⟨h2,by omega,by omega,rfl⟩
end
end Go.Proofs.YthonhikjbpplnaaGreatDoor
/-
  DERIVED: THE SHELF's CONTRACTS AT THIS DUMP, IN PLAIN WORDS (tools/lay-plain.mjs out of 'YthonhikjbpplnaaGreatDoorTvLay0.lean', which tools/lay-shelf.mjs wrote): THE SAME DECLARATIONS UNDER THE SAME NAMES: 'import', 'namespace', 'open', 'def', 'theorem' AND NOTHING ELSE: no command of the shelf's: FOR A HAND-IN. Each laying: the table of numbers ('.._ren') and one theorem, a field a fact of the dump's own or the kernel's comparison; each contract: ONE APPLICATION.
-/
namespace Go.Proofs
open Go.Shelf
def Tryz.lays160_ren:Go.Shelf.Ren:=⟨fun|160=>34|232=>51|231=>50|227=>52|234=>54|233=>53|236=>56|235=>55|228=>71|271=>74|151=>73|197=>72|120=>95|152=>94|260=>93|137=>108|119=>109|224=>91|225=>90|217=>89|266=>106|n=>n,fun|9=>9|4=>4|3=>3|5=>5|117=>80|116=>79|0=>0|124=>83|21=>21|105=>100|46=>70|119=>131|139=>134|138=>133|n=>n,fun|3=>6|4=>7|n=>n⟩
theorem Tryz.lays160:Go.Proofs.Lays.n160 Tryz.prog Tryz.lays160_ren:={
  mixed:=by kernel_rfl
  f119:=Tryz.func109.trans (congrArg some (by kernel_rfl))
  f120:=Tryz.func95.trans (congrArg some (by kernel_rfl))
  f137:=Tryz.func108.trans (congrArg some (by kernel_rfl))
  f151:=Tryz.func73.trans (congrArg some (by kernel_rfl))
  f152:=Tryz.func94.trans (congrArg some (by kernel_rfl))
  f160:=Tryz.func34.trans (congrArg some (by kernel_rfl))
  f197:=Tryz.func72.trans (congrArg some (by kernel_rfl))
  f217:=Tryz.func89.trans (congrArg some (by kernel_rfl))
  f224:=Tryz.func91.trans (congrArg some (by kernel_rfl))
  f225:=Tryz.func90.trans (congrArg some (by kernel_rfl))
  f227:=Tryz.func52.trans (congrArg some (by kernel_rfl))
  f228:=Tryz.func71.trans (congrArg some (by kernel_rfl))
  f231:=Tryz.func50.trans (congrArg some (by kernel_rfl))
  f232:=Tryz.func51.trans (congrArg some (by kernel_rfl))
  f233:=Tryz.func53.trans (congrArg some (by kernel_rfl))
  f234:=Tryz.func54.trans (congrArg some (by kernel_rfl))
  f235:=Tryz.func55.trans (congrArg some (by kernel_rfl))
  f236:=Tryz.func56.trans (congrArg some (by kernel_rfl))
  f260:=Tryz.func93.trans (congrArg some (by kernel_rfl))
  f266:=Tryz.func106.trans (congrArg some (by kernel_rfl))
  f271:=Tryz.func74.trans (congrArg some (by kernel_rfl))
  t0:=Tryz.underlying0
  a0:=Tryz.isAgg0
  z0:=Tryz.sizeOf0
  v0:=Tryz.zeroValue0
  t3:=Tryz.underlying3
  a3:=Tryz.isAgg3
  z3:=Tryz.sizeOf3
  v3:=Tryz.zeroValue3
  t4:=Tryz.underlying4
  a4:=Tryz.isAgg4
  z4:=Tryz.sizeOf4
  v4:=Tryz.zeroValue4
  t5:=Tryz.underlying5
  a5:=Tryz.isAgg5
  z5:=Tryz.sizeOf5
  v5:=Tryz.zeroValue5
  t9:=Tryz.underlying9
  a9:=Tryz.isAgg9
  z9:=Tryz.sizeOf9
  v9:=Tryz.zeroValue9
  t21:=Tryz.underlying21
  a21:=Tryz.isAgg21
  z21:=Tryz.sizeOf21
  v21:=Tryz.zeroValue21
  t46:=Tryz.underlying70
  a46:=Tryz.isAgg70
  z46:=Tryz.sizeOf70
  v46:=Tryz.zeroValue70
  t105:=Tryz.underlying100
  a105:=Tryz.isAgg100
  z105:=Tryz.sizeOf100
  v105:=Tryz.zeroValue100
  t116:=Tryz.underlying79
  a116:=Tryz.isAgg79
  z116:=Tryz.sizeOf79
  t117:=Tryz.underlying80
  a117:=Tryz.isAgg80
  z117:=Tryz.sizeOf80
  v117:=Tryz.zeroValue80
  t119:=Tryz.underlying131
  a119:=Tryz.isAgg131
  z119:=Tryz.sizeOf131
  t124:=Tryz.underlying83
  a124:=Tryz.isAgg83
  z124:=Tryz.sizeOf83
  v124:=Tryz.zeroValue83
  t138:=Tryz.underlying133
  a138:=Tryz.isAgg133
  z138:=Tryz.sizeOf133
  v138:=Tryz.zeroValue133
  t139:=Tryz.underlying134
  a139:=Tryz.isAgg134
  z139:=Tryz.sizeOf134
  v139:=Tryz.zeroValue134
  g3:=by kernel_rfl
  g4:=by kernel_rfl}
def Tryz.lays129_ren:Go.Shelf.Ren:=⟨fun|129=>66|n=>n,fun|53=>45|3=>3|4=>4|46=>70|5=>5|9=>9|n=>n,fun|n=>n⟩
theorem Tryz.lays129:Go.Proofs.Lays.n129 Tryz.prog Tryz.lays129_ren:={
  mixed:=by kernel_rfl
  f129:=Tryz.func66.trans (congrArg some (by kernel_rfl))
  t3:=Tryz.underlying3
  a3:=Tryz.isAgg3
  z3:=Tryz.sizeOf3
  v3:=Tryz.zeroValue3
  t4:=Tryz.underlying4
  a4:=Tryz.isAgg4
  z4:=Tryz.sizeOf4
  v4:=Tryz.zeroValue4
  t5:=Tryz.underlying5
  a5:=Tryz.isAgg5
  z5:=Tryz.sizeOf5
  v5:=Tryz.zeroValue5
  t9:=Tryz.underlying9
  a9:=Tryz.isAgg9
  z9:=Tryz.sizeOf9
  v9:=Tryz.zeroValue9
  t46:=Tryz.underlying70
  a46:=Tryz.isAgg70
  z46:=Tryz.sizeOf70
  v46:=Tryz.zeroValue70
  t53:=Tryz.underlying45
  a53:=Tryz.isAgg45
  z53:=Tryz.sizeOf45
  v53:=Tryz.zeroValue45}
def Tryz.lays317_ren:Go.Shelf.Ren:=⟨fun|317=>99|n=>n,fun|3=>3|46=>70|n=>n,fun|n=>n⟩
theorem Tryz.lays317:Go.Proofs.Lays.n317 Tryz.prog Tryz.lays317_ren:={
  mixed:=by kernel_rfl
  f317:=Tryz.func99.trans (congrArg some (by kernel_rfl))
  t3:=Tryz.underlying3
  a3:=Tryz.isAgg3
  z3:=Tryz.sizeOf3
  v3:=Tryz.zeroValue3
  t46:=Tryz.underlying70
  a46:=Tryz.isAgg70
  z46:=Tryz.sizeOf70
  v46:=Tryz.zeroValue70}
def Tryz.lays283_ren:Go.Shelf.Ren:=⟨fun|283=>81|n=>n,fun|3=>3|9=>9|4=>4|n=>n,fun|n=>n⟩
theorem Tryz.lays283:Go.Proofs.Lays.n283 Tryz.prog Tryz.lays283_ren:={
  mixed:=by kernel_rfl
  f283:=Tryz.func81.trans (congrArg some (by kernel_rfl))
  t3:=Tryz.underlying3
  a3:=Tryz.isAgg3
  z3:=Tryz.sizeOf3
  v3:=Tryz.zeroValue3
  t4:=Tryz.underlying4
  a4:=Tryz.isAgg4
  z4:=Tryz.sizeOf4
  v4:=Tryz.zeroValue4
  t9:=Tryz.underlying9
  a9:=Tryz.isAgg9
  z9:=Tryz.sizeOf9
  v9:=Tryz.zeroValue9}
def Tryz.lays245_ren:Go.Shelf.Ren:=⟨fun|245=>58|279=>77|280=>78|281=>79|282=>80|316=>96|171=>98|205=>97|243=>110|246=>113|283=>81|284=>82|285=>83|286=>84|129=>66|317=>99|318=>100|319=>101|320=>102|337=>111|338=>112|n=>n,fun|9=>9|3=>3|75=>63|167=>103|4=>4|168=>106|210=>121|37=>69|0=>0|127=>116|145=>138|143=>136|2=>2|171=>109|53=>45|5=>5|173=>111|212=>124|51=>113|20=>20|213=>125|46=>70|232=>141|233=>142|80=>95|n=>n,fun|15=>3|16=>4|17=>5|18=>8|19=>9|n=>n⟩
theorem Tryz.lays245:Go.Proofs.LaysC.n245 Tryz.prog Tryz.lays245_ren:={
  mixed:=by kernel_rfl
  f129:=Tryz.func66.trans (congrArg some (by kernel_rfl))
  f171:=Tryz.func98.trans (congrArg some (by kernel_rfl))
  f205:=Tryz.func97.trans (congrArg some (by kernel_rfl))
  f243:=Tryz.func110.trans (congrArg some (by kernel_rfl))
  f245:=Tryz.func58.trans (congrArg some (by kernel_rfl))
  f246:=Tryz.func113.trans (congrArg some (by kernel_rfl))
  f279:=Tryz.func77.trans (congrArg some (by kernel_rfl))
  f280:=Tryz.func78.trans (congrArg some (by kernel_rfl))
  f281:=Tryz.func79.trans (congrArg some (by kernel_rfl))
  f282:=Tryz.func80.trans (congrArg some (by kernel_rfl))
  f283:=Tryz.func81.trans (congrArg some (by kernel_rfl))
  f284:=Tryz.func82.trans (congrArg some (by kernel_rfl))
  f285:=Tryz.func83.trans (congrArg some (by kernel_rfl))
  f286:=Tryz.func84.trans (congrArg some (by kernel_rfl))
  f316:=Tryz.func96.trans (congrArg some (by kernel_rfl))
  f317:=Tryz.func99.trans (congrArg some (by kernel_rfl))
  f318:=Tryz.func100.trans (congrArg some (by kernel_rfl))
  f319:=Tryz.func101.trans (congrArg some (by kernel_rfl))
  f320:=Tryz.func102.trans (congrArg some (by kernel_rfl))
  f337:=Tryz.func111.trans (congrArg some (by kernel_rfl))
  f338:=Tryz.func112.trans (congrArg some (by kernel_rfl))
  t0:=Tryz.underlying0
  a0:=Tryz.isAgg0
  z0:=Tryz.sizeOf0
  v0:=Tryz.zeroValue0
  t2:=Tryz.underlying2
  a2:=Tryz.isAgg2
  z2:=Tryz.sizeOf2
  v2:=Tryz.zeroValue2
  t3:=Tryz.underlying3
  a3:=Tryz.isAgg3
  z3:=Tryz.sizeOf3
  v3:=Tryz.zeroValue3
  t4:=Tryz.underlying4
  a4:=Tryz.isAgg4
  z4:=Tryz.sizeOf4
  v4:=Tryz.zeroValue4
  t5:=Tryz.underlying5
  a5:=Tryz.isAgg5
  z5:=Tryz.sizeOf5
  v5:=Tryz.zeroValue5
  t9:=Tryz.underlying9
  a9:=Tryz.isAgg9
  z9:=Tryz.sizeOf9
  v9:=Tryz.zeroValue9
  t20:=Tryz.underlying20
  a20:=Tryz.isAgg20
  z20:=Tryz.sizeOf20
  v20:=Tryz.zeroValue20
  t37:=Tryz.underlying69
  a37:=Tryz.isAgg69
  z37:=Tryz.sizeOf69
  v37:=Tryz.zeroValue69
  t46:=Tryz.underlying70
  a46:=Tryz.isAgg70
  z46:=Tryz.sizeOf70
  v46:=Tryz.zeroValue70
  t51:=Tryz.underlying113
  a51:=Tryz.isAgg113
  z51:=Tryz.sizeOf113
  v51:=Tryz.zeroValue113
  t53:=Tryz.underlying45
  a53:=Tryz.isAgg45
  z53:=Tryz.sizeOf45
  v53:=Tryz.zeroValue45
  t75:=Tryz.underlying63
  a75:=Tryz.isAgg63
  z75:=Tryz.sizeOf63
  v75:=Tryz.zeroValue63
  t127:=Tryz.underlying116
  a127:=Tryz.isAgg116
  z127:=Tryz.sizeOf116
  v127:=Tryz.zeroValue116
  t143:=Tryz.underlying136
  a143:=Tryz.isAgg136
  z143:=Tryz.sizeOf136
  v143:=Tryz.zeroValue136
  t145:=Tryz.underlying138
  a145:=Tryz.isAgg138
  z145:=Tryz.sizeOf138
  v145:=Tryz.zeroValue138
  t167:=Tryz.underlying103
  a167:=Tryz.isAgg103
  z167:=Tryz.sizeOf103
  v167:=Tryz.zeroValue103
  t168:=Tryz.underlying106
  a168:=Tryz.isAgg106
  z168:=Tryz.sizeOf106
  v168:=Tryz.zeroValue106
  t171:=Tryz.underlying109
  a171:=Tryz.isAgg109
  z171:=Tryz.sizeOf109
  v171:=Tryz.zeroValue109
  t173:=Tryz.underlying111
  a173:=Tryz.isAgg111
  z173:=Tryz.sizeOf111
  v173:=Tryz.zeroValue111
  t210:=Tryz.underlying121
  a210:=Tryz.isAgg121
  z210:=Tryz.sizeOf121
  v210:=Tryz.zeroValue121
  t212:=Tryz.underlying124
  a212:=Tryz.isAgg124
  z212:=Tryz.sizeOf124
  v212:=Tryz.zeroValue124
  t213:=Tryz.underlying125
  a213:=Tryz.isAgg125
  z213:=Tryz.sizeOf125
  t232:=Tryz.underlying141
  a232:=Tryz.isAgg141
  z232:=Tryz.sizeOf141
  v232:=Tryz.zeroValue141
  t233:=Tryz.underlying142
  a233:=Tryz.isAgg142
  z233:=Tryz.sizeOf142
  v233:=Tryz.zeroValue142
  g15:=by kernel_rfl
  g16:=by kernel_rfl
  g17:=by kernel_rfl
  g18:=by kernel_rfl
  g19:=by kernel_rfl
  t80:=Tryz.underlying95
  a80:=Tryz.isAgg95
  z80:=Tryz.sizeOf95
  v80:=Tryz.zeroValue95
  i0:=by kernel_rfl
  i2:=by kernel_rfl
  i3:=by kernel_rfl
  i4:=by kernel_rfl
  i5:=by kernel_rfl
  i9:=by kernel_rfl
  i20:=by kernel_rfl
  i37:=by kernel_rfl
  i46:=by kernel_rfl
  i51:=by kernel_rfl
  i53:=by kernel_rfl
  i75:=by kernel_rfl
  i80:=by kernel_rfl
  i127:=by kernel_rfl
  i143:=by kernel_rfl
  i145:=by kernel_rfl
  i167:=by kernel_rfl
  i168:=by kernel_rfl
  i171:=by kernel_rfl
  i173:=by kernel_rfl
  i210:=by kernel_rfl
  i212:=by kernel_rfl
  i232:=by kernel_rfl
  i233:=by kernel_rfl
  m15:=by kernel_rfl
  m16:=by kernel_rfl
  m17:=by kernel_rfl
  m18:=by kernel_rfl
  m19:=by kernel_rfl
  c0:=by kernel_rfl
  c2:=by kernel_rfl
  c3:=by kernel_rfl
  c4:=by kernel_rfl
  c5:=by kernel_rfl
  c9:=by kernel_rfl
  c20:=by kernel_rfl
  c37:=by kernel_rfl
  c46:=by kernel_rfl
  c51:=by kernel_rfl
  c53:=by kernel_rfl
  c75:=by kernel_rfl
  c80:=by kernel_rfl
  c127:=by kernel_rfl
  c143:=by kernel_rfl
  c145:=by kernel_rfl
  c167:=by kernel_rfl
  c168:=by kernel_rfl
  c171:=by kernel_rfl
  c173:=by kernel_rfl
  c210:=by kernel_rfl
  c212:=by kernel_rfl
  c213:=by kernel_rfl
  c232:=by kernel_rfl
  c233:=by kernel_rfl}
end Go.Proofs

namespace Go.Proofs.YthonhikjbpplnaaGreatDoor
set_option linter.unusedVariables false
set_option linter.unusedSimpArgs false
set_option linter.unnecessarySimpa false
set_option maxRecDepth 100000
section
open Go.ChangeShapes Go.WideShapes Go.ChangeAt Go.RowKit
section
variable {Y:Thy} {E:Eng Y}
def gTop (w:World):GH :=
  { cell:=fun r o=>w.cell? ⟨r,o,none⟩
    obj:=fun r=>match w.heap[r]? with | some (.map es _)=>some es | _=>none }
theorem Zur {w:World} (hg:∀ n sv,E.glob n=some sv->∀ (j:Nat) s,sv.cells[j]?=some s->∃ v,w.cell? ⟨n,j,none⟩=some v/\Den E (fun _=>none) (gTop w) s v):Inv E w.heap.size σ0 hp0 (gTop w) w:=by
  refine ⟨fun r o v hv=>hv,fun r es hv=>?_,(fun b x hx=>by cases hx),fun b b' r z z' h1=>absurd rfl h1,(fun b r z hs=>by cases hs),(fun b x r z o v hx=>by cases hx),(fun b x r z hx=>by cases hx),hg⟩
  have hv:(match w.heap[r]? with | some (.map es _)=>some es | _=>none)=some es:=hv
  split at hv
  · rename_i es' c hc
    cases hv
    exact ⟨c,hc⟩
  · cases hv
end
section
variable {H:Type} {enc:TypeId × Value->H} {P:Program} {w:World} {spare:Nat->Bool} {held:Bool} {fuel:Nat} {t:TypeId} {cs:List Value} {x:DataW H × List MemPlace}
theorem Zof {k:IntKind} (ht:P.underlying t=some (.int k)) (h:DataW.trod enc P w 0 spare held fuel t cs=some x):∃n,cs= [.int k n]/\(Lit.int k n).wf=true:=by
 cases fuel with
 |zero=>simp [DataW.trod] at h
 |succ m=>
  unfold DataW.trod at h
  rw [ht] at h
  split at h<;>simp_all
theorem Zga {Y:Thy} {E:Eng Y} {th:Y.Th} {e:TypeId} (hw:∀ a,(E.enc th a).length=E.w th) (hp:0<E.w th) (ht:P.underlying t=some (.slice e)) (hk:P.cellsOf e=E.w th)
 (h:DataW.trod enc P w 0 spare held fuel t cs=some x) (hR:∀ n,n<fuel->∀ cs' y,DataW.trod enc P w 0 spare held n e cs'=some y->∃ a,∀ (j:Nat) sv,(E.enc th a)[j]?=some sv->∃ v,cs'[j]?=some v/\Den E σ0 (gTop w) sv v) :
 ∃ sv l,cs=[sv]/\Den E σ0 (gTop w) (.psl th l false) sv:=by
 rcases DataW.trod_slice ht h with ⟨h0,_⟩ | ⟨a,len,cap,elems,rest,n,hf,hcs,_,_,hl,hc,hel,hcell,_⟩
 · exact ⟨_,[],h0,.psl (l:=[]) (fun _ _=>undef) (Nat.le_refl _) (by unfold maxLen; omega) (by simp) (fun _=>rfl) (by simp) (by simp)⟩
 · have hall:∀ i,i<len->∃ p:List Value×Y.dom th,w.cells? 0 (a.add (i * E.w th)) (E.w th)=some p.1/\∀ (j:Nat) sv,(E.enc th p.2)[j]?=some sv->∃ v,p.1[j]?=some v/\Den E σ0 (gTop w) sv v:=by
    intro i hi
    have h1:=hcell i hi
    rw [gB9 (by omega)] at h1
    obtain ⟨cs',hc1,hc2⟩:=gD9.1 h1
    obtain ⟨y,hy⟩:=hR n (by omega) cs' _ hc2
    exact ⟨(cs',y),by rw [← hk]; exact hc1,hy⟩
   rcases Nat.eq_zero_or_pos len with h0 | h0
   · subst h0
     exact ⟨_,[],hcs,.psl (l:=[]) (fun _ _=>undef) hl hc (by simp) (fun h=>by cases h) (fun hp=>by simp at hp) (by simp)⟩
   have:Inhabited (List Value×Y.dom th):=⟨(hall 0 h0).choose⟩
   obtain ⟨f,hfam⟩:=Go.Deep.choose_lt (α:=List Value×Y.dom th) hall
   have hb0:a.spot=none:=by
    have h1:=(hfam 0 h0).1
    obtain ⟨_,hlen,hcl⟩:=World.cells?_some h1
    have h2:=hcl 0 hp
    rw [gB9 (by omega)] at h2
    simp only [Nat.zero_mul,Addr.add,if_true] at h2
    unfold World.cell? at h2
    split at h2
    · split at h2
      · cases h2
      · rename_i hs; simpa using hs
    · cases h2
   obtain ⟨b,o,s⟩:=a
   obtain rfl:s=none:=hb0
   have cell:∀ i,i<len->∀ j,j<E.w th->w.cell? ⟨b,o+i * E.w th+j,none⟩=(f i).1[j]?:=by
    intro i hi j hj
    obtain ⟨_,hlen,hcl⟩:=World.cells?_some (hfam i hi).1
    have:=hcl j hj
    rw [Go.Deep.add_add,Z0] at this
    rw [Nat.add_assoc]; exact this
   have hlen:((List.range len).map fun i=>(f i).2).length=len:=by simp
   have get:∀ (i:Nat) y,((List.range len).map fun i=>(f i).2)[i]?=some y->i<len/\(f i).2=y:=by
    intro i y hi
    have hilt:i<len:=by have:=(gA9.1 hi).1; simpa using this
    exact ⟨hilt,by simpa [hilt] using hi⟩
   refine ⟨.slice (some ⟨b,o,none⟩) len cap,(List.range len).map fun i=>(f i).2,hcs,?_⟩
   have:=Den.psl (E:=E) (σ:=σ0) (g:=gTop w) (th:=th) (l:=(List.range len).map fun i=>(f i).2) (full:=false) (base:=some ⟨b,o,none⟩) (c:=cap) (fun i j=>(f i).1.getD j undef) (by omega) hc (by simp) (fun h=>by cases h)
    (fun _=>⟨b,o,rfl,fun i y hy j hj=>?_⟩) (fun i y hy j sv hj=>?_)
   · rw [hlen] at this; exact this
   · obtain ⟨hi,_⟩:=get i y hy
     rw [hw] at hj
     obtain ⟨_,hl2,_⟩:=World.cells?_some (hfam i hi).1
     show w.cell? _=_
     rw [cell i hi j hj,List.getD_eq_getElem?_getD,gB9 (by omega)]; rfl
   · obtain ⟨hi,rfl⟩:=get i y hy
     obtain ⟨v,h1,h2⟩:=(hfam i hi).2 j sv hj
     rw [List.getD_eq_getElem?_getD,h1]; exact h2
theorem Zh3 {Y:Thy} {E:Eng Y} {th:Y.Th} {e:TypeId} (hw:∀a,(E.enc th a).length=E.w th) (hp:0<E.w th) (ht:P.underlying t=some (.slice e)) (hk:P.cellsOf e=E.w th)
 (h:DataW.trod enc P w 0 spare held fuel t cs=some x) (hR:∀n cs' y,DataW.trod enc P w 0 spare held n e cs'=some y->∃a,∀(j:Nat) sv,(E.enc th a)[j]? =some sv->∃v,cs'[j]? =some v/\Den E σ0 (gTop w) sv v):
 ∃sv l,cs= [sv]/\Den E σ0 (gTop w) (.psl th l false) sv:=by
 exact Zga hw hp ht hk h fun n _ cs' y hy=>hR n cs' y hy
theorem Zgb {v:Value} {n:Nat} (h:v.cells.toList.length=n) (hn:n≠1):v= .agg v.cells.toList.toArray:=by
 cases v<;>simp_all [Value.cells]
end
end
section
open Go.RowKit
section
variable {Y:Thy} {E:Eng Y}
end
end
section
open Go.RowKit
section
variable {Y:Thy} {E:Eng Y}
end
end
section
open Go.RowKit
section
variable {Y:Thy} {E:Eng Y}
def one (cs:List (SV Y)):Hp Y:=fun b=>match Nat.beq b 0 with|true=>some (.raw cs 0 none)|false=>none
section
variable {X α β ε:Type}
end
end
end
section
open Go
theorem Zif (w:World):Ext w w:=⟨rfl,rfl,rfl,Nat.le_refl _,fun _ _=>rfl⟩
theorem Zlv (x:Int) (h0:0<=x) (h1:x<=18446744073709551615):PureC E 66 [.int false .u64 x] (.int false .i64 (Lib.bitLen x.toNat)):=by
 refine Wg fun g w vals hd=> ?_
 obtain ⟨u,rfl,hu⟩:=Zu2 hd
 cases hu
 refine (Any.bits_Len64 Tryz.lays129 x w h0 h1).mono ?_
 rintro e w' ⟨rfl,rfl⟩
 exact ⟨_,rfl,.int _ _ _,Zif _⟩
theorem Zrm (x:Nat) (h:x<=64):PureC E 99 [.int false .i64 x] (.int false .i64 (Lib.l10 x)):=by
 refine Wg fun g w vals hd=> ?_
 obtain ⟨u,rfl,hu⟩:=Zu2 hd
 cases hu
 refine (Any.internal_strconv_log10Pow2 Tryz.lays317 x h w).mono ?_
 rintro e w' ⟨rfl,rfl⟩
 exact ⟨_,rfl,.int _ _ _,Zif _⟩
theorem Zxa (l:List UInt8):toL ⟨l.toArray⟩=l.map UInt8.toNat:=rfl
theorem Zlw (x:Nat) (h:x<100):PureC E 81 [.int false .i64 x] (.str false ((Lib.decDigits x).map UInt8.toNat)):=by
 refine Wg fun g w vals hd=> ?_
 obtain ⟨u,rfl,hu⟩:=Zu2 hd
 cases hu
 refine (Any.internal_strconv_small Tryz.lays283 x h w).mono ?_
 rintro e w' ⟨rfl,rfl⟩
 exact ⟨_,rfl,.str _ (Zxa _),Zif _⟩
def dU64:Dc E Int:=dInt .u64
def Ztg:Sum thy:=Xe (dA1 dU64) (fun x=>0<=x.1/\x.1<=18446744073709551615) (fun x=>Lib.bitLen x.1.toNat) fun (y:Nat)=> .int false .i64 y
theorem Zor:SumOk E 66 Ztg:=Zq E_ok (Zg rfl) fun x h=>Zlv x.1 h.1 h.2
def Sl10:Sum thy:=Xe (dA1 dN) (fun x=>0<=x.1/\x.1<=64) (fun x=>Lib.l10 x.1.toNat) fun (y:Nat)=> .int false .i64 y
theorem Zu4:SumOk E 99 Sl10:=Zq E_ok (Zg rfl) fun x h=>by
 have:=Zrm x.1.toNat (by omega)
 rw [show ((x.1.toNat:Nat):Int)=x.1 by omega] at this
 exact this
def Fnd:Fns thy:=addS (addS F0 66 Ztg) 99 Sl10
abbrev qBB1:=(1:Nat)
abbrev qBBf (a0:Nat):=(↑a0:Int)
abbrev qBB2 (a0:Nat):=((qBBf a0)+(1:Int))
abbrev qBB3 (a0:Nat):=((qBBf a0)+(0:Int))
abbrev qBB4:=(0:Nat)
abbrev qBB5:=(↑(qBB4+qBB1+qBB1+qBB1+qBB1+qBB1+qBB1+qBB1+qBB1+qBB1+qBB1+qBB1+qBB1+qBB1+qBB1+qBB1+qBB1+qBB1+qBB1+qBB1):Int)
abbrev qBB6:=(↑(qBB4+qBB1+qBB1+qBB1+qBB1+qBB1+qBB1+qBB1+qBB1+qBB1+qBB1+qBB1+qBB1+qBB1+qBB1+qBB1+qBB1+qBB1+qBB1):Int)
abbrev qBB7:=(↑(qBB4+qBB1+qBB1+qBB1+qBB1+qBB1+qBB1+qBB1+qBB1+qBB1+qBB1+qBB1+qBB1+qBB1+qBB1+qBB1+qBB1+qBB1):Int)
abbrev qBB8:=(↑(qBB4+qBB1+qBB1+qBB1+qBB1+qBB1+qBB1+qBB1+qBB1+qBB1+qBB1+qBB1+qBB1+qBB1+qBB1+qBB1+qBB1):Int)
abbrev qBB9:=(↑(qBB4+qBB1+qBB1+qBB1+qBB1+qBB1+qBB1+qBB1+qBB1+qBB1+qBB1+qBB1+qBB1+qBB1+qBB1+qBB1):Int)
abbrev qBBa:=(↑(qBB4+qBB1+qBB1+qBB1+qBB1+qBB1+qBB1+qBB1+qBB1+qBB1+qBB1+qBB1+qBB1+qBB1+qBB1):Int)
abbrev qBBb:=(↑(qBB4+qBB1+qBB1+qBB1+qBB1+qBB1+qBB1+qBB1+qBB1+qBB1+qBB1+qBB1+qBB1+qBB1):Int)
abbrev qBBc:=(↑(qBB4+qBB1+qBB1+qBB1+qBB1+qBB1+qBB1+qBB1+qBB1+qBB1+qBB1+qBB1+qBB1):Int)
abbrev qBBd:=(↑(qBB4+qBB1+qBB1+qBB1+qBB1+qBB1+qBB1+qBB1+qBB1+qBB1+qBB1+qBB1):Int)
abbrev qBBe:=(↑(qBB4+qBB1+qBB1+qBB1+qBB1+qBB1+qBB1+qBB1+qBB1+qBB1+qBB1):Int)
abbrev qBBg:=(↑(qBB4+qBB1+qBB1+qBB1+qBB1+qBB1+qBB1+qBB1+qBB1+qBB1):Int)
abbrev qBBh:=(↑(qBB4+qBB1+qBB1+qBB1+qBB1+qBB1+qBB1+qBB1+qBB1):Int)
abbrev qBBi:=(↑(qBB4+qBB1+qBB1+qBB1+qBB1+qBB1+qBB1+qBB1):Int)
abbrev qBBj:=(↑(qBB4+qBB1+qBB1+qBB1+qBB1+qBB1+qBB1):Int)
abbrev qBBk:=(↑(qBB4+qBB1+qBB1+qBB1+qBB1+qBB1):Int)
theorem Zu5 (u:Int) (v:Int):Zu E Fnd (vc E Fnd 400) 82 [.int false .u64 u] hp0 0 (fun r=>ret E (patch hp0 0 r) r.v (.int false .i64 v))=(
 ((0:Int)<=u/\u<=(18446744073709551615:Int))/\∀(y:Nat),y=Lib.bitLen (Int.toNat u)->((0:Int)<=(qBBf y)/\(qBBf y)<=(64:Int))/\∀(y_1:Nat),y_1=Lib.l10 (Int.toNat (qBBf y))->(0:Int)<=(qBBf y_1)/\(qBBf y_1)+(1:Int)<=(↑(20:Nat):Int)/\(((qBBf y_1)==(↑qBB4:Int))=true->(decide (u>=(1:Int))=true->wr IntKind.i64 (qBB2 y_1)=v)/\(decide (u>=(1:Int))=false->wr IntKind.i64 (qBB3 y_1)=v))/\(((qBBf y_1)==(↑qBB4:Int))=false->(((qBBf y_1)==(↑(qBB4+qBB1):Int))=true->(decide (u>=(10:Int))=true->wr IntKind.i64 (qBB2 y_1)=v)/\(decide (u>=(10:Int))=false->wr IntKind.i64 (qBB3 y_1)=v))/\(((qBBf y_1)==(↑(qBB4+qBB1):Int))=false->(((qBBf y_1)==(↑(qBB4+qBB1+qBB1):Int))=true->(decide (u>=(100:Int))=true->wr IntKind.i64 (qBB2 y_1)=v)/\(decide (u>=(100:Int))=false->wr IntKind.i64 (qBB3 y_1)=v))/\(((qBBf y_1)==(↑(qBB4+qBB1+qBB1):Int))=false->(((qBBf y_1)==(↑(qBB4+qBB1+qBB1+qBB1):Int))=true->(decide (u>=(1000:Int))=true->wr IntKind.i64 (qBB2 y_1)=v)/\(decide (u>=(1000:Int))=false->wr IntKind.i64 (qBB3 y_1)=v))/\(((qBBf y_1)==(↑(qBB4+qBB1+qBB1+qBB1):Int))=false->(((qBBf y_1)==(↑(qBB4+qBB1+qBB1+qBB1+qBB1):Int))=true->(decide (u>=(10000:Int))=true->wr IntKind.i64 (qBB2 y_1)=v)/\(decide (u>=(10000:Int))=false->wr IntKind.i64 (qBB3 y_1)=v))/\(((qBBf y_1)==(↑(qBB4+qBB1+qBB1+qBB1+qBB1):Int))=false->(((qBBf y_1)==qBBk)=true->(decide (u>=(100000:Int))=true->wr IntKind.i64 (qBB2 y_1)=v)/\(decide (u>=(100000:Int))=false->wr IntKind.i64 (qBB3 y_1)=v))/\(((qBBf y_1)==qBBk)=false->(((qBBf y_1)==qBBj)=true->(decide (u>=(1000000:Int))=true->wr IntKind.i64 (qBB2 y_1)=v)/\(decide (u>=(1000000:Int))=false->wr IntKind.i64 (qBB3 y_1)=v))/\(((qBBf y_1)==qBBj)=false->(((qBBf y_1)==qBBi)=true->(decide (u>=(10000000:Int))=true->wr IntKind.i64 (qBB2 y_1)=v)/\(decide (u>=(10000000:Int))=false->wr IntKind.i64 (qBB3 y_1)=v))/\(((qBBf y_1)==qBBi)=false->(((qBBf y_1)==qBBh)=true->(decide (u>=(100000000:Int))=true->wr IntKind.i64 (qBB2 y_1)=v)/\(decide (u>=(100000000:Int))=false->wr IntKind.i64 (qBB3 y_1)=v))/\(((qBBf y_1)==qBBh)=false->(((qBBf y_1)==qBBg)=true->(decide (u>=(1000000000:Int))=true->wr IntKind.i64 (qBB2 y_1)=v)/\(decide (u>=(1000000000:Int))=false->wr IntKind.i64 (qBB3 y_1)=v))/\(((qBBf y_1)==qBBg)=false->(((qBBf y_1)==qBBe)=true->(decide (u>=(10000000000:Int))=true->wr IntKind.i64 (qBB2 y_1)=v)/\(decide (u>=(10000000000:Int))=false->wr IntKind.i64 (qBB3 y_1)=v))/\(((qBBf y_1)==qBBe)=false->(((qBBf y_1)==qBBd)=true->(decide (u>=(100000000000:Int))=true->wr IntKind.i64 (qBB2 y_1)=v)/\(decide (u>=(100000000000:Int))=false->wr IntKind.i64 (qBB3 y_1)=v))/\(((qBBf y_1)==qBBd)=false->(((qBBf y_1)==qBBc)=true->(decide (u>=(1000000000000:Int))=true->wr IntKind.i64 (qBB2 y_1)=v)/\(decide (u>=(1000000000000:Int))=false->wr IntKind.i64 (qBB3 y_1)=v))/\(((qBBf y_1)==qBBc)=false->(((qBBf y_1)==qBBb)=true->(decide (u>=(10000000000000:Int))=true->wr IntKind.i64 (qBB2 y_1)=v)/\(decide (u>=(10000000000000:Int))=false->wr IntKind.i64 (qBB3 y_1)=v))/\(((qBBf y_1)==qBBb)=false->(((qBBf y_1)==qBBa)=true->(decide (u>=(100000000000000:Int))=true->wr IntKind.i64 (qBB2 y_1)=v)/\(decide (u>=(100000000000000:Int))=false->wr IntKind.i64 (qBB3 y_1)=v))/\(((qBBf y_1)==qBBa)=false->(((qBBf y_1)==qBB9)=true->(decide (u>=(1000000000000000:Int))=true->wr IntKind.i64 (qBB2 y_1)=v)/\(decide (u>=(1000000000000000:Int))=false->wr IntKind.i64 (qBB3 y_1)=v))/\(((qBBf y_1)==qBB9)=false->(((qBBf y_1)==qBB8)=true->(decide (u>=(10000000000000000:Int))=true->wr
IntKind.i64 (qBB2 y_1)=v)/\(decide (u>=(10000000000000000:Int))=false->wr IntKind.i64 (qBB3 y_1)=v))/\(((qBBf y_1)==qBB8)=false->(((qBBf y_1)==qBB7)=true->(decide (u>=(100000000000000000:Int))=true->wr IntKind.i64 (qBB2 y_1)=v)/\(decide (u>=(100000000000000000:Int))=false->wr IntKind.i64 (qBB3 y_1)=v))/\(((qBBf y_1)==qBB7)=false->(((qBBf y_1)==qBB6)=true->(decide (u>=(1000000000000000000:Int))=true->wr IntKind.i64 (qBB2 y_1)=v)/\(decide (u>=(1000000000000000000:Int))=false->wr IntKind.i64 (qBB3 y_1)=v))/\(((qBBf y_1)==qBB6)=false->(((qBBf y_1)==qBB5)=true->(decide (u>=(10000000000000000000:Int))=true->wr IntKind.i64 (qBB2 y_1)=v)/\(decide (u>=(10000000000000000000:Int))=false->wr IntKind.i64 (qBB3 y_1)=v))/\(((qBBf y_1)==qBB5)=false->True))))))))))))))))))))):=by kernel_rfl
theorem Zxb:FnsOk E Fnd:=Zh (Zh F0_ok Zor) Zu4
theorem blA:∀f x,Lib.bitLenAux f x<=f
 |0,x=>Nat.le_refl _
 |f+1,x=>by
  unfold Lib.bitLenAux
  split
  · exact Nat.zero_le _
  · have:=blA f (x/2)
    omega
theorem bl64 (x:Nat):Lib.bitLen x<=64:=blA 64 x
theorem Zu6 (u:Nat) (h1:1<=u) (h2:u<18446744073709551616):PureC E 82 [.int false .u64 (u:Int)] (.int false .i64 (Lib.nDigits u)):=by
 refine Zb E_ok (Zc E_ok Zxb 400) ?_
 rw [Zu5];delta qBB1 qBBf qBB2 qBB3 qBB4 qBB5 qBB6 qBB7 qBB8 qBB9 qBBa qBBb qBBc qBBd qBBe qBBg qBBh qBBi qBBj qBBk
 refine ⟨⟨by omega,by omega⟩,fun y hy=> ?_⟩
 have hb:y=Lib.bitLen u:=by rw [hy,show Int.toNat (u:Int)=u by omega]
 obtain ⟨k1,k2⟩:=Lib.numDigits_eq u h1 h2
 have hle:Lib.bitLen u<=64:=bl64 u
 refine ⟨⟨by omega,by omega⟩,fun t ht=> ?_⟩
 have ht:t=Lib.l10 (Lib.bitLen u):=by rw [ht,show Int.toNat (y:Int)=y by omega,hb]
 rw [<-ht] at k1 k2
 generalize Lib.nDigits u=d at*
 clear ht hb hy hle
 refine ⟨by omega,by omega,?_⟩
 have hc:t=0\/t=1\/t=2\/t=3\/t=4\/t=5\/t=6\/t=7\/t=8\/t=9\/t=10\/t=11\/t=12\/t=13\/t=14\/t=15\/t=16\/t=17\/t=18\/t=19:=by omega
 have w:∀n:Int,0<=n->n<=20->wr .i64 n=n:=fun n h0 h1=>wr64 (by omega) (by omega)
 rcases hc with rfl|rfl|rfl|rfl|rfl|rfl|rfl|rfl|rfl|rfl|rfl|rfl|rfl|rfl|rfl|rfl|rfl|rfl|rfl|rfl
 all_goals
  simp
  refine ⟨fun h=> ?_,fun h=> ?_⟩
  · rw [w _ (by decide) (by decide)]
    rw [if_pos (by omega)] at k1
    omega
  · rw [w _ (by decide) (by decide)]
    rw [if_neg (by omega)] at k1
    omega
end
section
open Go
def numL (s:List Nat):Nat:=s.foldl (fun n c=>n*10+(c-48)) 0
def dlM (u:Nat):Nat->List Nat
 |0=> []
 |k+1=>dlM (u/10) k++ [48+u%10]
theorem Zf1 (l:List Nat) (c:Nat):numL (l++ [c])=numL l*10+(c-48):=by
 unfold numL
 rw [List.foldl_append]
 rfl
theorem Vy:∀(k u:Nat),(dlM u k).length=k
 |0,_=>rfl
 |k+1,u=>by
  show (dlM (u/10) k++ [_]).length=_
  rw [List.length_append,Vy k]
  rfl
theorem Zbv:∀r:List Nat,(∀c∈r,48<=c/\c<=57)->dlM (numL r.reverse) r.length=r.reverse
 | [],_=>rfl
 |c::r,h=>by
  have hc:=h c (by simp)
  have ih:=Zbv r fun x hx=>h x (by simp [hx])
  rw [List.reverse_cons,Zf1,List.length_cons]
  show dlM ((numL r.reverse*10+(c-48))/10) r.length++ [48+(numL r.reverse*10+(c-48))%10]=_
  rw [show (numL r.reverse*10+(c-48))/10=numL r.reverse by omega,show 48+(numL r.reverse*10+(c-48))%10=c by omega,ih]
theorem Zuh (l:List Nat) (h:∀c∈l,48<=c/\c<=57):dlM (numL l) l.length=l:=by
 have:=Zbv l.reverse fun c hc=>h c (List.mem_reverse.1 hc)
 rwa [List.reverse_reverse,List.length_reverse] at this
theorem Zbw:∀(l:List Nat) (n:Nat),l.foldl (fun n c=>n*10+(c-48)) n=n*10^l.length+numL l
 | [],n=>by simp [numL]
 |c::r,n=>by
  have e:numL (c::r)=(0*10+(c-48))*10^r.length+numL r:=Zbw r _
  show r.foldl _ (n*10+(c-48))=_
  rw [Zbw r,e,List.length_cons,Nat.pow_succ,Nat.zero_mul,Nat.zero_add,Nat.add_mul,Nat.add_assoc,Nat.mul_assoc,Nat.mul_comm 10 (10^r.length)]
theorem Zn0 (c:Nat) (r:List Nat):numL (c::r)=(c-48)*10^r.length+numL r:=by
 have e:numL (c::r)=(0*10+(c-48))*10^r.length+numL r:=Zbw r _
 rw [e,Nat.zero_mul,Nat.zero_add]
theorem Zui:∀(k u:Nat),u<10^(k+1)->Lib.nDigits u<=k+1
 |0,u,h=>by rw [Lib.nDigits_small (by simpa using h)];exact Nat.le_refl _
 |k+1,u,h=>by
  by_cases h1:u<10
  · rw [Lib.nDigits_small h1];omega
  · rw [Lib.nDigits_big h1]
    rw [Nat.pow_succ] at h
    have:=Zui k (u/10) (by omega)
    omega
def kF (u:Nat):Nat:=max 3 (Lib.nDigits u)
theorem kF3 (u:Nat):3<=kF u:=Nat.le_max_left _ _
theorem Zyj (u:Nat):u<10^kF u:=Nat.lt_of_lt_of_le (Lib.lt_pow_nDigits u) (Nat.pow_le_pow_right (by decide) (Nat.le_max_right _ _))
theorem Zf2:∀(l:List Nat),(∀c∈l,c=48)->numL l=0
 | [],_=>rfl
 |c::r,h=>by
  rw [Zn0,h c (by simp),Zf2 r fun x hx=>h x (by simp [hx])]
  simp
theorem Zeg:∀(k:Nat),∀c∈dlM 0 k,c=48
 |0,c,h=>by cases h
 |k+1,c,h=>by
  rcases List.mem_append.1 h with h|h
  · exact Zeg k c h
  · exact List.mem_singleton.1 h
def Zf3 (u:Nat):List Nat:=(dlM u (kF u)).take (kF u-2)++46::(dlM u (kF u)).drop (kF u-2)
def Zeh (a:Int):List Nat:=(if a<0 then [45] else [])++Zf3 a.natAbs
def cutP:List Nat->List Nat×List Nat×Bool
 | []=>([],[],false)
 |c::r=>if c=46 then ([],r,true) else (c::(cutP r).1,(cutP r).2.1,(cutP r).2.2)
theorem Zbx:∀(p q:List Nat),46∉p->cutP (p++46::q)=(p,q,true)
 | [],q,_=>by show (if (46:Nat)=46 then _ else _)=_;rw [if_pos rfl]
 |c::p,q,h=>by
  have h1:c≠46:=fun e=>h (by simp [e])
  have h2:46∉p:=fun e=>h (by simp [e])
  show (if c=46 then _ else (c::(cutP (p++46::q)).1,(cutP (p++46::q)).2.1,(cutP (p++46::q)).2.2))=_
  rw [if_neg h1,Zbx p q h2]
theorem Zn1:∀(s:List Nat),46∉s->cutP s=(s,[],false)
 | [],_=>rfl
 |c::r,h=>by
  have h1:c≠46:=fun e=>h (by simp [e])
  have h2:46∉r:=fun e=>h (by simp [e])
  show (if c=46 then _ else _)=_
  rw [if_neg h1,Zn1 r h2]
theorem Zn2:∀(s:List Nat),(cutP s).2.2=true->s=(cutP s).1++46::(cutP s).2.1
 | [],h=>by cases h
 |c::r,h=>by
  unfold cutP at h⊢
  split
  · rename_i hc;rw [hc];rfl
  · rename_i hc
    rw [if_neg hc] at h
    show c::r=c::((cutP r).1++46::(cutP r).2.1)
    rw [<-Zn2 r h]
def digB (c:Nat):Bool:=decide (48<=c)&&decide (c<=57)
theorem digB_all {l:List Nat}:l.all digB=true↔∀c∈l,48<=c/\c<=57:=by
 rw [List.all_eq_true]
 constructor
 · intro h c hc
   have:=h c hc
   unfold digB at this
   rw [Bool.and_eq_true,decide_eq_true_eq,decide_eq_true_eq] at this
   exact this
 · intro h c hc
   unfold digB
   rw [Bool.and_eq_true,decide_eq_true_eq,decide_eq_true_eq]
   exact h c hc
def okF (neg:Bool) (W C:List Nat):Prop:=C.length=2/\W≠ []/\(W.head? =some 48->W.length<=1)/\(W++C).all digB=true/\(neg=true->∃c∈W++C,c≠48)
open Classical in
def Zy (neg:Bool) (s:List Nat):Int×Int:=
 if (cutP s).2.2=true/\okF neg (cutP s).1 (cutP s).2.1 then
  (if numL ((cutP s).1++(cutP s).2.1)<=9007199254740992 then ((if neg=true then-(numL ((cutP s).1++(cutP s).2.1):Int) else numL ((cutP s).1++(cutP s).2.1)),0) else (0,3))
 else (0,4)
def Xx (s:List Nat):Int×Int:=if s.head? =some 45 then Zy true s.tail else Zy false s
end
section
open Go
def ndZ (u:Int) (k:Res thy->Prop):List Int->Prop
 | []=>True
 |j::r=>((Lib.nDigits u.toNat:Int)=j->k (quiet [] (.int true .i64 j)))/\ndZ u k r
def SndZ:Sum thy:=fun args _ _ k=>
 match args with
 | [.int _ .u64 u]=>(1<=u/\u<10000000000000000000)/\ndZ u k [1,2,3,4,5,6,7,8,9,10,11,12,13,14,15,16,17,18,19]
 |_=>False
def SsmZ:Sum thy:=Xe (dA1 dN) (fun x=>0<=x.1/\x.1<100) (fun x=>(Lib.decDigits x.1.toNat).map UInt8.toNat) fun y=> .str false y
def FitZ:Fns thy:=addS (addS F0 82 SndZ) 81 SsmZ
def smZ:List Nat:= [48,48,48,49,48,50,48,51,48,52,48,53,48,54,48,55,48,56,48,57,49,48,49,49,49,50,49,51,49,52,49,53,49,54,49,55,49,56,49,57,50,48,50,49,50,50,50,51,50,52,50,53,50,54,50,55,50,56,50,57,51,48,51,49,51,50,51,51,51,52,51,53,51,54,51,55,51,56,51,57,52,48,52,49,52,50,52,51,52,52,52,53,52,54,52,55,52,56,52,57,53,48,53,49,53,50,53,51,53,52,53,53,53,54,53,55,53,56,53,57,54,48,54,49,54,50,54,51,54,52,54,53,54,54,54,55,54,56,54,57,55,48,55,49,55,50,55,51,55,52,55,53,55,54,55,55,55,56,55,57,56,48,56,49,56,50,56,51,56,52,56,53,56,54,56,55,56,56,56,57,57,48,57,49,57,50,57,51,57,52,57,53,57,54,57,55,57,56,57,57]
def pZ (b:Int) (K:Nat->Nat->Prop):Prop:=0<=wr .u32 (b+1)/\wr .u32 (b+1)+1<=(smZ.length:Int)/\∀x:Nat,smZ[(wr .u32 (b+1)).toNat]? =some x->0<=b/\b+1<=(smZ.length:Int)/\∀y:Nat,smZ[b.toNat]? =some y->K (Int.toNat (x:Int)%256) (Int.toNat (y:Int)%256)
def e8Z (u:Int) (L:List Nat) (K:List Nat->Prop):Prop:=
 pZ (wr .u32 (Int.tmod (Int.tmod (wr .u32 (Int.tmod u 100000000)) 10000) 100*2)) fun a b=>
 pZ (wr .u32 (wr .u32 (Int.tdiv (Int.tmod (wr .u32 (Int.tmod u 100000000)) 10000) 100)*2)) fun c d=>
 pZ (wr .u32 (Int.tmod (wr .u32 (Int.tdiv (wr .u32 (Int.tmod u 100000000)) 10000)) 100*2)) fun e f=>
 pZ (wr .u32 (wr .u32 (Int.tdiv (wr .u32 (Int.tdiv (wr .u32 (Int.tmod u 100000000)) 10000)) 100)*2)) fun g h=>K (h::g::f::e::d::c::b::a::L)
def e4Z (v:Int) (L:List Nat) (K:List Nat->Prop):Prop:=
 pZ (wr .u32 (Int.tmod (Int.tmod v 10000) 100*2)) fun a b=>
 pZ (wr .u32 (wr .u32 (Int.tdiv (Int.tmod v 10000) 100)*2)) fun c d=>K (d::c::b::a::L)
def e2Z (v:Int) (L:List Nat) (K:List Nat->Prop):Prop:=pZ (wr .u32 (Int.tmod v 100*2)) fun a b=>K (b::a::L)
def e1Z (v:Int) (L:List Nat) (K:List Nat->Prop):Prop:=K (Int.toNat (wr .u8 (wr .u32 (48+v)))%256::L)
def loZ:Nat->Int->List Nat->(List Nat->Prop)->Prop
 |0,_,L,K=>K L
 |1,v,L,K=>e1Z v L K
 |2,v,L,K=>e2Z v L K
 |3,v,L,K=>e2Z v L fun L=>e1Z (wr .u32 (Int.tdiv v 100)) L K
 |4,v,L,K=>e4Z v L K
 |5,v,L,K=>e4Z v L fun L=>e1Z (wr .u32 (Int.tdiv v 10000)) L K
 |6,v,L,K=>e4Z v L fun L=>e2Z (wr .u32 (Int.tdiv v 10000)) L K
 |7,v,L,K=>e4Z v L fun L=>e2Z (wr .u32 (Int.tdiv v 10000)) L fun L=>e1Z (wr .u32 (Int.tdiv (wr .u32 (Int.tdiv v 10000)) 100)) L K
 |_,_,_,_=>False
def hiM (j:Nat) (u:Int) (L:List Nat) (K:List Nat->Prop):Prop:=
 if j<8 then loZ j (wr .u32 u) L K
 else e8Z u L fun L=>if j<16 then loZ (j-8) (wr .u32 (wr .u64 (Int.tdiv u 100000000))) L K
  else e8Z (wr .u64 (Int.tdiv u 100000000)) L fun L=>loZ (j-16) (wr .u32 (wr .u64 (Int.tdiv (wr .u64 (Int.tdiv u 100000000)) 100000000))) L K
def allM (u:Int) (v:List Nat):List Nat->Prop
 | []=>True
 |j::r=>((Lib.nDigits u.toNat:Int)=j->hiM j u [] fun L=>L=v)/\allM u v r
theorem Zrc (u:Int) (v:List Nat):Zu E FitZ (vc E FitZ 2000) 37 [.int false .u64 u,.int true .i64 10] hp0 0 (fun r=>ret E (patch hp0 0 r) r.v (.str false v))=(
 (decide (u<100)=true->(0<=wr .i64 u/\wr .i64 u+1<=100)/\∀(y:List Nat),y=(Lib.decDigits (wr .i64 u).toNat).map UInt8.toNat->y=v)/\(decide (u<100)=false->(1<=u/\u+1<=10000000000000000000)/\allM u v [1,2,3,4,5,6,7,8,9,10,11,12,13,14,15,16,17,18,19])):=by kernel_rfl
theorem Zn3 {u:Int} {k:Res thy->Prop}:∀{l:List Int},ndZ u k l->∀j∈l,(Lib.nDigits u.toNat:Int)=j->k (quiet [] (.int true .i64 j))
 | [],_,j,hj,_=>by cases hj
 |x::r,h,j,hj,e=>by
  rcases List.mem_cons.1 hj with rfl|hj
  · exact h.1 e
  · exact Zn3 h.2 j hj e
theorem Zn4:∀(k u:Nat),u<10^(k+1)->Lib.nDigits u<=k+1
 |0,u,h=>by rw [Lib.nDigits_small (by simpa using h)];exact Nat.le_refl _
 |k+1,u,h=>by
  by_cases h1:u<10
  · rw [Lib.nDigits_small h1];omega
  · rw [Lib.nDigits_big h1]
    rw [Nat.pow_succ] at h
    have:=Zn4 k (u/10) (by omega)
    omega
theorem in19 (d:Nat) (h1:1<=d) (h2:d<=19):(d:Int)∈ [(1:Int),2,3,4,5,6,7,8,9,10,11,12,13,14,15,16,17,18,19]:=by
 have:d=1\/d=2\/d=3\/d=4\/d=5\/d=6\/d=7\/d=8\/d=9\/d=10\/d=11\/d=12\/d=13\/d=14\/d=15\/d=16\/d=17\/d=18\/d=19:=by omega
 rcases this with rfl|rfl|rfl|rfl|rfl|rfl|rfl|rfl|rfl|rfl|rfl|rfl|rfl|rfl|rfl|rfl|rfl|rfl|rfl<;>decide
theorem Zuj:SumOk E 82 SndZ:=by
 have hS:SumOk E 82 (Xe (dA1 dU64) (fun x=>1<=x.1/\x.1<10000000000000000000) (fun x=>Lib.nDigits x.1.toNat) fun (y:Nat)=> .int true .i64 y):=Zq E_ok (Zg rfl) fun x h=>by
  have:=Zu6 x.1.toNat (by omega) (by omega)
  rw [show ((x.1.toNat:Nat):Int)=x.1 by omega] at this
  intro g w vals hI hd
  refine (this g w vals hI hd).mono ?_
  rintro en w' ⟨u,he,g',h1,h2,h3⟩
  cases h3
  exact ⟨_,he,g',h1,h2,.int _ _ _⟩
 refine ⟨hS.good,fun args h i k hD hk=> ?_⟩
 unfold SndZ at hk
 split at hk
 case h_2=>exact hk.elim
 rename_i l u
 obtain ⟨⟨h1,h2⟩,hk⟩:=hk
 refine hS.ok _ h i k hD ⟨⟨h1,h2⟩,fun y hy=> ?_⟩
 subst hy
 have hn:=Zn4 18 u.toNat (by show u.toNat<10000000000000000000;omega)
 have hp:=Lib.nDigits_pos u.toNat
 refine Zn3 hk _ (in19 _ hp hn) rfl
theorem Zuk:SumOk E 81 SsmZ:=Zq E_ok (Zg rfl) fun x h=>by
 have:=Zlw x.1.toNat (by omega)
 rw [show ((x.1.toNat:Nat):Int)=x.1 by omega] at this
 exact this
theorem Zul:FnsOk E FitZ:=Zh (Zh F0_ok Zuj) Zuk
def smVZ (i:Nat):Nat:=if i%2=0 then 48+i/2/10 else 48+i/2%10
theorem Zn5:∀i,i<200->smZ[i]? =some (smVZ i):=by decide+kernel
theorem Zum:smZ.length=200:=by decide+kernel
theorem Zyk (x:Int):wr .u64 x=x%18446744073709551616:=rfl
theorem Za1 (x:Int):wr .u32 x=x%4294967296:=rfl
theorem wuZ8 (x:Int):wr .u8 x=x%256:=rfl
theorem Zh1 {m:Nat} (hm:m<100) {b:Int} (hb:b=((m*2:Nat):Int)) {K:Nat->Nat->Prop} (h:K (48+m%10) (48+m/10)):pZ b K:=by
 have e1:wr .u32 (b+1)=((m*2+1:Nat):Int):=by rw [Za1];omega
 unfold pZ
 rw [e1,Zum,Int.toNat_natCast]
 refine ⟨by omega,by omega,fun x hx=>⟨by omega,by omega,fun y hy=> ?_⟩⟩
 rw [Zn5 _ (by omega)] at hx
 rw [hb,Int.toNat_natCast,Zn5 _ (by omega)] at hy
 cases hx
 cases hy
 rw [Int.toNat_natCast,Int.toNat_natCast]
 have a1:smVZ (m*2+1)%256=48+m%10:=by unfold smVZ;rw [if_neg (by omega)];omega
 have a2:smVZ (m*2)%256=48+m/10:=by unfold smVZ;rw [if_pos (by omega)];omega
 rw [a1,a2]
 exact h
def dgZ (u j:Nat):Nat:=48+u/10^j%10
theorem Ztd (u:Nat) {L:List Nat} {K:List Nat->Prop} (h:K (dgZ u 7::dgZ u 6::dgZ u 5::dgZ u 4::dgZ u 3::dgZ u 2::dgZ u 1::dgZ u 0::L)):e8Z (u:Int) L K:=by
 refine Zh1 (m:=u%100000000%10000%100) (by omega) (by simp (disch:=omega) only [Za1,Int.tmod_eq_emod_of_nonneg,Int.tdiv_eq_ediv_of_nonneg];omega) ?_
 refine Zh1 (m:=u%100000000%10000/100) (by omega) (by simp (disch:=omega) only [Za1,Int.tmod_eq_emod_of_nonneg,Int.tdiv_eq_ediv_of_nonneg];omega) ?_
 refine Zh1 (m:=u%100000000/10000%100) (by omega) (by simp (disch:=omega) only [Za1,Int.tmod_eq_emod_of_nonneg,Int.tdiv_eq_ediv_of_nonneg];omega) ?_
 refine Zh1 (m:=u%100000000/10000/100) (by omega) (by simp (disch:=omega) only [Za1,Int.tmod_eq_emod_of_nonneg,Int.tdiv_eq_ediv_of_nonneg];omega) ?_
 refine Eq.mp (congrArg K ?_) h
 simp only [dgZ,List.cons.injEq,and_true,Nat.reducePow]
 repeat' apply And.intro
 all_goals omega
theorem Zjo (v:Nat) {L:List Nat} {K:List Nat->Prop} (h:K (dgZ v 3::dgZ v 2::dgZ v 1::dgZ v 0::L)):e4Z (v:Int) L K:=by
 refine Zh1 (m:=v%10000%100) (by omega) (by simp (disch:=omega) only [Za1,Int.tmod_eq_emod_of_nonneg,Int.tdiv_eq_ediv_of_nonneg];omega) ?_
 refine Zh1 (m:=v%10000/100) (by omega) (by simp (disch:=omega) only [Za1,Int.tmod_eq_emod_of_nonneg,Int.tdiv_eq_ediv_of_nonneg];omega) ?_
 refine Eq.mp (congrArg K ?_) h
 simp only [dgZ,List.cons.injEq,and_true,Nat.reducePow]
 repeat' apply And.intro
 all_goals omega
theorem Zjp (v:Nat) {L:List Nat} {K:List Nat->Prop} (h:K (dgZ v 1::dgZ v 0::L)):e2Z (v:Int) L K:=by
 refine Zh1 (m:=v%100) (by omega) (by simp (disch:=omega) only [Za1,Int.tmod_eq_emod_of_nonneg,Int.tdiv_eq_ediv_of_nonneg];omega) ?_
 refine Eq.mp (congrArg K ?_) h
 simp only [dgZ,List.cons.injEq,and_true,Nat.reducePow]
 repeat' apply And.intro
 all_goals omega
theorem Zjq (v:Nat) (hv:v<10) {L:List Nat} {K:List Nat->Prop} (h:K (dgZ v 0::L)):e1Z (v:Int) L K:=by
 have e:Int.toNat (wr .u8 (wr .u32 (48+(v:Int))))%256=dgZ v 0:=by unfold dgZ;rw [wuZ8,Za1];simp only [Nat.reducePow];omega
 unfold e1Z
 rw [e]
 exact h
theorem q2Z (v:Nat) (hv:v<10000):wr .u32 (Int.tdiv (v:Int) 100)=((v/100:Nat):Int):=by simp (disch:=omega) only [Za1,Int.tdiv_eq_ediv_of_nonneg];omega
theorem q4Z (v:Nat) (hv:v<4294967296):wr .u32 (Int.tdiv (v:Int) 10000)=((v/10000:Nat):Int):=by simp (disch:=omega) only [Za1,Int.tdiv_eq_ediv_of_nonneg];omega
def dlZ (u j:Nat):List Nat:=(List.range j).map fun t=>dgZ u (j-1-t)
theorem Zn6:∀(j:Nat),j<=7->∀(v:Nat),v<10^j->∀{L:List Nat} {K:List Nat->Prop},K (dlZ v j++L)->loZ j (v:Int) L K
 |0,_,v,_,L,K,h=>h
 |1,_,v,hv,L,K,h=>Zjq v (by simpa using hv) h
 |2,_,v,_,L,K,h=>Zjp v h
 |3,_,v,hv,L,K,h=>by
  show e2Z (v:Int) L fun L=>e1Z (wr .u32 (Int.tdiv (v:Int) 100)) L K
  refine Zjp v ?_
  rw [q2Z v (by simp only [Nat.reducePow] at hv;omega)]
  refine Zjq _ (by simp only [Nat.reducePow] at hv;omega) (Eq.mp (congrArg K ?_) h)
  simp only [dlZ,dgZ,List.range,List.range.loop,List.map_cons,List.map_nil,List.cons_append,List.nil_append,List.cons.injEq,and_true,Nat.reduceSub,Nat.reducePow]
  repeat' apply And.intro
  all_goals omega
 |4,_,v,_,L,K,h=>Zjo v h
 |5,_,v,hv,L,K,h=>by
  show e4Z (v:Int) L fun L=>e1Z (wr .u32 (Int.tdiv (v:Int) 10000)) L K
  refine Zjo v ?_
  rw [q4Z v (by simp only [Nat.reducePow] at hv;omega)]
  refine Zjq _ (by simp only [Nat.reducePow] at hv;omega) (Eq.mp (congrArg K ?_) h)
  simp only [dlZ,dgZ,List.range,List.range.loop,List.map_cons,List.map_nil,List.cons_append,List.nil_append,List.cons.injEq,and_true,Nat.reduceSub,Nat.reducePow]
  repeat' apply And.intro
  all_goals omega
 |6,_,v,hv,L,K,h=>by
  show e4Z (v:Int) L fun L=>e2Z (wr .u32 (Int.tdiv (v:Int) 10000)) L K
  refine Zjo v ?_
  rw [q4Z v (by simp only [Nat.reducePow] at hv;omega)]
  refine Zjp _ (Eq.mp (congrArg K ?_) h)
  simp only [dlZ,dgZ,List.range,List.range.loop,List.map_cons,List.map_nil,List.cons_append,List.nil_append,List.cons.injEq,and_true,Nat.reduceSub,Nat.reducePow]
  repeat' apply And.intro
  all_goals omega
 |7,_,v,hv,L,K,h=>by
  show e4Z (v:Int) L fun L=>e2Z (wr .u32 (Int.tdiv (v:Int) 10000)) L fun L=>e1Z (wr .u32 (Int.tdiv (wr .u32 (Int.tdiv (v:Int) 10000)) 100)) L K
  refine Zjo v ?_
  rw [q4Z v (by simp only [Nat.reducePow] at hv;omega)]
  refine Zjp _ ?_
  rw [q2Z _ (by simp only [Nat.reducePow] at hv;omega)]
  refine Zjq _ (by simp only [Nat.reducePow] at hv;omega) (Eq.mp (congrArg K ?_) h)
  simp only [dlZ,dgZ,List.range,List.range.loop,List.map_cons,List.map_nil,List.cons_append,List.nil_append,List.cons.injEq,and_true,Nat.reduceSub,Nat.reducePow]
  repeat' apply And.intro
  all_goals omega
 |j+8,hj,_,_,_,_,_=>by omega
theorem Zwu (u j:Nat):dlZ u (j+8)=dlZ (u/100000000) j++ [dgZ u 7,dgZ u 6,dgZ u 5,dgZ u 4,dgZ u 3,dgZ u 2,dgZ u 1,dgZ u 0]:=by
 unfold dlZ
 rw [List.range_add,List.map_append]
 congr 1
 · refine List.map_congr_left fun t ht=> ?_
   have ht:=List.mem_range.1 ht
   unfold dgZ
   rw [Nat.div_div_eq_div_mul,show (100000000:Nat)=10^8 by decide,<-Nat.pow_add,show 8+(j-1-t)=j+8-1-t by omega]
 · simp only [List.range,List.range.loop,List.map_cons,List.map_nil]
   rw [show j+8-1-(j+0)=7 by omega,show j+8-1-(j+1)=6 by omega,show j+8-1-(j+2)=5 by omega,show j+8-1-(j+3)=4 by omega,show j+8-1-(j+4)=3 by omega,show j+8-1-(j+5)=2 by omega,show j+8-1-(j+6)=1 by omega,show j+8-1-(j+7)=0 by omega]
theorem Zwv (j u:Nat) (hj:j<=19) (hu:u<10^j) (hu2:u<18446744073709551616) {K:List Nat->Prop} (h:K (dlZ u j)):hiM j (u:Int) [] K:=by
 unfold hiM
 have e64:∀u:Nat,u<18446744073709551616->wr .u64 (Int.tdiv (u:Int) 100000000)=((u/100000000:Nat):Int):=fun u hu2=>by simp (disch:=omega) only [Zyk,Int.tdiv_eq_ediv_of_nonneg];omega
 have e32:∀u:Nat,u<10000000->wr .u32 (u:Int)=u:=fun u hu=>by rw [Za1];omega
 split
 · rename_i h8
   have h7:u<10000000:=Nat.lt_of_lt_of_le hu (Nat.pow_le_pow_right (by decide) (by omega:j<=7))
   rw [e32 u h7]
   exact Zn6 j (by omega) u hu (by rw [List.append_nil];exact h)
 · rename_i h8
   obtain ⟨k,rfl⟩:∃k,j=k+8:=⟨j-8,by omega⟩
   have hd:u/100000000<10^k:=by
    rw [Nat.pow_add] at hu
    exact Nat.div_lt_of_lt_mul (by rw [Nat.mul_comm];exact hu)
   rw [Zwu] at h
   refine Ztd u ?_
   rw [e64 u hu2]
   split
   · rename_i h16
     rw [Nat.add_sub_cancel]
     have h7:u/100000000<10000000:=Nat.lt_of_lt_of_le hd (Nat.pow_le_pow_right (by decide) (by omega:k<=7))
     rw [e32 _ h7]
     exact Zn6 k (by omega) _ hd h
   · obtain ⟨m,rfl⟩:∃m,k=m+8:=⟨k-8,by omega⟩
     have hd2:u/100000000/100000000<10^m:=by
      rw [Nat.pow_add] at hd
      exact Nat.div_lt_of_lt_mul (by rw [Nat.mul_comm];exact hd)
     rw [Zwu,List.append_assoc] at h
     refine Ztd (u/100000000) ?_
     have h7:u/100000000/100000000<10000000:=Nat.lt_of_lt_of_le hd2 (Nat.pow_le_pow_right (by decide) (by omega:m<=7))
     rw [e64 _ (by omega),e32 _ h7,show m+8+8-16=m by omega]
     exact Zn6 m (by omega) _ hd2 h
theorem Zf4 (u k:Nat) (h:Lib.nDigits u=k):(Lib.decDigits u).map UInt8.toNat=dlZ u k:=by
 rw [Lib.decDigits_eq,List.map_map,h]
 refine List.map_congr_left fun t _=> ?_
 show (Lib.dg u (k-1-t)).toNat=_
 unfold Lib.dg dgZ
 rw [UInt8.toNat_ofNat']
 omega
theorem Zn7 {u:Int} {v:List Nat}:∀{l:List Nat},(∀j∈l,Lib.nDigits u.toNat=j->hiM j u [] fun L=>L=v)->allM u v l
 | [],_=>trivial
 |j::r,h=>⟨fun e=>h j List.mem_cons_self (Int.ofNat.inj e),Zn7 fun i hi=>h i (List.mem_cons_of_mem _ hi)⟩
theorem Zun (u:Nat) (hu:u<10000000000000000000):PureC E 37 [.int false .u64 (u:Int),.int true .i64 10] (.str false ((Lib.decDigits u).map UInt8.toNat)):=by
 refine Zb E_ok (Zc E_ok Zul 2000) ?_
 rw [Zrc]
 refine ⟨fun h=> ?_,fun h=>⟨?_,Zn7 fun j _ hj=> ?_⟩⟩
 · have h:=of_decide_eq_true h
   have e:wr .i64 (u:Int)=u:=wr64 (by omega) (by omega)
   rw [e]
   exact ⟨⟨by omega,by omega⟩,fun y hy=>hy⟩
 · have h:=of_decide_eq_false h
   exact ⟨by omega,by omega⟩
 · rw [Int.toNat_natCast] at hj
   have hp:=Lib.lt_pow_nDigits u
   have hle:=Zn4 18 u hu
   rw [hj] at hp hle
   exact Zwv j u hle hp (by omega) (Zf4 u j hj).symm
theorem Zww:∀(k u:Nat),dlZ u k=dlM u k
 |0,u=>rfl
 |k+1,u=>by
  show dlZ u (k+1)=dlM (u/10) k++ [48+u%10]
  rw [<-Zww k (u/10)]
  unfold dlZ
  rw [List.range_succ,List.map_append]
  congr 1
  · refine List.map_congr_left fun t ht=> ?_
    have ht:=List.mem_range.1 ht
    unfold dgZ
    rw [Nat.div_div_eq_div_mul,show (10:Nat)*10^(k-1-t)=10^(k+1-1-t) by rw [Nat.mul_comm,<-Nat.pow_succ];congr 1;omega]
  · simp [dgZ]
def Sfu:Sum thy:=Xe (dL2 dU64 dN) (fun x=>x.2.1=10/\0<=x.1/\x.1<10000000000000000000) (fun x=>dlM x.1.toNat (Lib.nDigits x.1.toNat)) fun y=> .str false y
theorem Zwx:SumOk E 37 Sfu:=Zq E_ok (Zg (f:=37) rfl) fun x h=>by
 obtain ⟨u,b,_⟩:=x
 obtain ⟨rfl,h1,h2⟩:b=10/\0<=u/\u<10000000000000000000:=h
 have:=Zun u.toNat (by omega)
 rw [show ((u.toNat:Nat):Int)=u by omega,Zf4 _ _ rfl,Zww] at this
 intro g w vals hI hd
 refine this g w vals hI ⟨hd.1,fun j sv v k1 k2=> ?_⟩
 match j,k1 with
 |0,k1=>exact hd.2 0 _ v (by exact k1) k2
 |1,k1=>
  cases k1
  have:=hd.2 1 _ v rfl k2
  cases this
  exact .int _ _ _
end
section
open Go Go.RowKit
theorem Zpc (s:List Nat) (a b:List Nat) (f:Bool):Zu E F0 (vc E F0 400) 33 [.str false s,.str true [46]] hp0 0 (fun r=>ret E (patch hp0 0 r) r.v (.tup [.str false a,.str false b,.bool false f]))=(
(([(46:Nat)]==s)=true->((0:Int)<=(0:Int)/\(0:Int)<=(↑(List.length s):Int))/\((0:Int)<=(1:Int)/\(1:Int)<=(↑(List.length s):Int))/\List.take (Int.toNat (0:Int)) s=a/\List.drop (Int.toNat (1:Int)) s=b/\true=f/\True)/\(([(46:Nat)]==s)=false->(decide (idxL (Int.toNat (46:Int)%(256:Nat)) (0:Nat) s>=(0:Int))=true->((0:Int)<=idxL (Int.toNat (46:Int)%(256:Nat)) (0:Nat) s/\idxL (Int.toNat (46:Int)%(256:Nat)) (0:Nat) s<=(↑(List.length s):Int))/\((0:Int)<=wr IntKind.i64 (idxL (Int.toNat (46:Int)%(256:Nat)) (0:Nat) s+(1:Int))/\wr IntKind.i64 (idxL (Int.toNat (46:Int)%(256:Nat)) (0:Nat) s+(1:Int))<=(↑(List.length s):Int))/\List.take (Int.toNat (idxL (Int.toNat (46:Int)%(256:Nat)) (0:Nat) s)) s=a/\List.drop (Int.toNat (wr IntKind.i64 (idxL (Int.toNat (46:Int)%(256:Nat)) (0:Nat) s+(1:Int)))) s=b/\true=f/\True)/\(decide (idxL (Int.toNat (46:Int)%(256:Nat)) (0:Nat) s>=(0:Int))=false->s=a/\ []=b/\false=f/\True))):=by kernel_rfl
theorem Zpd (s:List Nat) (a:List Nat) (f:Bool):Zu E F0 (vc E F0 400) 32 [.str false s,.str true [45]] hp0 0 (fun r=>ret E (patch hp0 0 r) r.v (.tup [.str false a,.bool false f]))=(
(decide ((↑(List.length s):Int)>=(1:Int))=true->((0:Int)<=(1:Int)/\(1:Int)<=(↑(List.length s):Int))/\((List.take (Int.toNat (1:Int)) s== [(45:Nat)])=true->((0:Int)<=(1:Int)/\(1:Int)<=(↑(List.length s):Int))/\List.drop (Int.toNat (1:Int)) s=a/\true=f/\True)/\((List.take (Int.toNat (1:Int)) s== [(45:Nat)])=false->s=a/\false=f/\True))/\(decide ((↑(List.length s):Int)>=(1:Int))=false->s=a/\false=f/\True)):=by kernel_rfl
theorem Zpe (v:List Nat):Zu E F0 (vc E F0 400) 38 [.str true [48],.int true .i64 1] hp0 0 (fun r=>ret E (patch hp0 0 r) r.v (.str false v))=(
[(48:Nat)]=v):=by kernel_rfl
theorem Zpf (v:List Nat):Zu E F0 (vc E F0 400) 38 [.str true [48],.int true .i64 2] hp0 0 (fun r=>ret E (patch hp0 0 r) r.v (.str false v))=(
∃(Q:Bool->Prop),Q false/\(Q true->False)/\(Q false-> [(48:Nat),(48:Nat)]=v)):=by kernel_rfl
end
section
open Go Go.RowKit
def Vm (n:Nat) (l:List UInt8):Nat:=l.foldl (fun n c=>n*10+(c.toNat-48)) n
theorem Zjx:∀(l:List UInt8) (n:Nat),n<=Vm n l
 | [],n=>Nat.le_refl _
 |c::r,n=>by
  have:=Zjx r (n*10+(c.toNat-48))
  show n<=Vm (n*10+(c.toNat-48)) r
  omega
theorem Zgg:∀(l:List UInt8) (n:Nat),Vm n l=(l.map UInt8.toNat).foldl (fun n c=>n*10+(c-48)) n
 | [],n=>rfl
 |c::r,n=>Zgg r _
def puR (m:Nat):Value:=if m<=9223372036854775807 then .tuple #[.int .u64 m,.nilIface] else .tuple #[.int .u64 9223372036854775807,.iface 103 (.int .i64 1)]
theorem Zom {n:Nat} {l:List UInt8} (h:9223372036854775807<n):puR (Vm n l)= .tuple #[.int .u64 9223372036854775807,.iface 103 (.int .i64 1)]:=by
 have:=Zjx l n
 unfold puR
 rw [if_neg (by omega)]
set_option maxHeartbeats 32000000 in
set_option maxRecDepth 100000 in
theorem Zu3 (t:ByteArray) (hne:t.size≠0) (hmax:t.size<=9223372036854775806) (hdg:∀c∈t.data.toList,48<=c.toNat/\c.toNat<=57) (w:World):
 Calls Tryz.prog 57 #[.string t,.int .i64 10,.int .i64 63] w fun e w'=>e= .returned (puR (Vm 0 t.data.toList))/\w'=Lib.bytesWorld w 5 t:=by
 have hemp:t.toList.isEmpty=false:=by
  rw [<-decide_eq_emptyBytes]
  exact decide_eq_false (fun h=>hne (by rw [h];rfl))
 have hcv:=Lib.run_convert_string_bytes (P:=Tryz.prog) w 9 69 5 t (u:= .string) Tryz.underlying9 Tryz.underlying69 Tryz.underlying5
 have hB:∀j,j<t.size->(Lib.bytesWorld w 5 t).cell? ⟨w.heap.size,j,none⟩=some (.int .u8 (t.data.toList.getD j 0).toNat):=fun j hj=>Lib.bytesWorld_cell w 5 t j hj
 obtain ⟨W1,hW1⟩:∃W1,W1=Lib.bytesWorld w 5 t:=⟨_,rfl⟩
 rw [<-hW1] at hcv hB⊢
 clear hW1
 obtain ⟨bs,hL⟩:∃bs,bs=t.data.toList:=⟨_,rfl⟩
 have hLn:bs.length=t.size:=by rw [hL,Lib.size_eq]
 rw [<-hL] at hB hdg⊢
 clear hL
 have hmv:IntKind.u64.wrap (IntKind.u64.wrap 9223372036854775808-1)=9223372036854775807:=by
  rw [IntKind.wrap_u64,IntKind.wrap_u64]
  decide
 go_enter Tryz.func57,Tryz.ntmps57
 go_wp2
 go_loop [12,13,101] (fun vu vn vi=>∃(k n:Nat) (a:Int),vu= .bool false/\vn= .int .u64 a/\vi= .int .i64 k/\k<=t.size/\Hid (a=(n:Int)/\n<=9223372036854775807/\Vm 0 bs=Vm n (bs.drop k)))
  (fun _ _ vi=>t.size-(intOf vi).toNat)
 case atStart=>exact ⟨0,0,0,rfl,rfl,rfl,by omega,rfl,by omega,rfl⟩
 case round=>
  obtain ⟨k,n,a,rfl,rfl,rfl,hk,hh⟩:=hrel
  obtain ⟨ha,hn,hG⟩:=hh.out
  clear hh
  have a0:0<=a:=by omega
  have a1:a<=9223372036854775807:=by omega
  by_cases hkn:k<t.size
  · have hc:=hB k hkn
    have hdrop:bs.drop k=bs[k]'(by omega)::bs.drop (k+1):=List.drop_eq_getElem_cons (by omega)
    have hget:bs.getD k 0=bs[k]'(by omega):=by simp [List.getD,gB9 (show k<bs.length by omega)]
    have hcd:=hdg (bs[k]'(by omega)) (List.getElem_mem _)
    rw [hdrop] at hG
    rw [hget] at hc
    generalize bs[k]'(by omega)=c at hc hG hcd
    obtain ⟨hd0,hd1⟩:=hcd
    have hc256:c.toNat<256:=c.toNat_lt
    clear hB hdrop hget
    have hF:Vm n (c::bs.drop (k+1))=Vm (n*10+(c.toNat-48)) (bs.drop (k+1)):=rfl
    rw [hF] at hG
    clear hF
    by_cases hcut:1844674407370955162<=n
    · have hR:puR (Vm 0 bs)= .tuple #[.int .u64 9223372036854775807,.iface 103 (.int .i64 1)]:=by rw [hG];exact Zom (by omega)
      have icut:1844674407370955162<=a:=by omega
      clear hG ha hn hcut
      go_wp2
      go_ret2
      exact ⟨by first|rfl|(rw [hR]),rfl⟩
    · have icut:a<1844674407370955162:=by omega
      by_cases hov:9223372036854775807<n*10+(c.toNat-48)
      · have hR:puR (Vm 0 bs)= .tuple #[.int .u64 9223372036854775807,.iface 103 (.int .i64 1)]:=by rw [hG];exact Zom hov
        have iov:9223372036854775807<a*10+((c.toNat:Int)-48):=by omega
        clear hG ha hn hcut hov
        by_cases hw:a*10+((c.toNat:Int)-48)<18446744073709551616
        · have hw2:IntKind.u64.wrap (a*10+((c.toNat:Int)-48))=a*10+((c.toNat:Int)-48):=by rw [IntKind.wrap_u64];omega
          go_wp2
          go_ret2
          exact ⟨by first|rfl|(rw [hR]),rfl⟩
        · have hw2:IntKind.u64.wrap (a*10+((c.toNat:Int)-48))=a*10+((c.toNat:Int)-48)-18446744073709551616:=by rw [IntKind.wrap_u64];omega
          go_wp2
          go_ret2
          exact ⟨by first|rfl|(rw [hR]),rfl⟩
      · have HN:Hid (a*10+((c.toNat:Int)-48)=((n*10+(c.toNat-48):Nat):Int)/\n*10+(c.toNat-48)<=9223372036854775807/\Vm 0 bs=Vm (n*10+(c.toNat-48)) (bs.drop (k+1))):=⟨by omega,by omega,hG⟩
        have iov:a*10+((c.toNat:Int)-48)<=9223372036854775807:=by omega
        clear hG ha hn hcut hov
        go_wp2
        refine ⟨⟨k+1,n*10+(c.toNat-48),a*10+((c.toNat:Int)-48),rfl,(by first|rfl|(congr 1;omega)),(by first|rfl|(congr 1;omega)),by omega,HN⟩,by simp [intOf];omega⟩
  · have hkk:k=t.size:=by omega
    subst hkk
    have hF:Vm n (bs.drop t.size)=n:=by rw [List.drop_eq_nil_of_le (by omega)];rfl
    rw [hF] at hG
    have hR:puR (Vm 0 bs)= .tuple #[.int .u64 n,.nilIface]:=by rw [hG];unfold puR;rw [if_pos hn]
    subst ha
    clear hG hF hn
    go_wp2
    go_ret2
    exact ⟨by first|rfl|(rw [hR]),rfl⟩
end
section
open Go
theorem Zaq {f:FuncId} {args:List (SV thy)} {v:SV thy} (h:∀(g:GH) (w:World) (vals:Array Value),Inv E w.heap.size σ0 hp0 g w->DenL E σ0 g args vals.toList->Calls E.P f vals w fun en w'=>∃u,en= .returned u/\Den E σ0 g v u/\Ext w w'):PureC E f args v:=by
 intro g w vals hI hd
 refine (h g w vals hI hd).mono ?_
 rintro en w' ⟨u,he,hv,hx⟩
 refine ⟨u,he,g,⟨.refl _,fun b p h=> .inl h,.refl _,fun _ _ _ h=> .inl h,fun _ _ h=> .inl h,fun r hr _=>hx.block hr,hx.size,hx.os,hx.tape,hx.output,fun b r z h1 h2=>by cases h2⟩,?_,hv⟩
 refine ⟨fun r o u hu=>hx.cell (hI.gc r o u hu),fun r es hu=> ?_,(fun b x hx=>by cases hx),fun b b' r z z' h1=>absurd rfl h1,(fun b r z hs=>by cases hs),(fun b x r z o v hx=>by cases hx),(fun b x r z hx=>by cases hx),hI.glob⟩
 obtain ⟨c,hc⟩:=hI.gm r es hu
 have hr:r<w.heap.size:=by
  rcases Nat.lt_or_ge r w.heap.size with h|h
  · exact h
  · rw [Array.getElem?_eq_none h] at hc;cases hc
 exact ⟨c,by rw [hx.block hr];exact hc⟩
end
section
open Go Go.RowKit
def ds10:List Nat:= [48,49,50,51,52,53,54,55,56,57]
def Za2 (k s:List Nat):List Nat:=(Lib.trimS (mkS s).data.toList (mkS k).data.toList).map UInt8.toNat
theorem Zdr {k:List Nat} (hk:(mkS k).data.toList.all (fun b=>decide (b.toNat<128))=true) (hk2:k.length<4294967281) (s:List Nat) (hs:s.length<=9223372036854775807):PureC E 34 [.str false s,.str false k] (.str false (Za2 k s)):=by
 refine Wg fun g w vals hd=> ?_
 obtain ⟨u,v,rfl,hu,hv⟩:=Zyn hd
 cases hu;cases hv
 rename_i b hb c hc
 subst hb
 have hc':c=mkS k:=by rw [<-hc,Zb4]
 subst hc'
 have hs':b.size<=9223372036854775807:=by rw [<-Xj];exact hs
 have hk':(mkS k).size<4294967281:=by rw [<-Xj,hc];exact hk2
 refine (Any.strings_Trim_laid Tryz.lays160 (by kernel_rfl) b (mkS k) w hs' hk' (ascii_of_all hk)).mono ?_
 rintro e w' ⟨rfl,hw⟩
 refine ⟨_,rfl,?_,hw⟩
 unfold Za2
 rw [Zb4]
 exact Zrl
theorem dwM_nil {α:Type} {p:α->Bool}:∀{l:List α},l.dropWhile p= []↔∀x∈l,p x=true
 | []=>by simp
 |x::l=>by
  rw [List.dropWhile_cons]
  cases hp:p x with
  |true=>simp [hp,dwM_nil (l:=l)]
  |false=>simp [hp]
theorem Zj5 {α:Type} {p:α->Bool}:∀{l:List α} {b:α} {r:List α},l.dropWhile p=b::r->p b=false
 | [],b,r,h=>by simp at h
 |x::l,b,r,h=>by
  rw [List.dropWhile_cons] at h
  cases hp:p x with
  |true=>rw [hp] at h;exact Zj5 h
  |false=>rw [hp] at h;simp at h;rw [<-h.1];exact hp
theorem Zpg (l cs:List UInt8):Lib.trimS l cs= []↔∀b∈l,cs.contains b=true:=by
 unfold Lib.trimS Lib.trimLeftS Lib.trimRightS
 rw [dwM_nil]
 constructor
 · intro h
   cases hd:l.reverse.dropWhile (cs.contains ·) with
   |nil=>
    rw [dwM_nil] at hd
    exact fun b hb=>hd b (List.mem_reverse.2 hb)
   |cons b r=>
    exfalso
    have h1:=h b (by rw [hd];simp)
    have h2:=Zj5 hd
    rw [h1] at h2
    cases h2
 · intro h b hb
   rw [dwM_nil.2 (fun b hb=>h b (List.mem_reverse.1 hb))] at hb
   simp at hb
theorem Zgo {s k:List Nat} {p:Nat->Bool} (hs:Byt s) (hp:∀n,n<256->(mkS k).data.toList.contains (UInt8.ofNat n)=p n):Za2 k s= []↔∀c∈s,p c=true:=by
 unfold Za2
 rw [List.map_eq_nil_iff,Zpg]
 have e:s=(mkS s).data.toList.map UInt8.toNat:=(show toL (mkS s)=s from hs).symm
 constructor
 · intro h c hc
   rw [e] at hc
   obtain ⟨b,hb,rfl⟩:=List.mem_map.1 hc
   rw [<-hp _ b.toNat_lt]
   have:=h b hb
   rwa [show UInt8.ofNat b.toNat=b from UInt8.ofNat_toNat]
 · intro h b hb
   have:=h b.toNat (by rw [e];exact List.mem_map_of_mem hb)
   rw [<-hp _ b.toNat_lt] at this
   rwa [show UInt8.ofNat b.toNat=b from UInt8.ofNat_toNat] at this
theorem Zgp {s:List Nat} (hs:Byt s):Za2 ds10 s= []↔s.all digB=true:=by
 rw [Zgo (p:=digB) hs (by decide+kernel),List.all_eq_true]
theorem Zgq {s:List Nat} (hs:Byt s):Za2 [48] s= []↔∀c∈s,c=48:=by
 rw [Zgo (p:=fun n=>n==48) hs (by decide+kernel)]
 simp
def Zto:Sum thy:=Xe (dA2 dS dS) (fun x=>(x.2.1=ds10\/x.2.1= [48])/\x.1.length<=9223372036854775807) (fun x=>Za2 x.2.1 x.1) fun y=> .str false y
theorem Zph:SumOk E 34 Zto:=Zq E_ok (Zg (f:=34) rfl) fun x h=>by
 obtain ⟨s,k,_⟩:=x
 obtain ⟨h1,h2⟩:(k=ds10\/k= [48])/\s.length<=9223372036854775807:=h
 rcases h1 with rfl|rfl
 · exact Zdr (k:=ds10) (by decide) (by decide) s h2
 · exact Zdr (k:= [48]) (by decide) (by decide) s h2
theorem Zio (b:Nat):∀(s:List Nat) (k:Nat),(idxL b k s= -1/\b∉s)\/∃p q,s=p++b::q/\b∉p/\idxL b k s=((k+p.length:Nat):Int)
 | [],k=> .inl ⟨rfl,by simp⟩
 |c::r,k=>by
  unfold idxL
  cases hb:Nat.beq c b with
  |true=>
   have e:=gC9 hb
   subst e
   exact .inr ⟨[],r,rfl,by simp,by simp⟩
  |false=>
   have e:c≠b:=fun e=>by subst e;rw [Nat.beq_refl] at hb;cases hb
   rcases Zio b r (k+1) with ⟨h1,h2⟩|⟨p,q,h1,h2,h3⟩
   · exact .inl ⟨h1,by simp;exact ⟨fun h=>e h.symm,h2⟩⟩
   · refine .inr ⟨c::p,q,by rw [h1];rfl,by simp;exact ⟨fun h=>e h.symm,h2⟩,?_⟩
     show idxL b (k+1) r=_
     rw [h3];simp;omega
theorem Zpi (s:List Nat) (hs:s.length<=9223372036854775806):PureC E 33 [.str false s,.str true [46]] (.tup [.str false (cutP s).1,.str false (cutP s).2.1,.bool false (cutP s).2.2]):=by
 refine Zb E_ok (Zc E_ok F0_ok 400) ?_
 rw [Zpc]
 rw [show Int.toNat (46:Int)%256=46 from rfl]
 refine ⟨fun h=> ?_,fun h=>⟨fun h2=> ?_,fun h2=> ?_⟩⟩
 · have h:s= [46]:=by simpa using (beq_iff_eq.1 h).symm
   subst h
   exact ⟨⟨by decide,by decide⟩,⟨by decide,by decide⟩,rfl,rfl,rfl,trivial⟩
 · have h2:=of_decide_eq_true h2
   rcases Zio 46 s 0 with ⟨h3,_⟩|⟨p,q,h3,h4,h5⟩
   · rw [h3] at h2;exact absurd h2 (by decide)
   · rw [h5,Nat.zero_add]
     have hl:s.length=p.length+q.length+1:=by rw [h3];simp;omega
     rw [wr64 (by omega) (by omega)]
     refine ⟨⟨by omega,by omega⟩,⟨by omega,by omega⟩,?_,?_,?_,trivial⟩
     · rw [Int.toNat_natCast,h3,Zbx p q h4];simp
     · rw [show ((p.length:Int)+1).toNat=p.length+1 by omega,h3,Zbx p q h4];simp
     · rw [h3,Zbx p q h4]
 · have h2:=of_decide_eq_false h2
   rcases Zio 46 s 0 with ⟨h3,h4⟩|⟨p,q,h3,h4,h5⟩
   · rw [Zn1 s h4];exact ⟨rfl,rfl,rfl,trivial⟩
   · rw [h5] at h2;omega
def Zxu:Sum thy:=Xe (dA2 dS (dKs [46])) (fun x=>x.1.length<=9223372036854775806) (fun x=>cutP x.1) fun y=> .tup [.str false y.1,.str false y.2.1,.bool false y.2.2]
theorem Zsd:SumOk E 33 Zxu:=Zq E_ok (Zg (f:=33) rfl) fun x h=>Zpi x.1 h
def Zcd (s:List Nat):List Nat×Bool:=if s.head? =some 45 then (s.tail,true) else (s,false)
theorem Zpj (s:List Nat):PureC E 32 [.str false s,.str true [45]] (.tup [.str false (Zcd s).1,.bool false (Zcd s).2]):=by
 refine Zb E_ok (Zc E_ok F0_ok 400) ?_
 rw [Zpd]
 unfold Zcd
 cases s with
 |nil=>exact ⟨fun h=>(by simp at h),fun _=>⟨rfl,rfl,trivial⟩⟩
 |cons c r=>
  refine ⟨fun _=>⟨⟨by decide,by simp;omega⟩,fun h=> ?_,fun h=> ?_⟩,fun h=>(by simp at h;omega)⟩
  · have h:c=45:=by simpa using h
    subst h
    exact ⟨⟨by decide,by simp;omega⟩,rfl,rfl,trivial⟩
  · have h:c≠45:=by simpa using h
    rw [if_neg (by simpa using h)]
    exact ⟨rfl,rfl,trivial⟩
def Zxv:Sum thy:=Xe (dA2 dS (dKs [45])) (fun x=>True) (fun x=>Zcd x.1) fun y=> .tup [.str false y.1,.bool false y.2]
theorem Zse:SumOk E 32 Zxv:=Zq E_ok (Zg (f:=32) rfl) fun x h=>Zpj x.1
theorem Zj6 {g:GH} {s:List Nat} {n:Int} {vals:Array Value} (hd:DenL E σ0 g [.str true s,.int false .i64 n] vals.toList):DenL E σ0 g [.str true s,.int true .i64 n] vals.toList:=by
 refine ⟨hd.1,fun j sv v k1 k2=> ?_⟩
 match j,k1 with
 |0,k1=>exact hd.2 0 _ v (by exact k1) k2
 |1,k1=>
  cases k1
  have:=hd.2 1 _ v rfl k2
  cases this
  exact .int _ _ _
theorem Zsf (n:Int) (hn:n=1\/n=2):PureC E 38 [.str true [48],.int false .i64 n] (.str false (List.replicate n.toNat 48)):=by
 rcases hn with rfl|rfl
 · intro g w vals hI hd
   exact (Zb (E:=E) (args:= [.str true [48],.int true .i64 1]) (v:= .str false [48]) E_ok (Zc E_ok F0_ok 400) (by rw [Zpe])) g w vals hI (Zj6 hd)
 · intro g w vals hI hd
   exact (Zb (E:=E) (args:= [.str true [48],.int true .i64 2]) (v:= .str false [48,48]) E_ok (Zc E_ok F0_ok 400) (by rw [Zpf];exact ⟨fun b=>b=false,rfl,fun h=>(by cases h),fun _=>rfl⟩)) g w vals hI (Zj6 hd)
def Zxw:Sum thy:=Xe (dA2 (dKs [48]) dN) (fun x=>x.2.1=1\/x.2.1=2) (fun x=>List.replicate x.2.1.toNat 48) fun y=> .str false y
theorem Zsg:SumOk E 38 Zxw:=Zq E_ok (Zg (f:=38) rfl) fun x h=>Zsf x.2.1 h
theorem Zyw {g:GH} {m:Nat} (h:m<=9223372036854775807):Den E σ0 g (.tup [.int false .u64 (m:Int),.val .nilIface]) (puR m):=by
 unfold puR
 rw [if_pos h]
 refine .tup (fun j=>(#[Value.int .u64 m,.nilIface].getD j undef)) rfl (fun j hj=> ?_) (fun j sv hj=> ?_)
 · match j,hj with
   |0,_=>rfl
   |1,_=>rfl
 · match j,hj with
   |0,hj=>cases hj;exact .int _ _ _
   |1,hj=>cases hj;exact .val _
theorem Zyx {g:GH} {m:Nat} (h:9223372036854775807<m):Den E σ0 g (.tup [.int false .u64 9223372036854775807,.iface 103 (.int true .i64 1)]) (puR m):=by
 unfold puR
 rw [if_neg (by omega)]
 refine .tup (fun j=>(#[Value.int .u64 9223372036854775807,.iface 103 (.int .i64 1)].getD j undef)) rfl (fun j hj=> ?_) (fun j sv hj=> ?_)
 · match j,hj with
   |0,_=>rfl
   |1,_=>rfl
 · match j,hj with
   |0,hj=>cases hj;exact .int _ _ _
   |1,hj=>cases hj;exact .iface (.int _ _ _)
theorem Zxx {g:GH} {a b c:SV thy} {vals:Array Value} (h:DenL E σ0 g [a,b,c] vals.toList):∃u v z,vals= #[u,v,z]/\Den E σ0 g a u/\Den E σ0 g b v/\Den E σ0 g c z:=by
 obtain ⟨h1,h2⟩:=h
 rcases vals with ⟨l⟩
 match l,h1 with
 | [u,v,z],_=>exact ⟨u,v,z,rfl,h2 0 _ _ rfl rfl,h2 1 _ _ rfl rfl,h2 2 _ _ rfl rfl⟩
theorem Zpk {s:List Nat} (hne:s≠ []) (hs:s.length<=9223372036854775806) (hd:s.all digB=true):(numL s<=9223372036854775807->PureC E 57 [.str false s,.int false .i64 10,.int false .i64 63] (.tup [.int false .u64 (numL s:Int),.val .nilIface]))/\
 (9223372036854775807<numL s->PureC E 57 [.str false s,.int false .i64 10,.int false .i64 63] (.tup [.int false .u64 9223372036854775807,.iface 103 (.int true .i64 1)])):=by
 have key:∀(v:SV thy),(∀g:GH,Den E σ0 g v (puR (numL s)))->PureC E 57 [.str false s,.int false .i64 10,.int false .i64 63] v:=by
  intro v hv
  refine Zaq fun g w vals hI hd'=> ?_
  obtain ⟨u,u2,u3,rfl,h1,h2,h3⟩:=Zxx hd'
  cases h2;cases h3;cases h1
  rename_i b hb
  have hz:b.size=s.length:=by rw [<-hb,Xj]
  have hl:0<s.length:=List.length_pos_iff.2 hne
  have hmap:b.data.toList.map UInt8.toNat=s:=hb
  have hn:Vm 0 b.data.toList=numL s:=by rw [Zgg,hmap];rfl
  refine (Zu3 b (by omega) (by omega) (fun c hc=> ?_) w).mono ?_
  · have:=digB_all.1 hd c.toNat (by rw [<-hmap];exact List.mem_map_of_mem hc)
    exact this
  · rintro e w' ⟨rfl,rfl⟩
    rw [hn]
    exact ⟨_,rfl,hv g,Lib.bytesWorld_below _ _ _⟩
 exact ⟨fun h=>key _ fun g=>Zyw h,fun h=>key _ fun g=>Zyx h⟩
def dPu:DcL E (List Nat×Int×Int×Unit):=dA3 dS dN dN
def Spu1:Sum thy:=sumP dPu (fun x=>(x.1≠ []/\x.1.length<=9223372036854775806/\x.1.all digB=true/\x.2.1=10/\x.2.2.1=63)/\numL x.1<=9223372036854775807) fun x=> .tup [.int false .u64 (numL x.1:Int),.val .nilIface]
def Spu2:Sum thy:=sumP dPu (fun x=>(x.1≠ []/\x.1.length<=9223372036854775806/\x.1.all digB=true/\x.2.1=10/\x.2.2.1=63)/\9223372036854775807<numL x.1) fun x=> .tup [.int false .u64 9223372036854775807,.iface 103 (.int true .i64 1)]
theorem Spu1_ok:SumOk E 57 Spu1:=Zac E_ok (Zg (f:=57) rfl) fun x h=>by
 obtain ⟨s,a,b,_⟩:=x
 obtain ⟨⟨h1,h2,h3,rfl,rfl⟩,h6⟩:(s≠ []/\s.length<=9223372036854775806/\s.all digB=true/\a=10/\b=63)/\numL s<=9223372036854775807:=h
 exact (Zpk h1 h2 h3).1 h6
theorem Spu2_ok:SumOk E 57 Spu2:=Zac E_ok (Zg (f:=57) rfl) fun x h=>by
 obtain ⟨s,a,b,_⟩:=x
 obtain ⟨⟨h1,h2,h3,rfl,rfl⟩,h6⟩:(s≠ []/\s.length<=9223372036854775806/\s.all digB=true/\a=10/\b=63)/\9223372036854775807<numL s:=h
 exact (Zpk h1 h2 h3).2 h6
def Spu:Sum thy:=fun args h i k=>match dPu.dec args with
 |some x=>(x.1≠ []/\x.1.length<=9223372036854775806/\x.1.all digB=true/\x.2.1=10/\x.2.2.1=63)/\∀y,y=numL x.1->(y<=9223372036854775807->k (quiet [] (.tup [.int false .u64 (y:Int),.val .nilIface])))/\(9223372036854775807<y->k (quiet [] (.tup [.int false .u64 9223372036854775807,.iface 103 (.int true .i64 1)])))
 |none=>False
theorem Zxy:SumOk E 57 Spu:=by
 refine ⟨Spu1_ok.good,fun args h i k hD hk=> ?_⟩
 unfold Spu at hk
 split at hk
 case h_2=>exact hk.elim
 rename_i x e
 obtain ⟨h1,hk⟩:=hk
 obtain ⟨k1,k2⟩:=hk _ rfl
 by_cases hb:numL x.1<=9223372036854775807
 · refine Spu1_ok.ok args h i k hD ?_
   unfold Spu1 sumP
   rw [e]
   exact ⟨⟨h1,hb⟩,k1 hb⟩
 · refine Spu2_ok.ok args h i k hD ?_
   unfold Spu2 sumP
   rw [e]
   exact ⟨⟨h1,by omega⟩,k2 (by omega)⟩
theorem Zmd {g:GH} {w:World} (hI:Inv E w.heap.size σ0 hp0 g w) {n:Nat} {t:TypeId} (hn:Zd8 n=some (.iface t .unk)):∃u,w.cell? ⟨n,0,none⟩=some (.iface t u):=by
 obtain ⟨v,h1,h2⟩:=hI.glob n _ hn 0 _ rfl
 cases h2
 exact ⟨_,hI.gc _ _ _ h1⟩
theorem strM {g:GH} {s:List Nat} {v:Value} (h:Den E σ0 g (.str false s) v):∃b,v= .string b/\toL b=s:=by
 cases h
 rename_i b hb
 exact ⟨b,rfl,hb⟩
theorem Zxz {g:GH} {t:TypeId} {n:Int} {v:Value} (h:Den E σ0 g (.iface t (.int true .i64 n)) v):v= .iface t (.int .i64 n):=by
 cases h with
 |iface h=>cases h;rfl
theorem Zsh (fn s:List Nat) (b z:Int) (hs:s.length<=281474976710656):PureC E 58 [.str false fn,.str false s,.int false .i64 b,.int false .i64 z,.iface 103 (.int true .i64 1)] (.iface 106 .unk):=by
 refine Zaq fun g w vals hI hd=> ?_
 obtain ⟨h1,h2⟩:=hd
 rcases vals with ⟨l⟩
 match l,h1 with
 | [v0,v1,v2,v3,v4],_=>
  have a0:=h2 0 _ _ rfl rfl
  have a1:=h2 1 _ _ rfl rfl
  have a2:=h2 2 _ _ rfl rfl
  have a3:=h2 3 _ _ rfl rfl
  have a4:=h2 4 _ _ rfl rfl
  obtain ⟨x0,rfl,hx0⟩:=strM a0
  obtain ⟨x1,rfl,hx1⟩:=strM a1
  cases a2;cases a3
  obtain ⟨u,hu⟩:=Zmd hI (n:=4) (t:=136) rfl
  obtain rfl:=Zxz a4
  have hz:x1.size=s.length:=by rw [<-hx1,Xj]
  refine (Any.strconv_toError_range Tryz.lays245 x0 x1 b z _ w (by omega) hu (.inr ⟨_,_,rfl⟩)).mono ?_
  rintro en w' ⟨N,rfl,_,_,hb⟩
  exact ⟨_,rfl,.iface (.unk _),hb⟩
def dErr:Dc E Unit where
 dec v:=match v with| .iface t (.int true .i64 (.ofNat 1))=>(match Nat.beq t 103 with|true=>some ()|false=>none)|_=>none
 enc _:= .iface 103 (.int true .i64 1)
 ok v a h:=by
  split at h
  · split at h
    · rename_i e
      obtain rfl:=gC9 e
      exact ⟨rfl,rfl,fun _ _ _ h=>h⟩
    · cases h
  · cases h
def Zx0:Sum thy:=sumP (.cons dS (.cons dS (dA3 dN dN dErr))) (fun x=>x.2.1.length<=281474976710656) fun x=> .iface 106 .unk
theorem Zsi:SumOk E 58 Zx0:=Zac E_ok (Zg (f:=58) rfl) fun x h=>Zsh x.1 x.2.1 x.2.2.1 x.2.2.2.1 h
def Ftx:Fns thy:=addS (addS F9 37 Sfu) 38 Zxw
theorem Ztp:FnsOk E Ftx:=Zh (Zh Uh Zwx) Zsg
def FpaM:Fns thy:=addS (addS (addS (addS (addS Ftx 34 Zto) 33 Zxu) 32 Zxv) 57 Spu) 58 Zx0
theorem Zvl:FnsOk E FpaM:=Zh (Zh (Zh (Zh (Zh Ztp Zph) Zsd) Zse) Zxy) Zsi
abbrev qBQ7:=(9223372036854775807:Nat)
abbrev qBQ9:=(ByteArray.mk #[(45:UInt8)])
abbrev qBQ6 (a0:List Nat):=(↑(List.length a0):Int)
abbrev qBQ5:=(ByteArray.mk #[(46:UInt8)])
abbrev qBQb:=(0:Int)
abbrev qBQ8 (a0:List Nat) (b0:List Nat):=(qBQb<=wr IntKind.i64 ((↑(List.length (a0++b0)):Int)-(2:Int))/\wr IntKind.i64 ((↑(List.length (a0++b0)):Int)-(2:Int))<=(↑(List.length (a0++b0)):Int))
abbrev qBQ3 (a0:List Nat) (b0:List Nat):=(Int.toNat (wr IntKind.i64 ((↑(List.length (a0++b0)):Int)-(2:Int))))
abbrev qBQ1 (a0:List Nat) (b0:Int) (c0:List Nat):=(decide ((qBQ6 a0)<(3:Int))=true->(wr IntKind.i64 ((3:Int)-(qBQ6 a0))=(1:Int)\/wr IntKind.i64 ((3:Int)-(qBQ6 a0))=(2:Int))/\∀(y_1:List Nat),y_1=List.replicate (Int.toNat (wr IntKind.i64 ((3:Int)-(qBQ6 a0)))) (48:Nat)->List.length y_1+List.length a0<=qBQ7/\(qBQ8 y_1 a0)/\List.length (List.take (qBQ3 y_1 a0) (y_1++a0))+List.length (toL qBQ5)<=qBQ7/\(qBQ8 y_1 a0)/\List.length (List.take (qBQ3 y_1 a0) (y_1++a0)++toL qBQ5)+List.length (List.drop (qBQ3 y_1 a0) (y_1++a0))<=qBQ7/\(decide (b0<qBQb)=true->List.length (toL qBQ9)+List.length (List.take (qBQ3 y_1 a0) (y_1++a0)++toL qBQ5++List.drop (qBQ3 y_1 a0) (y_1++a0))<=qBQ7/\toL qBQ9++(List.take (qBQ3 y_1 a0) (y_1++a0)++toL qBQ5++List.drop (qBQ3 y_1 a0) (y_1++a0))=c0)/\(decide (b0<qBQb)=false->List.take (qBQ3 y_1 a0) (y_1++a0)++toL qBQ5++List.drop (qBQ3 y_1 a0) (y_1++a0)=c0))
abbrev qBQa (a0:List Nat):=(qBQb<=wr IntKind.i64 ((qBQ6 a0)-(2:Int))/\wr IntKind.i64 ((qBQ6 a0)-(2:Int))<=(qBQ6 a0))
abbrev qBQ4 (a0:List Nat):=(Int.toNat (wr IntKind.i64 ((qBQ6 a0)-(2:Int))))
abbrev qBQ2 (a0:List Nat) (b0:Int) (c0:List Nat):=(decide ((qBQ6 a0)<(3:Int))=false->(qBQa a0)/\List.length (List.take (qBQ4 a0) a0)+List.length (toL qBQ5)<=qBQ7/\(qBQa a0)/\List.length (List.take (qBQ4 a0) a0++toL qBQ5)+List.length (List.drop (qBQ4 a0) a0)<=qBQ7/\(decide (b0<qBQb)=true->List.length (toL qBQ9)+List.length (List.take (qBQ4 a0) a0++toL qBQ5++List.drop (qBQ4 a0) a0)<=qBQ7/\toL qBQ9++(List.take (qBQ4 a0) a0++toL qBQ5++List.drop (qBQ4 a0) a0)=c0)/\(decide (b0<qBQb)=false->List.take (qBQ4 a0) a0++toL qBQ5++List.drop (qBQ4 a0) a0=c0))
theorem Zme (a:Int) (v:List Nat):Zu E Ftx (vc E Ftx 400) 14 [.int false .i64 a] hp0 0 (fun r=>ret E (patch hp0 0 r) r.v (.str false v))=(
 (decide (a<qBQb)=true->((10:Int)=(10:Int)/\qBQb<=wr IntKind.u64 (qBQb-wr IntKind.u64 a)/\wr IntKind.u64 (qBQb-wr IntKind.u64 a)+(1:Int)<=(10000000000000000000:Int))/\∀(y:List Nat),y=dlM (Int.toNat (wr IntKind.u64 (qBQb-wr IntKind.u64 a))) (Lib.nDigits (Int.toNat (wr IntKind.u64 (qBQb-wr IntKind.u64 a))))->(qBQ1 y a v)/\(qBQ2 y a v))/\(decide (a<qBQb)=false->((10:Int)=(10:Int)/\qBQb<=wr IntKind.u64 a/\wr IntKind.u64 a+(1:Int)<=(10000000000000000000:Int))/\∀(y:List Nat),y=dlM (Int.toNat (wr IntKind.u64 a)) (Lib.nDigits (Int.toNat (wr IntKind.u64 a)))->(qBQ1 y a v)/\(qBQ2 y a v))):=by kernel_rfl
abbrev qBQl:=(48:Nat)
abbrev qBQj:=(0:Int)
abbrev qBQi:=(9223372036854775807:Nat)
abbrev qBQe (a0:List Nat×List Nat×Bool):=(Prod.fst a0++Prod.fst (Prod.snd a0))
abbrev qBQg (a0:Nat) (b0:List Nat×List Nat×Bool) (c0:Int) (d0:Int) (e0:List Nat×Bool):=(qBQi<a0->List.length (qBQe b0)<=(281474976710656:Nat)/\∃(Q:Bool->Prop),Q true/\(Q true->qBQj=c0/\(3:Int)=d0/\True)/\(Q false->(Prod.snd e0=true->wr IntKind.i64 (qBQj-wr IntKind.i64 (9223372036854775807:Int))=c0/\qBQj=d0/\True)/\(Prod.snd e0=false->wr IntKind.i64 (9223372036854775807:Int)=c0/\qBQj=d0/\True)))
abbrev qBQd (a0:Nat) (b0:Int) (c0:Int) (d0:List Nat×Bool):=(a0<=qBQi->∃(Q:Bool->Prop),((decide ((↑a0:Int)>(9007199254740992:Int))=true->Q true)/\(decide ((↑a0:Int)>(9007199254740992:Int))=false->Q false))/\(Q true->qBQj=b0/\(3:Int)=c0/\True)/\(Q false->(Prod.snd d0=true->wr IntKind.i64 (qBQj-wr IntKind.i64 (↑a0:Int))=b0/\qBQj=c0/\True)/\(Prod.snd d0=false->wr IntKind.i64 (↑a0:Int)=b0/\qBQj=c0/\True)))
abbrev qBQh (a0:List Nat×List Nat×Bool):=((Prod.fst a0++Prod.fst (Prod.snd a0)= []->False)/\List.length (qBQe a0)<=(9223372036854775806:Nat)/\List.all (qBQe a0) digB=true/\(10:Int)=(10:Int)/\(63:Int)=(63:Int))
abbrev qBQk:=(ByteArray.mk #[])
abbrev qBQc (a0:List Nat) (b0:List Nat×Bool) (c0:List Nat×List Nat×Bool) (d0:Int) (e0:Int):=((!a0==toL qBQk)=false->(Prod.snd b0=true->(([qBQl]=ds10\/ [qBQl]= [qBQl])/\List.length (qBQe c0)<=qBQi)/\∀(y_3:List Nat),y_3=Za2 [qBQl] (qBQe c0)->((y_3==toL qBQk)=true->qBQj=d0/\(4:Int)=e0/\True)/\((y_3==toL qBQk)=false->(qBQh c0)/\∀(y_4:Nat),y_4=numL (qBQe c0)->(qBQd y_4 d0 e0 b0)/\(qBQg y_4 c0 d0 e0 b0)))/\(Prod.snd b0=false->(qBQh c0)/\∀(y_3:Nat),y_3=numL (qBQe c0)->(qBQd y_3 d0 e0 b0)/\(qBQg y_3 c0 d0 e0 b0)))
abbrev qBQf (a0:List Nat×List Nat×Bool):=(([qBQl,(49:Nat),(50:Nat),(51:Nat),(52:Nat),(53:Nat),(54:Nat),(55:Nat),(56:Nat),(57:Nat)]=ds10\/ [qBQl,(49:Nat),(50:Nat),(51:Nat),(52:Nat),(53:Nat),(54:Nat),(55:Nat),(56:Nat),(57:Nat)]= [qBQl])/\List.length (qBQe a0)<=qBQi)
theorem Zip (s:List Nat) (z e:Int):Zu E FpaM (vc E FpaM 400) 9 [.str false s] hp0 0 (fun r=>ret E (patch hp0 0 r) r.v (.tup [.int false .i64 z,.int false .i64 e]))=(
 True/\∀(y:List Nat×Bool),y=Zcd s->List.length (Prod.fst y)<=(9223372036854775806:Nat)/\∀(y_1:List Nat×List Nat×Bool),y_1=cutP (Prod.fst y)->List.length (Prod.fst y_1)+List.length (Prod.fst (Prod.snd y_1))<=qBQi/\((!Prod.snd (Prod.snd y_1))=true->qBQj=z/\(4:Int)=e/\True)/\((!Prod.snd (Prod.snd y_1))=false->(((↑(List.length (Prod.fst (Prod.snd y_1))):Int) !=(2:Int))=true->qBQj=z/\(4:Int)=e/\True)/\(((↑(List.length (Prod.fst (Prod.snd y_1))):Int) !=(2:Int))=false->((Prod.fst y_1==toL qBQk)=true->qBQj=z/\(4:Int)=e/\True)/\((Prod.fst y_1==toL qBQk)=false->qBQj<=qBQj/\qBQj+(1:Int)<=(↑(List.length (Prod.fst y_1)):Int)/\∀(x:Nat),(Prod.fst y_1)[Int.toNat qBQj]? =some x->(((↑x:Int)==(48:Int))=true->(decide ((↑(List.length (Prod.fst y_1)):Int)>(1:Int))=true->qBQj=z/\(4:Int)=e/\True)/\(decide ((↑(List.length (Prod.fst y_1)):Int)>(1:Int))=false->(qBQf y_1)/\∀(y_2:List Nat),y_2=Za2 [qBQl,(49:Nat),(50:Nat),(51:Nat),(52:Nat),(53:Nat),(54:Nat),(55:Nat),(56:Nat),(57:Nat)] (qBQe y_1)->((!y_2==toL qBQk)=true->qBQj=z/\(4:Int)=e/\True)/\(qBQc y_2 y y_1 z e)))/\(((↑x:Int)==(48:Int))=false->(qBQf y_1)/\∀(y_2:List Nat),y_2=Za2 [qBQl,(49:Nat),(50:Nat),(51:Nat),(52:Nat),(53:Nat),(54:Nat),(55:Nat),(56:Nat),(57:Nat)] (qBQe y_1)->((!y_2==toL qBQk)=true->qBQj=z/\(4:Int)=e/\True)/\(qBQc y_2 y y_1 z e)))))):=by kernel_rfl
end
section
open Go Go.RowKit
theorem Zyl:toL (ByteArray.mk #[(46:UInt8)])= [46]:=rfl
theorem Zym:toL (ByteArray.mk #[(45:UInt8)])= [45]:=rfl
theorem Zoa:∀(k j u:Nat),u<10^k->dlM u (j+k)=List.replicate j 48++dlM u k
 |0,j,u,h=>by
  have h:u=0:=by simpa using h
  subst h
  rw [Nat.add_zero]
  show dlM 0 j=List.replicate j 48++ []
  rw [List.append_nil]
  exact List.eq_replicate_iff.2 ⟨Vy j 0,Zeg j⟩
 |k+1,j,u,h=>by
  show dlM (u/10) (j+k)++ [48+u%10]=List.replicate j 48++(dlM (u/10) k++ [48+u%10])
  rw [Zoa k j (u/10) (by rw [Nat.pow_succ] at h;omega),List.append_assoc]
theorem Zob (u:Nat):(Lib.nDigits u<3->List.replicate (3-Lib.nDigits u) 48++dlM u (Lib.nDigits u)=dlM u (kF u))/\(3<=Lib.nDigits u->dlM u (Lib.nDigits u)=dlM u (kF u)):=by
 constructor
 · intro h
   rw [<-Zoa _ _ u (Lib.lt_pow_nDigits u)]
   congr 1
   unfold kF
   omega
 · intro h
   congr 1
   unfold kF
   omega
theorem Zuo {u:Nat} {D:List Nat} (h:D=dlM u (kF u)):D.take (D.length-2)++ [46]++D.drop (D.length-2)=Zf3 u:=by
 subst h
 unfold Zf3
 rw [Vy,List.append_assoc]
 rfl
theorem Zwz (a:Int) (h1: -9223372036854775808<=a) (h2:a<=9223372036854775807):(a<0->wr .u64 (0-wr .u64 a)=(a.natAbs:Int))/\(0<=a->wr .u64 a=(a.natAbs:Int)):=by
 constructor
 · intro h;rw [wu64,wu64];omega
 · intro h;rw [wu64];omega
theorem nd19 (u:Nat) (h:u<=9223372036854775808):Lib.nDigits u<=19:=Zui 18 u (by show u<10000000000000000000;omega)
theorem Zlp (a:Int) (h1: -9223372036854775808<=a) (h2:a<=9223372036854775807):PureC E 14 [.int false .i64 a] (.str false (Zeh a)):=by
 refine Zb E_ok (Zc E_ok Ztp 400) ?_
 rw [Zme]; delta qBQb qBQ1 qBQ2 qBQ6 qBQa qBQ4 qBQ5 qBQ7 qBQ9 qBQ8 qBQ3
 obtain ⟨e1,e2⟩:=Zwz a h1 h2
 have hu:a.natAbs<=9223372036854775808:=by omega
 have hnd:=nd19 _ hu
 have hnp:=Lib.nDigits_pos a.natAbs
 obtain ⟨t1,t2⟩:=Zob a.natAbs
 have hlen:=Vy (Lib.nDigits a.natAbs) a.natAbs
 have hk:=Vy (kF a.natAbs) a.natAbs
 have hk3:=kF3 a.natAbs
 have hkm:kF a.natAbs<=19:=by unfold kF;omega
 unfold Zeh
 simp only [Zyl,Zym]
 have wk:∀z:Int,-9223372036854775808<=z->z<=9223372036854775807->wr .i64 z=z:=fun z h1 h2=>wr64 h1 h2
 have main:∀y:List Nat,y=dlM a.natAbs (Lib.nDigits a.natAbs)->∀v:List Nat,v=(if a<0 then [45] else [])++Zf3 a.natAbs->
  ∀D:List Nat,D=dlM a.natAbs (kF a.natAbs)->(0<=wr .i64 ((D.length:Int)-2)/\wr .i64 ((D.length:Int)-2)<=D.length)/\D.length<=19/\(wr .i64 ((D.length:Int)-2)).toNat=D.length-2/\D.take (D.length-2)++ [46]++D.drop (D.length-2)=Zf3 a.natAbs:=by
  intro y hy v hv D hD
  have hDl:D.length=kF a.natAbs:=by rw [hD,hk]
  rw [wk _ (by omega) (by omega)]
  exact ⟨⟨by omega,by omega⟩,by omega,by omega,Zuo hD⟩
 refine ⟨fun hs=> ?_,fun hs=> ?_⟩
 · have hs:a<0:=of_decide_eq_true hs
   rw [e1 hs,Int.toNat_natCast]
   refine ⟨⟨trivial,by omega,by omega⟩,fun y hy=> ?_⟩
   have hyl:y.length=Lib.nDigits a.natAbs:=by rw [hy,hlen]
   refine ⟨fun h3=> ?_,fun h3=> ?_⟩
   · have h3:=of_decide_eq_true h3
     rw [wk _ (by omega) (by omega)]
     refine ⟨by omega,fun z hz=> ?_⟩
     have hD:z++y=dlM a.natAbs (kF a.natAbs):=by
      rw [hz,hy,hlen,show ((3:Int)-(Lib.nDigits a.natAbs:Int)).toNat=3-Lib.nDigits a.natAbs by omega]
      exact t1 (by omega)
     obtain ⟨m1,m2,m3,m4⟩:=main y hy _ rfl (z++y) hD
     have hzl:z.length+y.length<=19:=by rw [<-List.length_append];exact m2
     rw [m3,m4]
     refine ⟨by omega,m1,?_,m1,?_,fun _=>⟨?_,?_⟩,fun h=> ?_⟩
     · rw [List.length_take];simp;omega
     · simp;omega
     · rw [<-m4];simp;omega
     · rw [if_pos hs]
     · exact absurd hs (of_decide_eq_false h)
   · have h3:=of_decide_eq_false h3
     have hD:y=dlM a.natAbs (kF a.natAbs):=by rw [hy];exact t2 (by omega)
     obtain ⟨m1,m2,m3,m4⟩:=main y hy _ rfl y hD
     rw [m3,m4]
     refine ⟨m1,?_,m1,?_,fun _=>⟨?_,?_⟩,fun h=> ?_⟩
     · rw [List.length_take];simp;omega
     · simp;omega
     · rw [<-m4];simp;omega
     · rw [if_pos hs]
     · exact absurd hs (of_decide_eq_false h)
 · have hs:¬a<0:=of_decide_eq_false hs
   rw [e2 (by omega),Int.toNat_natCast]
   refine ⟨⟨trivial,by omega,by omega⟩,fun y hy=> ?_⟩
   have hyl:y.length=Lib.nDigits a.natAbs:=by rw [hy,hlen]
   refine ⟨fun h3=> ?_,fun h3=> ?_⟩
   · have h3:=of_decide_eq_true h3
     rw [wk _ (by omega) (by omega)]
     refine ⟨by omega,fun z hz=> ?_⟩
     have hD:z++y=dlM a.natAbs (kF a.natAbs):=by
      rw [hz,hy,hlen,show ((3:Int)-(Lib.nDigits a.natAbs:Int)).toNat=3-Lib.nDigits a.natAbs by omega]
      exact t1 (by omega)
     obtain ⟨m1,m2,m3,m4⟩:=main y hy _ rfl (z++y) hD
     have hzl:z.length+y.length<=19:=by rw [<-List.length_append];exact m2
     rw [m3,m4]
     refine ⟨by omega,m1,?_,m1,?_,fun h=> ?_,fun _=> ?_⟩
     · rw [List.length_take];simp;omega
     · simp;omega
     · exact absurd (of_decide_eq_true h) hs
     · rw [if_neg hs,List.nil_append]
   · have h3:=of_decide_eq_false h3
     have hD:y=dlM a.natAbs (kF a.natAbs):=by rw [hy];exact t2 (by omega)
     obtain ⟨m1,m2,m3,m4⟩:=main y hy _ rfl y hD
     rw [m3,m4]
     refine ⟨m1,?_,m1,?_,fun h=> ?_,fun _=> ?_⟩
     · rw [List.length_take];simp;omega
     · simp;omega
     · exact absurd (of_decide_eq_true h) hs
     · rw [if_neg hs,List.nil_append]
end
section
open Go Go.RowKit
theorem Zwo {s:List Nat} (h:∀c∈s,c<256):Byt s:=by
 show toL (mkS s)=s
 unfold toL mkS
 rw [List.toList_toArray,List.map_map]
 conv=>rhs;rw [<-List.map_id s]
 refine List.map_congr_left fun c hc=> ?_
 have:=h c hc
 show (UInt8.ofNat c).toNat=c
 rw [UInt8.toNat_ofNat']
 omega
theorem Zhu (s:List Nat):Xx s=Zy (Zcd s).2 (Zcd s).1:=by
 unfold Xx Zcd
 split<;>rfl
theorem Zq7 (s:List Nat):(Zcd s).1.length<=s.length/\∀c∈(Zcd s).1,c∈s:=by
 unfold Zcd
 split
 · exact ⟨by rw [List.length_tail];omega,fun c hc=>List.mem_of_mem_tail hc⟩
 · exact ⟨Nat.le_refl _,fun c hc=>hc⟩
theorem Zng:∀(s:List Nat),(cutP s).1.length+(cutP s).2.1.length<=s.length/\∀c∈(cutP s).1++(cutP s).2.1,c∈s
 | []=>⟨Nat.le_refl _,fun c hc=>by cases hc⟩
 |x::r=>by
  obtain ⟨h1,h2⟩:=Zng r
  unfold cutP
  split
  · exact ⟨by simp,fun c hc=>List.mem_cons_of_mem _ (by simpa using hc)⟩
  · refine ⟨by rw [List.length_cons,List.length_cons];show (cutP r).1.length+1+(cutP r).2.1.length<=_;omega,fun c hc=> ?_⟩
    have hc:c∈x::((cutP r).1++(cutP r).2.1):=hc
    rcases List.mem_cons.1 hc with rfl|hc
    · exact List.mem_cons_self
    · exact List.mem_cons_of_mem _ (h2 c hc)
theorem Zhv (s:List Nat) (hl:s.length<=140737488355328):PureC E 9 [.str false s] (.tup [.int false .i64 (Xx s).1,.int false .i64 (Xx s).2]):=by
 refine Zrk (j:=0) rfl fun hB=> ?_
 refine Zb E_ok (Zc E_ok Zvl 400) ?_
 rw [Zip]; delta qBQi qBQj qBQk qBQf qBQl qBQe qBQc qBQh qBQd qBQg
 rw [Zhu]
 obtain ⟨l1,b1⟩:=Zq7 s
 refine ⟨trivial,fun y hy=>⟨by rw [hy];omega,fun c hc=> ?_⟩⟩
 rw [<-hy] at l1 b1⊢
 obtain ⟨l2,b2⟩:=Zng y.1
 rw [<-hc] at l2 b2
 have hBD:Byt (c.1++c.2.1):=Zwo fun x hx=>Zw9 hB x (b1 x (b2 x hx))
 have hlD:(c.1++c.2.1).length<=140737488355328:=by rw [List.length_append];omega
 have err:¬(c.2.2=true/\okF y.2 c.1 c.2.1)->(0:Int)=(Zy y.2 y.1).1/\(4:Int)=(Zy y.2 y.1).2/\True:=by
  intro h
  unfold Zy
  rw [<-hc,if_neg h]
  exact ⟨rfl,rfl,trivial⟩
 have good:c.2.2=true->okF y.2 c.1 c.2.1->Zy y.2 y.1=(if numL (c.1++c.2.1)<=9007199254740992 then ((if y.2=true then-(numL (c.1++c.2.1):Int) else numL (c.1++c.2.1)),0) else (0,3)):=by
  intro h1 h2
  unfold Zy
  rw [<-hc,if_pos ⟨h1,h2⟩]
 have num:c.2.2=true->okF y.2 c.1 c.2.1->(((c.1++c.2.1= []->False)/\(c.1++c.2.1).length<=9223372036854775806/\(c.1++c.2.1).all digB=true/\(10:Int)=10/\(63:Int)=63)/\∀(n:Nat),n=numL (c.1++c.2.1)->
  (n<=9223372036854775807->∃(Q:Bool->Prop),((decide ((n:Int)>9007199254740992)=true->Q true)/\(decide ((n:Int)>9007199254740992)=false->Q false))/\(Q true->(0:Int)=(Zy y.2 y.1).1/\(3:Int)=(Zy y.2 y.1).2/\True)/\
   (Q false->(y.2=true->wr .i64 (0-wr .i64 (n:Int))=(Zy y.2 y.1).1/\(0:Int)=(Zy y.2 y.1).2/\True)/\(y.2=false->wr .i64 (n:Int)=(Zy y.2 y.1).1/\(0:Int)=(Zy y.2 y.1).2/\True)))/\
  (9223372036854775807<n->(c.1++c.2.1).length<=281474976710656/\∃(Q:Bool->Prop),Q true/\(Q true->(0:Int)=(Zy y.2 y.1).1/\(3:Int)=(Zy y.2 y.1).2/\True)/\
   (Q false->(y.2=true->wr .i64 (0-wr .i64 9223372036854775807)=(Zy y.2 y.1).1/\(0:Int)=(Zy y.2 y.1).2/\True)/\(y.2=false->wr .i64 9223372036854775807=(Zy y.2 y.1).1/\(0:Int)=(Zy y.2 y.1).2/\True)))):=by
  intro h1 h2
  rw [good h1 h2]
  obtain ⟨k1,k2,k3,k4,k5⟩:=h2
  refine ⟨⟨fun h=>k2 (List.append_eq_nil_iff.1 h).1,by omega,k4,rfl,rfl⟩,fun n hn=>⟨fun hle=>⟨fun b=>b=decide ((n:Int)>9007199254740992),⟨fun h=>h.symm,fun h=>h.symm⟩,fun q=> ?_,fun q=>⟨fun hneg=> ?_,fun hneg=> ?_⟩⟩,fun hgt=>⟨by omega,fun b=>b=true,rfl,fun _=> ?_,fun h=>by cases h⟩⟩⟩
  · have q:=of_decide_eq_true q.symm
    rw [<-hn,if_neg (by omega)]
    exact ⟨rfl,rfl,trivial⟩
  · have q:=of_decide_eq_false q.symm
    have e1:wr .i64 (n:Int)=n:=wr64 (by omega) (by omega)
    have e2:wr .i64 (0-(n:Int))= -n:=by rw [wr64 (by omega) (by omega)];omega
    rw [<-hn,if_pos (by omega),if_pos hneg,e1,e2]
    exact ⟨rfl,rfl,trivial⟩
  · have q:=of_decide_eq_false q.symm
    have e1:wr .i64 (n:Int)=n:=wr64 (by omega) (by omega)
    rw [<-hn,if_pos (by omega),if_neg (by rw [hneg];decide),e1]
    exact ⟨rfl,rfl,trivial⟩
  · rw [<-hn,if_neg (by omega)]
    exact ⟨rfl,rfl,trivial⟩
 refine ⟨by omega,fun h1=>err fun h=> ?_,fun h1=>⟨fun h2=>err fun h=> ?_,fun h2=>⟨fun h3=>err fun h=> ?_,fun h3=>⟨Int.le_refl _,?_,fun x hx=>⟨fun h4=>⟨fun h5=>err fun h=> ?_,fun h5=> ?_⟩,fun h4=> ?_⟩⟩⟩⟩⟩
 · rw [h.1] at h1;cases h1
 · have:=h.2.1
   rw [this] at h2
   simp at h2
 · exact h.2.2.1 (beq_iff_eq.1 h3)
 · have h3:c.1≠ []:=beq_eq_false_iff_ne.1 h3
   have:=List.length_pos_iff.2 h3
   omega
 · have h4:x=48:=by have:=beq_iff_eq.1 h4;omega
   have hx:c.1[0]? =some x:=hx
   have h5:=of_decide_eq_true h5
   have:=h.2.2.2.1 (by rw [List.head?_eq_getElem?,hx,h4])
   omega
 all_goals
  have g1:c.2.2=true:=by cases e:c.2.2 with|true=>rfl|false=>rw [e] at h1;cases h1
  have g2:c.2.1.length=2:=by
   have:=bne_eq_false_iff_eq.1 h2
   omega
  have g3:c.1≠ []:=beq_eq_false_iff_ne.1 h3
  have hx:c.1[0]? =some x:=hx
  have g4:c.1.head? =some 48->c.1.length<=1:=by
   intro hh
   rw [List.head?_eq_getElem?,hx] at hh
   have hh:=Option.some.inj hh
   first
    |exact absurd (by rw [hh];rfl:((x:Int)==48)=true) (by rw [h4];decide)
    |(have:=of_decide_eq_false h5;omega)
  refine ⟨⟨.inl rfl,by omega⟩,fun t ht=>⟨fun h6=>err fun h=> ?_,fun h6=>⟨fun hneg=>⟨⟨.inr rfl,by omega⟩,fun t2 ht2=>⟨fun h7=>err fun h=> ?_,fun h7=> ?_⟩⟩,fun hneg=> ?_⟩⟩⟩
  · have:=(Zgp hBD).2 h.2.2.2.2.1
    have ht:t=Za2 ds10 (c.1++c.2.1):=ht
    rw [ht,this] at h6
    cases h6
  · have h7:t2= []:=beq_iff_eq.1 h7
    obtain ⟨x,hx1,hx2⟩:=h.2.2.2.2.2 hneg
    exact hx2 ((Zgq hBD).1 (ht2.symm.trans h7) x hx1)
  all_goals
   have g5:(c.1++c.2.1).all digB=true:=by
    refine (Zgp hBD).1 ?_
    have ht:t=Za2 ds10 (c.1++c.2.1):=ht
    rw [<-ht]
    have h6:(!(t== []))=false:=h6
    simpa using h6
  · refine num g1 ⟨g2,g3,g4,g5,fun _=> ?_⟩
    have h7:t2≠ []:=beq_eq_false_iff_ne.1 h7
    refine Classical.byContradiction fun hno=>h7 (ht2.trans ((Zgq hBD).2 fun x hx=>Classical.byContradiction fun h=>hno ⟨x,hx,h⟩))
  · exact num g1 ⟨g2,g3,g4,g5,fun h=>by rw [hneg] at h;cases h⟩
def Zta:Sum thy:=Xe (dA1 dN) (fun x=> -9223372036854775808<=x.1/\x.1<=9223372036854775807) (fun x=>Zeh x.1) fun y=> .str false y
theorem Znh:SumOk E 14 Zta:=Zq E_ok (Zg (f:=14) rfl) fun x h=>Zlp x.1 h.1 h.2
def Zni:Sum thy:=Xe (dA1 dS) (fun x=>x.1.length<=140737488355328) (fun x=>Xx x.1) U2
theorem Zlf:SumOk E 9 Zni:=Zq E_ok (Zg (f:=9) rfl) fun x h=>Zhv x.1 h
end
section
open Go Go.RowKit
def Frw:Fns thy:=addS F9 20 SmdM
theorem Zw5:FnsOk E Frw:=Zh Uh Znn
abbrev qCL1:=(1073741824:Int)
abbrev qCL2:=(0:Int)
theorem Zh5 (w s t l f:Int) (p:Int×Int):Zu E Frw (vc E Frw 400) 12 [.int false .i64 w,.int false .i64 s,.int false .i64 t,.int false .i64 l,.int false .i64 f] hp0 0 (fun r=>ret E (patch hp0 0 r) r.v (U2 p))=(
 ∃(Q:Bool->Prop),((decide (w<qCL2)=true->Q true)/\(decide (w<qCL2)=false->(decide (w>(9007199254740992:Int))=true->Q true)/\(decide (w>(9007199254740992:Int))=false->(decide (s<qCL2)=true->Q true)/\(decide (s<qCL2)=false->(decide (s>qCL1)=true->Q true)/\(decide (s>qCL1)=false->(decide (t<qCL2)=true->Q true)/\(decide (t<qCL2)=false->(decide (t>qCL1)=true->Q true)/\(decide (t>qCL1)=false->(decide (l<(1:Int))=true->Q true)/\(decide (l<(1:Int))=false->(decide (l>qCL1)=true->Q true)/\(decide (l>qCL1)=false->(decide (f<qCL2)=true->Q true)/\(decide (f<qCL2)=false->(decide (f>(100:Int))=true->Q true)/\(decide (f>(100:Int))=false->Q false)))))))))))/\(Q true->qCL2=Prod.fst p/\(1:Int)=Prod.snd p/\True)/\(Q false->(decide (t<=s)=true->w=Prod.fst p/\qCL2=Prod.snd p/\True)/\(decide (t<=s)=false->(decide (wr IntKind.i64 (t-s)>=l)=true->wr IntKind.i64 (Int.tdiv (wr IntKind.i64 (wr IntKind.i64 (w*f)+(99:Int))) (100:Int))=Prod.fst p/\qCL2=Prod.snd p/\True)/\(decide (wr IntKind.i64 (t-s)>=l)=false->(qCL2<=w/\w<=(9007199254740992:Int)/\qCL2<=wr IntKind.i64 (t-s)/\wr IntKind.i64 (t-s)<=l/\(1:Int)<=l/\l<=(2305843009213693952:Int))/\∀(y:Int×Int),y=(w*wr IntKind.i64 (t-s)/l,w*wr IntKind.i64 (t-s)%l)->mm2 true (wr IntKind.i64 (Int.tdiv (wr IntKind.i64 (wr IntKind.i64 (w*f)+(99:Int))) (100:Int))) (wr IntKind.i64 (w-Prod.fst y))=Prod.fst p/\qCL2=Prod.snd p/\True)))):=by kernel_rfl
structure RsX where
 b:Int
 j:Nat
 k:Nat
 r:Nat
 L:List Int
 O:List Int
def Asm:Fr thy->Hp thy->Nat->Ann thy:=fun T h i=>{X:=RsX,fr:=fun x=> [(0,T 0),(1,T 1),(5,.int false .i64 x.k)],bl:=fun x=> [],src:=fun _=> [],md:= [],ih:=i,M:=i+30,meas:=fun x=>x.r}
def Fsm7:Fns thy:=addL F9 13 4 Asm E
theorem Zut:FnsOk E Fsm7:=Zp E_ok Uh _ _ _
theorem Zlq (a b:List Int) (v:Bool):Zu E Fsm7 (vc E Fsm7 400) 13 [.psl .ints a false,.psl .ints b false] hp0 0 (fun r=>ret E (patch hp0 0 r) r.v (.bool false v))=(
(((↑(List.length a):Int) !=(↑(List.length b):Int))=true->false=v)/\(((↑(List.length a):Int) !=(↑(List.length b):Int))=false->∃(R:RsX->Prop),(∃(x:RsX),R x/\true=true/\((a=a/\(false=true->false=true))/\(b=b/\(false=true->false=true))/\(0:Int)=(↑(RsX.k x):Int)/\True)/\True)/\∀(x:RsX),R x->(decide ((↑(RsX.k x):Int)<(↑(List.length a):Int))=true->(0:Int)<=(↑(RsX.k x):Int)/\(↑(RsX.k x):Int)+(1:Int)<=(↑(List.length a):Int)/\∀(x_1:Int),a[Int.toNat (↑(RsX.k x):Int)]? =some x_1->(0:Int)<=(↑(RsX.k x):Int)/\(↑(RsX.k x):Int)+(1:Int)<=(↑(List.length b):Int)/\∀(x_2:Int),b[Int.toNat (↑(RsX.k x):Int)]? =some x_2->((x_1 !=x_2)=true->false=v)/\((x_1 !=x_2)=false->∃(x_3:RsX),R x_3/\x_3.4+(1:Nat)<=x.4/\true=true/\((a=a/\(false=true->false=true))/\(b=b/\(false=true->false=true))/\wr IntKind.i64 ((↑(RsX.k x):Int)+(1:Int))=(↑(RsX.k x_3):Int)/\True)/\True))/\(decide ((↑(RsX.k x):Int)<(↑(List.length a):Int))=false->true=v))):=by kernel_rfl
structure RtX where
 s:List Nat
 a:Int
 k:Nat
 r:Nat
def Art:Fr thy->Hp thy->Nat->Ann thy:=fun T h i=>{X:=RtX,fr:=fun x=> [(0,T 0),(3,.str false x.s),(4,.int false .i64 x.a),(5,.int false .i64 x.k)],bl:=fun x=> [],src:=fun _=> [],md:= [],ih:=i,M:=i+40,meas:=fun x=>x.r}
def Frt7:Fns thy:=addL F9 15 4 Art E
theorem Zuu:FnsOk E Frt7:=Zp E_ok Uh _ _ _
abbrev qCL3:=(9223372036854775807:Nat)
abbrev qCL4:=(ByteArray.mk #[(46:UInt8)])
abbrev qCL5 (a0:RtX):=(↑(RtX.k a0):Int)
abbrev qCL9:=(0:Int)
abbrev qCL6 (a0:RtX):=(wr IntKind.u8 (wr IntKind.i64 ((48:Int)+wr IntKind.i64 (qCL9-Int.tmod (RtX.a a0) (10:Int)))))
abbrev qCL7 (a0:RtX):=(Int.tdiv (RtX.a a0) (10:Int))
abbrev qCL8 (a0:RtX):=(wr IntKind.u8 (wr IntKind.i64 ((48:Int)+Int.tmod (RtX.a a0) (10:Int))))
theorem Zlr (a:Int) (v:List Nat):Zu E Frt7 (vc E Frt7 400) 15 [.int false .i64 a] hp0 0 (fun r=>ret E (patch hp0 0 r) r.v (.str false v))=(
 ∃(R:RtX->Prop),(∃(x:RtX),R x/\true=true/\(a=a/\ []=RtX.s x/\a=RtX.a x/\qCL9=(qCL5 x)/\True)/\True)/\∀(x:RtX),R x->∃(Q:Bool->Prop),((decide ((qCL5 x)<(3:Int))=true->Q true)/\(decide ((qCL5 x)<(3:Int))=false->((RtX.a x !=qCL9)=true->Q true)/\((RtX.a x !=qCL9)=false->Q false)))/\(Q true->(((qCL5 x)==(2:Int))=true->List.length (toL qCL4)+List.length (RtX.s x)<=qCL3/\(decide (RtX.a x<qCL9)=true->(1:Nat)+List.length (toL qCL4++RtX.s x)<=qCL3/\∃(x_1:RtX),R x_1/\x_1.4+(1:Nat)<=x.4/\true=true/\(a=a/\ [Int.toNat (qCL6 x)%(256:Nat)]++(toL qCL4++RtX.s x)=RtX.s x_1/\wr IntKind.i64 (qCL7 x)=RtX.a x_1/\wr IntKind.i64 ((qCL5 x)+(1:Int))=(qCL5 x_1)/\True)/\True)/\(decide (RtX.a x<qCL9)=false->(1:Nat)+List.length (toL qCL4++RtX.s x)<=qCL3/\∃(x_1:RtX),R x_1/\x_1.4+(1:Nat)<=x.4/\true=true/\(a=a/\ [Int.toNat (qCL8 x)%(256:Nat)]++(toL qCL4++RtX.s x)=RtX.s x_1/\wr IntKind.i64 (qCL7 x)=RtX.a x_1/\wr IntKind.i64 ((qCL5 x)+(1:Int))=(qCL5 x_1)/\True)/\True))/\(((qCL5 x)==(2:Int))=false->(decide (RtX.a x<qCL9)=true->(1:Nat)+List.length (RtX.s x)<=qCL3/\∃(x_1:RtX),R x_1/\x_1.4+(1:Nat)<=x.4/\true=true/\(a=a/\ [Int.toNat (qCL6 x)%(256:Nat)]++RtX.s x=RtX.s x_1/\wr IntKind.i64 (qCL7 x)=RtX.a x_1/\wr IntKind.i64 ((qCL5 x)+(1:Int))=(qCL5 x_1)/\True)/\True)/\(decide (RtX.a x<qCL9)=false->(1:Nat)+List.length (RtX.s x)<=qCL3/\∃(x_1:RtX),R x_1/\x_1.4+(1:Nat)<=x.4/\true=true/\(a=a/\ [Int.toNat (qCL8 x)%(256:Nat)]++RtX.s x=RtX.s x_1/\wr IntKind.i64 (qCL7 x)=RtX.a x_1/\wr IntKind.i64 ((qCL5 x)+(1:Int))=(qCL5 x_1)/\True)/\True)))/\(Q false->(decide (a<qCL9)=true->List.length (toL (ByteArray.mk #[(45:UInt8)]))+List.length (RtX.s x)<=qCL3/\toL (ByteArray.mk #[(45:UInt8)])++RtX.s x=v)/\(decide (a<qCL9)=false->RtX.s x=v))):=by kernel_rfl
def Arp:Fr thy->Hp thy->Nat->Ann thy:=fun T h i=>{X:=RtX,fr:=fun x=> [(0,T 0),(4,T 4),(5,T 5),(6,.int false .i64 x.a),(7,.int false .i64 x.k)],bl:=fun x=> [],src:=fun _=> [],md:= [],ih:=i,M:=i+40,meas:=fun x=>x.r}
def Frp7:Fns thy:=addL F9 10 9 Arp E
theorem Zuv:FnsOk E Frp7:=Zp E_ok Uh _ _ _
abbrev qCLe (a0:List Nat):=(↑(List.length a0):Int)
abbrev qCLa (a0:List Nat):=((qCLe a0)-(3:Int))
abbrev qCLg:=(1:Int)
abbrev qCLc (a0:RtX):=(↑(RtX.k a0):Int)
abbrev qCLf:=(0:Int)
abbrev qCLb (a0:RtX) (b0:List Nat) (c0:Bool->Prop):=(qCLf<=(qCLc a0)/\(qCLc a0)+qCLg<=(qCLe b0)/\∀(x_1:Nat),b0[Int.toNat (qCLc a0)]? =some x_1->(decide ((↑x_1:Int)<(48:Int))=true->c0 true)/\(decide ((↑x_1:Int)<(48:Int))=false->qCLf<=(qCLc a0)/\(qCLc a0)+qCLg<=(qCLe b0)/\∀(x_2:Nat),b0[Int.toNat (qCLc a0)]? =some x_2->(decide ((↑x_2:Int)>(57:Int))=true->c0 true)/\(decide ((↑x_2:Int)>(57:Int))=false->c0 false)))
abbrev qCLd (a0:Bool->Prop) (b0:Int×Int):=(a0 true->qCLf=Prod.fst b0/\(4:Int)=Prod.snd b0/\True)
abbrev qCLh (a0:RtX) (b0:Nat):=(wr IntKind.i64 (wr IntKind.i64 ((10:Int)*RtX.a a0)+wr IntKind.i64 (wr IntKind.u8 ((↑b0:Int)-(48:Int)))))
abbrev qCLi (a0:RtX):=(RtX.a a0>(9007199254740992:Int))
abbrev qCLj (a0:RtX) (b0:List Nat):=((qCLc a0)==wr IntKind.i64 (qCLa b0))
theorem Zh6 (s:List Nat) (p:Int×Int):Zu E Frp7 (vc E Frp7 400) 10 [.str false s] hp0 0 (fun r=>ret E (patch hp0 0 r) r.v (U2 p))=(
 ∃(Q:Bool->Prop),((decide ((qCLe s)>qCLf)=true->qCLf<=qCLf/\qCLf+qCLg<=(qCLe s)/\∀(x:Nat),s[Int.toNat qCLf]? =some x->(((↑x:Int)==(45:Int))=true->Q true)/\(((↑x:Int)==(45:Int))=false->Q false))/\(decide ((qCLe s)>qCLf)=false->Q false))/\(Q true->∃(Q:Bool->Prop),((decide (wr IntKind.i64 (qCLa s)<=qCLg)=true->Q true)/\(decide (wr IntKind.i64 (qCLa s)<=qCLg)=false->qCLf<=wr IntKind.i64 (qCLa s)/\wr IntKind.i64 (qCLa s)+qCLg<=(qCLe s)/\∀(x:Nat),s[Int.toNat (wr IntKind.i64 (qCLa s))]? =some x->(((↑x:Int) !=(46:Int))=true->Q true)/\(((↑x:Int) !=(46:Int))=false->qCLf<=qCLg/\qCLg+qCLg<=(qCLe s)/\∀(x:Nat),s[Int.toNat qCLg]? =some x->(((↑x:Int)==(48:Int))=true->(decide (wr IntKind.i64 (qCLa s)>(2:Int))=true->Q true)/\(decide (wr IntKind.i64 (qCLa s)>(2:Int))=false->Q false))/\(((↑x:Int)==(48:Int))=false->Q false))))/\(qCLd Q p)/\(Q false->∃(R:RtX->Prop),(∃(x:RtX),R x/\true=true/\(s=s/\qCLg=qCLg/\wr IntKind.i64 (qCLa s)=wr IntKind.i64 (qCLa s)/\qCLf=RtX.a x/\qCLg=(qCLc x)/\True)/\True)/\∀(x:RtX),R x->(decide ((qCLc x)<(qCLe s))=true->((qCLj x s)=true->∃(x_1:RtX),R x_1/\x_1.4+(1:Nat)<=x.4/\true=true/\(s=s/\qCLg=qCLg/\wr IntKind.i64 (qCLa s)=wr IntKind.i64 (qCLa s)/\RtX.a x=RtX.a x_1/\wr IntKind.i64 ((qCLc x)+qCLg)=(qCLc x_1)/\True)/\True)/\((qCLj x s)=false->∃(Q:Bool->Prop),(qCLb x s Q)/\(qCLd Q p)/\(Q false->qCLf<=(qCLc x)/\(qCLc x)+qCLg<=(qCLe s)/\∀(x_1:Nat),s[Int.toNat (qCLc x)]? =some x_1->∃(x_2:RtX),R x_2/\x_2.4+(1:Nat)<=x.4/\true=true/\(s=s/\qCLg=qCLg/\wr IntKind.i64 (qCLa s)=wr IntKind.i64 (qCLa s)/\mm2 false (qCLh x x_1) (9007199254740993:Int)=RtX.a x_2/\wr IntKind.i64 ((qCLc x)+qCLg)=(qCLc x_2)/\True)/\True)))/\(decide ((qCLc x)<(qCLe s))=false->∃(Q:Bool->Prop),(((RtX.a x==qCLf)=true->Q true)/\((RtX.a x==qCLf)=false->Q false))/\(qCLd Q p)/\(Q false->(decide (qCLi x)=true->qCLf=Prod.fst p/\(3:Int)=Prod.snd p/\True)/\(decide (qCLi x)=false->wr IntKind.i64 (qCLf-RtX.a x)=Prod.fst p/\qCLf=Prod.snd p/\True)))))/\(Q false->∃(Q:Bool->Prop),((decide (wr IntKind.i64 (qCLa s)<=qCLf)=true->Q true)/\(decide (wr IntKind.i64 (qCLa s)<=qCLf)=false->qCLf<=wr IntKind.i64 (qCLa s)/\wr IntKind.i64 (qCLa s)+qCLg<=(qCLe s)/\∀(x:Nat),s[Int.toNat (wr IntKind.i64 (qCLa s))]? =some x->(((↑x:Int) !=(46:Int))=true->Q true)/\(((↑x:Int) !=(46:Int))=false->qCLf<=qCLf/\qCLf+qCLg<=(qCLe s)/\∀(x:Nat),s[Int.toNat qCLf]? =some x->(((↑x:Int)==(48:Int))=true->(decide (wr IntKind.i64 (qCLa s)>qCLg)=true->Q true)/\(decide (wr IntKind.i64 (qCLa s)>qCLg)=false->Q false))/\(((↑x:Int)==(48:Int))=false->Q false))))/\(qCLd Q p)/\(Q false->∃(R:RtX->Prop),(∃(x:RtX),R x/\true=true/\(s=s/\qCLf=qCLf/\wr IntKind.i64 (qCLa s)=wr IntKind.i64 (qCLa s)/\qCLf=RtX.a x/\qCLf=(qCLc x)/\True)/\True)/\∀(x:RtX),R x->(decide ((qCLc x)<(qCLe s))=true->((qCLj x s)=true->∃(x_1:RtX),R x_1/\x_1.4+(1:Nat)<=x.4/\true=true/\(s=s/\qCLf=qCLf/\wr IntKind.i64 (qCLa s)=wr IntKind.i64 (qCLa s)/\RtX.a x=RtX.a x_1/\wr IntKind.i64 ((qCLc x)+qCLg)=(qCLc x_1)/\True)/\True)/\((qCLj x s)=false->∃(Q:Bool->Prop),(qCLb x s Q)/\(qCLd Q p)/\(Q false->qCLf<=(qCLc x)/\(qCLc x)+qCLg<=(qCLe s)/\∀(x_1:Nat),s[Int.toNat (qCLc x)]? =some x_1->∃(x_2:RtX),R x_2/\x_2.4+(1:Nat)<=x.4/\true=true/\(s=s/\qCLf=qCLf/\wr IntKind.i64 (qCLa s)=wr IntKind.i64 (qCLa s)/\mm2 false (qCLh x x_1) (9007199254740993:Int)=RtX.a x_2/\wr IntKind.i64 ((qCLc x)+qCLg)=(qCLc x_2)/\True)/\True)))/\(decide ((qCLc x)<(qCLe s))=false->∃(Q:Bool->Prop),Q false/\(qCLd Q p)/\(Q false->(decide (qCLi x)=true->
qCLf=Prod.fst p/\(3:Int)=Prod.snd p/\True)/\(decide (qCLi x)=false->RtX.a x=Prod.fst p/\qCLf=Prod.snd p/\True)))))):=by kernel_rfl
def Ars1:Fr thy->Hp thy->Nat->Ann thy:=fun T h i=>{X:=RsX,fr:=fun x=> [(0,T 0),(1,T 1),(7,T 7),(8,.int false .i64 x.b),(9,.sl i 0 x.L.length 1 none),(10,.sl (i+1) 0 x.O.length 1 none),(11,.int false .i64 x.k)],bl:=fun x=> [(i,.rows Th.ints x.L 0),(i+1,.rows Th.ints x.O 0)],src:=fun _=> [(i,9),(i+1,10)],md:= [bOf (T 9),bOf (T 10)],ih:=i+2,M:=i+60,meas:=fun x=>x.r}
def Ars2:Fr thy->Hp thy->Nat->Ann thy:=fun T h i=>{X:=RsX,fr:=fun x=> [(0,T 0),(8,.int false .i64 x.b),(9,T 9),(10,T 10)],bl:=fun x=> [(bOf (T 9),.rows Th.ints x.L 0),(bOf (T 10),.rows Th.ints x.O 0)],src:=fun _=> [],md:= [bOf (T 9),bOf (T 10)],ih:=i,M:=i+60,meas:=fun x=>x.r}
def Ars3:Fr thy->Hp thy->Nat->Ann thy:=fun T h i=>{X:=RsX,fr:=fun x=> [(0,T 0),(8,T 8),(9,T 9),(10,T 10),(14,.int false .i64 x.j),(15,.int false .i64 x.k)],bl:=fun x=>blkS h (T 9)++blkS h (T 10),src:=fun _=> [],md:= [],ih:=i,M:=i+60,meas:=fun x=>x.r}
def Ars4:Fr thy->Hp thy->Nat->Ann thy:=fun T h i=>{X:=RsX,fr:=fun x=> [(9,T 9),(16,.int false .i64 x.k)],bl:=fun x=> [(bOf (T 9),.rows Th.ints x.L 0)],src:=fun _=> [],md:= [bOf (T 9)],ih:=i,M:=i+60,meas:=fun x=>x.r}
def Frs0:Fns thy:=addS (addS (addS (addS F9 20 SmdM) 21 Ztc) 17 SweM) 19 StoM
theorem Zuw:FnsOk E Frs0:=Zh (Zh (Zh (Zh Uh Znn) Znq) Zt3) Zt4
def Frs:Fns thy:=addL (addL (addL (addL Frs0 8 11 Ars1 E) 8 17 Ars2 E) 8 20 Ars3 E) 8 29 Ars4 E
theorem Zw6:FnsOk E Frs:=Zp E_ok (Zp E_ok (Zp E_ok (Zp E_ok Zuw _ _ _) _ _ _) _ _ _) _ _ _
abbrev qCLk:=(0:Nat)
abbrev qCLl (a0:RsX):=(qCLk=qCLk/\List.length (RsX.L a0)=List.length (RsX.L a0)/\True)
abbrev qCLm (a0:RsX):=(↑(RsX.k a0):Int)
abbrev qCLn (a0:RsX):=(qCLk=qCLk/\List.length (RsX.O a0)=List.length (RsX.O a0)/\True)
abbrev qCLo (a0:RsX):=(↑(RsX.j a0):Int)
abbrev qCLp:=(0:Int)
abbrev qCLq (a0:RsX):=(List.length (RsX.L a0))
abbrev qCLr (a0:RsX):=(↑(List.length (RsX.O a0)):Int)
abbrev qCLs:=(1:Nat)
abbrev qCLt:=(1:Int)
theorem Zh7 (t:Int) (ws:List Int) (l:List Int) (e:Int):Zu E Frs (vc E Frs 400) 8 [.int false .i64 t,.psl .ints ws false] hp0 0 (fun r=>ret E (patch hp0 0 r) r.v (.tup [.psl Th.ints l false,.int false .i64 e]))=(
 True/\∀(y:Int),y=weF ws->((y !=qCLp)=true->l= []/\y=e/\True)/\((y !=qCLp)=false->True/\((!inR t)=true->l= []/\(3:Int)=e/\True)/\((!inR t)=false->(List.all ws okW=true/\List.length ws<=(256:Nat))/\∀(y:Int),y=List.sum ws->((-9007199254740993:Int)<=t/\t<=(9007199254740993:Int))/\∀(y_1:Nat),y_1=Int.natAbs t->∃(R:RsX->Prop),(∃(x:RsX),R x/\true=true/\(t=t/\(ws=ws/\(false=true->false=true))/\y=y/\(↑y_1:Int)=RsX.b x/\(qCLk=qCLk/\qCLk=List.length (RsX.L x)/\True)/\(qCLk=qCLk/\qCLk=List.length (RsX.O x)/\True)/\qCLp=(qCLm x)/\True)/\ []=RsX.L x/\ []=RsX.O x/\True)/\∀(x:RsX),R x->(decide ((qCLm x)<(↑(List.length ws):Int))=true->((-9007199254740993:Int)<=t/\t<=(9007199254740993:Int))/\∀(y_2:Nat),y_2=Int.natAbs t->qCLp<=(qCLm x)/\(qCLm x)+qCLt<=(↑(List.length ws):Int)/\∀(x_1:Int),ws[Int.toNat (qCLm x)]? =some x_1->(qCLp<=(↑y_2:Int)/\(↑y_2:Int)<=(9007199254740992:Int)/\qCLp<=x_1/\x_1<=y/\qCLt<=y/\y<=(2305843009213693952:Int))/\∀(y_3:Int×Int),y_3=((↑y_2:Int)*x_1/y,(↑y_2:Int)*x_1%y)->(List.length (RsX.L x)<=List.length (RsX.L x)/\qCLk<=List.length (RsX.L x)/\(List.length (RsX.L x)+qCLs)*(8:Nat)<=(140737488355328:Nat))/\(List.length (RsX.O x)<=List.length (RsX.O x)/\qCLk<=List.length (RsX.O x)/\(List.length (RsX.O x)+qCLs)*(8:Nat)<=(140737488355328:Nat))/\∃(x_2:RsX),R x_2/\x_2.4+qCLs<=x.4/\true=true/\(t=t/\(ws=ws/\(false=true->false=true))/\y=y/\wr IntKind.i64 (RsX.b x-Prod.fst y_3)=RsX.b x_2/\(qCLk=qCLk/\List.length (RsX.L x)+qCLs=List.length (RsX.L x_2)/\True)/\(qCLk=qCLk/\List.length (RsX.O x)+qCLs=List.length (RsX.O x_2)/\True)/\wr IntKind.i64 ((qCLm x)+qCLt)=(qCLm x_2)/\True)/\(List.take (qCLq x) (RsX.L x)++ [Prod.fst y_3]=RsX.L x_2/\qCLk=qCLk)/\(List.take (List.length (RsX.O x)) (RsX.O x)++ [Prod.snd y_3]=RsX.O x_2/\qCLk=qCLk)/\True)/\(decide ((qCLm x)<(↑(List.length ws):Int))=false->∃(R:RsX->Prop),(∃(x_1:RsX),R x_1/\true=true/\(t=t/\RsX.b x=RsX.b x_1/\(qCLl x)/\(qCLn x)/\True)/\(RsX.L x=RsX.L x_1/\qCLk=qCLk)/\(RsX.O x=RsX.O x_1/\qCLk=qCLk)/\True)/\∀(x_1:RsX),R x_1->(decide (RsX.b x_1>qCLp)=true->∃(R_1:RsX->Prop),(∃(x_2:RsX),R_1 x_2/\true=true/\(t=t/\RsX.b x_1=RsX.b x_1/\(qCLl x)/\(qCLn x)/\qCLp=(qCLo x_2)/\qCLp=(qCLm x_2)/\True)/\(RsX.L x_1=RsX.L x_1/\qCLk=qCLk)/\(RsX.O x_1=RsX.O x_1/\qCLk=qCLk)/\True)/\∀(x_2:RsX),R_1 x_2->(decide ((qCLm x_2)<(qCLr x))=true->(qCLp<=(qCLm x_2)/\(qCLm x_2)+qCLt<=(qCLr x))/\qCLk+Int.toNat (qCLm x_2)+qCLs<=List.length (RsX.O x_1)/\∀(x_3:Int),(RsX.O x_1)[qCLk+Int.toNat (qCLm x_2)]? =some x_3->(qCLp<=(qCLo x_2)/\(qCLo x_2)+qCLt<=(qCLr x))/\qCLk+Int.toNat (qCLo x_2)+qCLs<=List.length (RsX.O x_1)/\∀(x_4:Int),(RsX.O x_1)[qCLk+Int.toNat (qCLo x_2)]? =some x_4->(decide (x_3>x_4)=true->∃(x_5:RsX),R_1 x_5/\x_5.4+qCLs<=x_2.4/\true=true/\(t=t/\RsX.b x_1=RsX.b x_1/\(qCLl x)/\(qCLn x)/\(qCLm x_2)=(qCLo x_5)/\wr IntKind.i64 ((qCLm x_2)+qCLt)=(qCLm x_5)/\True)/\(RsX.L x_1=RsX.L x_1/\qCLk=qCLk)/\(RsX.O x_1=RsX.O x_1/\qCLk=qCLk)/\True)/\(decide (x_3>x_4)=false->∃(x_5:RsX),R_1 x_5/\x_5.4+qCLs<=x_2.4/\true=true/\(t=t/\RsX.b x_1=RsX.b x_1/\(qCLl x)/\(qCLn x)/\(qCLo x_2)=(qCLo x_5)/\wr IntKind.i64 ((qCLm x_2)+qCLt)=(qCLm x_5)/\True)/\(RsX.L x_1=RsX.L x_1/\qCLk=qCLk)/\(RsX.O x_1=RsX.O x_1/\qCLk=qCLk)/\True))/\(decide ((qCLm x_2)<(qCLr x))=false->(qCLp<=(qCLo x_2)/\(qCLo x_2)+qCLt<=(↑(qCLq x):Int))/\qCLk+Int.toNat (qCLo x_2)+qCLs<=List.length (RsX.L x_1)/\∀(x_3:Int),(RsX.L x_1)[qCLk+Int.toNat (qCLo x_2)]? =some x_3->(qCLp<=(qCLo x_2)/\(qCLo x_2)+qCLt<=(↑(qCLq x):
Int))/\qCLk<=qCLk+Int.toNat (qCLo x_2)/\qCLk+Int.toNat (qCLo x_2)+qCLs<=List.length (RsX.L x_1)/\∀(x_4:Int),(RsX.L x_1)[qCLk+Int.toNat (qCLo x_2)]? =some x_4->(qCLp<=(qCLo x_2)/\(qCLo x_2)+qCLt<=(qCLr x))/\qCLk<=qCLk+Int.toNat (qCLo x_2)/\qCLk+Int.toNat (qCLo x_2)+qCLs<=List.length (RsX.O x_1)/\∀(x_5:Int),(RsX.O x_1)[qCLk+Int.toNat (qCLo x_2)]? =some x_5->∃(x_6:RsX),R x_6/\x_6.4+qCLs<=x_1.4/\true=true/\(t=t/\wr IntKind.i64 (RsX.b x_1-qCLt)=RsX.b x_6/\(qCLl x)/\(qCLn x)/\True)/\(List.set (RsX.L x_1) (qCLk+Int.toNat (qCLo x_2)) (wr IntKind.i64 (x_3+qCLt))=RsX.L x_6/\qCLk=qCLk)/\(List.set (RsX.O x_1) (qCLk+Int.toNat (qCLo x_2)) (-1:Int)=RsX.O x_6/\qCLk=qCLk)/\True))/\(decide (RsX.b x_1>qCLp)=false->(decide (t<qCLp)=true->∃(R:RsX->Prop),(∃(x_2:RsX),R x_2/\true=true/\((qCLl x)/\qCLp=(qCLm x_2)/\True)/\(RsX.L x_1=RsX.L x_2/\qCLk=qCLk)/\True)/\∀(x_2:RsX),R x_2->(decide ((qCLm x_2)<(↑(qCLq x):Int))=true->(qCLp<=(qCLm x_2)/\(qCLm x_2)+qCLt<=(↑(qCLq x):Int))/\qCLk+Int.toNat (qCLm x_2)+qCLs<=List.length (RsX.L x_2)/\∀(x_3:Int),(RsX.L x_2)[qCLk+Int.toNat (qCLm x_2)]? =some x_3->(qCLp<=(qCLm x_2)/\(qCLm x_2)+qCLt<=(↑(qCLq x):Int))/\qCLk<=qCLk+Int.toNat (qCLm x_2)/\qCLk+Int.toNat (qCLm x_2)+qCLs<=List.length (RsX.L x_2)/\∀(x_4:Int),(RsX.L x_2)[qCLk+Int.toNat (qCLm x_2)]? =some x_4->∃(x_5:RsX),R x_5/\x_5.4+qCLs<=x_2.4/\true=true/\((qCLl x)/\wr IntKind.i64 ((qCLm x_2)+qCLt)=(qCLm x_5)/\True)/\(List.set (RsX.L x_2) (qCLk+Int.toNat (qCLm x_2)) (wr IntKind.i64 (qCLp-x_3))=RsX.L x_5/\qCLk=qCLk)/\True)/\(decide ((qCLm x_2)<(↑(qCLq x):Int))=false->(qCLk+List.length (RsX.L x)<=List.length (RsX.L x_2)/\List.take (qCLq x) (RsX.L x_2)=l)/\qCLp=e/\True))/\(decide (t<qCLp)=false->(qCLk+List.length (RsX.L x)<=List.length (RsX.L x_1)/\List.take (qCLq x) (RsX.L x_1)=l)/\qCLp=e/\True)))))):=by kernel_rfl
end
section
open Go Go.RowKit
theorem Zh0 (w s t l f:Int):PureC E 12 [.int false .i64 w,.int false .i64 s,.int false .i64 t,.int false .i64 l,.int false .i64 f] (U2 (Wi w s t l f)):=by
 refine Zb E_ok (Zc E_ok Zw5 400) ?_
 rw [Zh5]; delta qCL2 qCL1
 simp only [Zpl,Ziq]
 have no:¬Zt w s t l f->true= !decide (Zt w s t l f):=fun h=>by rw [decide_eq_false h];rfl
 have yes:Zt w s t l f->false= !decide (Zt w s t l f):=fun h=>by rw [decide_eq_true h];rfl
 refine ⟨fun b=>b= !decide (Zt w s t l f),?_,fun q=> ?_,fun q=> ?_⟩
 · refine ⟨fun h=>no ?_,fun h1=>⟨fun h=>no ?_,fun h2=>⟨fun h=>no ?_,fun h3=>⟨fun h=>no ?_,fun h4=>⟨fun h=>no ?_,fun h5=>⟨fun h=>no ?_,fun h6=>⟨fun h=>no ?_,fun h7=>⟨fun h=>no ?_,fun h8=>⟨fun h=>no ?_,fun h9=>⟨fun h=>no ?_,fun h10=>yes ?_⟩⟩⟩⟩⟩⟩⟩⟩⟩⟩
   all_goals
    simp only [decide_eq_true_eq,decide_eq_false_iff_not] at*
    unfold Zt
    omega
 · have q:¬Zt w s t l f:=by simpa using q.symm
   unfold Wi
   rw [if_neg q]
   exact ⟨rfl,rfl,trivial⟩
 have ok:Zt w s t l f:=by simpa using q.symm
 have ok':=ok
 obtain ⟨k1,k2,k3,k4,k5,k6,k7,k8,k9,k10⟩:=ok'
 have e:wr .i64 (t-s)=t-s:=wr64 (by omega) (by omega)
 rw [e,Zjm k1 k2 k9 k10]
 unfold Wi
 rw [if_pos ok]
 refine ⟨fun h=> ?_,fun h6=>⟨fun h=> ?_,fun h7=> ?_⟩⟩
 · have h:=of_decide_eq_true h
   rw [if_pos h];exact ⟨rfl,rfl,trivial⟩
 · have h:=of_decide_eq_true h
   have h6:=of_decide_eq_false h6
   rw [if_neg h6,if_pos h];exact ⟨rfl,rfl,trivial⟩
 have h6:=of_decide_eq_false h6
 have h7:=of_decide_eq_false h7
 rw [if_neg h6,if_neg h7]
 refine ⟨by omega,fun y hy=> ?_⟩
 subst hy
 have hq:=Znw (w:=w) (a:=t-s) (l:=l) (by omega) (by omega) (by omega) (by omega)
 dsimp only
 rw [wr64 (n:=w-_) (by omega) (by omega)]
 exact ⟨rfl,rfl,trivial⟩
theorem Zll (a b:List Int) (hl:a.length<=1000000):PureC E 13 [.psl .ints a false,.psl .ints b false] (.bool false (decide (a=b))):=by
 refine Zb E_ok (Zc E_ok Zut 400) ?_
 rw [Zlq]
 refine ⟨fun h=> ?_,fun h=> ?_⟩
 · rw [decide_eq_false]
   rintro rfl
   simp at h
 have hab:a.length=b.length:=by
  have:=bne_eq_false_iff_eq.1 h
  omega
 refine ⟨fun x=>x.k<=a.length/\a.take x.k=b.take x.k/\x.r=a.length-x.k,⟨⟨0,0,0,a.length,[],[]⟩,⟨Nat.zero_le _,rfl,rfl⟩,rfl,⟨⟨rfl,fun h=>h⟩,⟨rfl,fun h=>h⟩,rfl,trivial⟩,trivial⟩,fun x hx=> ?_⟩
 obtain ⟨hk,ht,hr⟩:=hx
 refine ⟨fun h1=> ?_,fun h1=> ?_⟩
 · have h1:=of_decide_eq_true h1
   refine ⟨by omega,by omega,fun p hp=>⟨by omega,by omega,fun q hq=>⟨fun h2=> ?_,fun h2=> ?_⟩⟩⟩
   · rw [Int.toNat_natCast] at hp hq
     rw [decide_eq_false]
     rintro rfl
     rw [hp] at hq
     cases hq
     simp at h2
   · rw [Int.toNat_natCast] at hp hq
     have h2:p=q:=bne_eq_false_iff_eq.1 h2
     subst h2
     have wk:wr .i64 ((x.k:Int)+1)=(x.k:Int)+1:=wrk (by omega) (by omega)
     rw [wk]
     refine ⟨⟨0,0,x.k+1,a.length-(x.k+1),[],[]⟩,⟨by show x.k+1<=_;omega,?_,rfl⟩,by show a.length-(x.k+1)+1<=x.r;omega,rfl,⟨⟨rfl,fun h=>h⟩,⟨rfl,fun h=>h⟩,rfl,trivial⟩,trivial⟩
     show a.take (x.k+1)=b.take (x.k+1)
     rw [Yq hp,Yq hq,ht]
 · have h1:=of_decide_eq_false h1
   have hk2:x.k=a.length:=by omega
   rw [hk2,List.take_length,hab,List.take_length] at ht
   rw [decide_eq_true ht]
theorem Zf0:∀(k u:Nat),dlM u (k+1)=(48+u/10^k%10)::dlM u k
 |0,u=>by
  show []++ [48+u%10]=_
  rw [Nat.pow_zero,Nat.div_one]
  rfl
 |k+1,u=>by
  show dlM (u/10) (k+1)++ [48+u%10]=_
  rw [Zf0 k (u/10),Nat.div_div_eq_div_mul,Nat.pow_succ,Nat.mul_comm (10^k) 10]
  rfl
def txF (u k:Nat):List Nat:=if k<=2 then dlM u k else (dlM u k).take (k-2)++46::(dlM u k).drop (k-2)
theorem Zra (u:Nat):txF u (kF u)=Zf3 u:=by
 unfold txF Zf3
 rw [if_neg (by have:=kF3 u;omega)]
theorem Znz (u k:Nat):(txF u k).length<=k+1:=by
 unfold txF
 split
 · rw [Vy];omega
 · rw [List.length_append,List.length_cons,List.length_take,List.length_drop,Vy];omega
theorem Zrb (u k:Nat):txF u (k+1)=(48+u/10^k%10)::(if k=2 then 46::txF u k else txF u k):=by
 unfold txF
 rw [Zf0]
 by_cases h:k=2
 · subst h
   rw [if_neg (by decide),if_pos rfl,if_pos (by decide)]
   rfl
 rw [if_neg h]
 by_cases h2:k<=2
 · rw [if_pos (by omega),if_pos h2]
 · rw [if_neg (by omega),if_neg h2,show k+1-2=(k-2)+1 by omega,List.take_succ_cons,List.drop_succ_cons]
   rfl
theorem Zug (z:Int) (h1: -9223372036854775808<=z) (h2:z<=9223372036854775807):Int.toNat (wr .u8 (wr .i64 (48+(if z<0 then wr .i64 (0-Int.tmod z 10) else Int.tmod z 10))))%256=48+z.natAbs%10/\(wr .i64 (Int.tdiv z 10)).natAbs=z.natAbs/10/\ -9223372036854775808<=wr .i64 (Int.tdiv z 10)/\wr .i64 (Int.tdiv z 10)<=9223372036854775807:=by
 have wu8:∀n:Int,wr .u8 n=n%256:=fun n=>IntKind.wrap_u8 n
 by_cases hz:z<0
 · obtain ⟨m,rfl⟩:∃m:Nat,z= -(m:Int):=⟨z.natAbs,by omega⟩
   rw [if_pos hz,Int.neg_tmod,Int.tmod_eq_emod_of_nonneg (by omega),Int.neg_tdiv,Int.tdiv_eq_ediv_of_nonneg (by omega)]
   have e1:wr .i64 (0- -((m:Int)%10))=(m:Int)%10:=by rw [wrk (by omega) (by omega)];omega
   have e2:wr .i64 (48+(m:Int)%10)=48+(m:Int)%10:=wrk (by omega) (by omega)
   have e3:wr .i64 (-((m:Int)/10))= -((m:Int)/10):=wrk (by omega) (by omega)
   rw [e1,e2,e3,wu8]
   omega
 · obtain ⟨m,rfl⟩:=Int.eq_ofNat_of_zero_le (show 0<=z by omega)
   rw [if_neg hz,Int.tmod_eq_emod_of_nonneg (by omega),Int.tdiv_eq_ediv_of_nonneg (by omega)]
   have e2:wr .i64 (48+(m:Int)%10)=48+(m:Int)%10:=wrk (by omega) (by omega)
   have e3:wr .i64 ((m:Int)/10)=(m:Int)/10:=wrk (by omega) (by omega)
   rw [e2,e3,wu8]
   omega
theorem Zlm (a:Int) (h1: -9223372036854775808<=a) (h2:a<=9223372036854775807):PureC E 15 [.int false .i64 a] (.str false (Zeh a)):=by
 refine Zb E_ok (Zc E_ok Zuu 400) ?_
 rw [Zlr]; delta qCL9 qCL5 qCL4 qCL3 qCL6 qCL7 qCL8
 have t46:toL (ByteArray.mk #[(46:UInt8)])= [46]:=rfl
 have t45:toL (ByteArray.mk #[(45:UInt8)])= [45]:=rfl
 rw [t46,t45]
 obtain ⟨u,hu⟩:∃u,u=a.natAbs:=⟨_,rfl⟩
 have hk19:kF u<=19:=by
  have:=nd19 u (by omega)
  unfold kF;omega
 refine ⟨fun x=>x.k<=kF u/\x.s=txF u x.k/\x.a.natAbs=u/10^x.k/\ -9223372036854775808<=x.a/\x.a<=9223372036854775807/\x.r=kF u-x.k,
  ⟨⟨[],a,0,kF u⟩,⟨Nat.zero_le _,rfl,by show a.natAbs=u/10^0;rw [Nat.pow_zero,Nat.div_one,hu],h1,h2,rfl⟩,rfl,⟨rfl,rfl,rfl,rfl,trivial⟩,trivial⟩,fun x hx=> ?_⟩
 obtain ⟨hk,hs,ha,b1,b2,hr⟩:=hx
 refine ⟨fun b=>b=(decide (x.k<3)||decide (x.a≠0)),⟨fun h=> ?_,fun h=>⟨fun h3=> ?_,fun h3=> ?_⟩⟩,fun q=> ?_,fun q=> ?_⟩
 · have h:=of_decide_eq_true h
   rw [decide_eq_true (show x.k<3 by omega)];rfl
 · have h3:x.a≠0:=by simpa using h3
   rw [decide_eq_true h3,Bool.or_true]
 · have h:=of_decide_eq_false h
   have h3:x.a=0:=by simpa using h3
   rw [decide_eq_false (show ¬x.k<3 by omega),decide_eq_false (fun k=>k h3)];rfl
 · have hlt:x.k<kF u:=by
    have q:=q.symm
    simp only [Bool.or_eq_true,decide_eq_true_eq] at q
    rcases q with q|q
    · have:=kF3 u;omega
    · have hne:u/10^x.k≠0:=by omega
      refine Classical.byContradiction fun hc=>hne (Nat.div_eq_of_lt ?_)
      exact Nat.lt_of_lt_of_le (Zyj u) (Nat.pow_le_pow_right (by decide) (by omega))
   obtain ⟨g1,g2,g3,g4⟩:=Zug x.a b1 b2
   have hlen:=Znz u x.k
   rw [<-hs] at hlen
   have wk:wr .i64 ((x.k:Int)+1)=(x.k:Int)+1:=wrk (by omega) (by omega)
   rw [wk]
   have step:∀(s':List Nat) (d:Int),s'=(if x.k=2 then 46::x.s else x.s)->d=(if x.a<0 then wr .i64 (0-Int.tmod x.a 10) else Int.tmod x.a 10)->
    1+s'.length<=9223372036854775807/\∃x_1:RtX,(x_1.k<=kF u/\x_1.s=txF u x_1.k/\x_1.a.natAbs=u/10^x_1.k/\ -9223372036854775808<=x_1.a/\x_1.a<=9223372036854775807/\x_1.r=kF u-x_1.k)/\x_1.4+1<=x.4/\true=true/\
     (a=a/\ [Int.toNat (wr .u8 (wr .i64 (48+d)))%256]++s'=x_1.s/\wr .i64 (Int.tdiv x.a 10)=x_1.a/\(x.k:Int)+1=(x_1.k:Int)/\True)/\True:=by
    intro s' d hs' hd
    rw [hd,g1]
    have hsl:s'.length<=x.s.length+1:=by
     rw [hs']
     split
     · exact Nat.le_refl _
     · omega
    refine ⟨by omega,⟨(48+x.a.natAbs%10)::s',wr .i64 (Int.tdiv x.a 10),x.k+1,kF u-(x.k+1)⟩,⟨by show x.k+1<=_;omega,?_,?_,g3,g4,rfl⟩,by show kF u-(x.k+1)+1<=x.r;omega,rfl,⟨rfl,rfl,rfl,rfl,trivial⟩,trivial⟩
    · show _::s'=txF u (x.k+1)
      rw [Zrb,hs',hs,ha]
    · show (wr .i64 (Int.tdiv x.a 10)).natAbs=u/10^(x.k+1)
      rw [g2,ha,Nat.div_div_eq_div_mul,Nat.pow_succ]
   refine ⟨fun h3=>⟨by show 1+x.s.length<=9223372036854775807;omega,fun h4=> ?_,fun h4=> ?_⟩,fun h3=>⟨fun h4=> ?_,fun h4=> ?_⟩⟩
   · have h3:=beq_iff_eq.1 h3
     exact step _ _ (by rw [if_pos (by omega)];rfl) (by rw [if_pos (of_decide_eq_true h4)])
   · have h3:=beq_iff_eq.1 h3
     exact step _ _ (by rw [if_pos (by omega)];rfl) (by rw [if_neg (of_decide_eq_false h4)])
   · have h3:=beq_eq_false_iff_ne.1 h3
     exact step _ _ (by rw [if_neg (by omega)]) (by rw [if_pos (of_decide_eq_true h4)])
   · have h3:=beq_eq_false_iff_ne.1 h3
     exact step _ _ (by rw [if_neg (by omega)]) (by rw [if_neg (of_decide_eq_false h4)])
 · have q:=q.symm
   simp only [Bool.or_eq_false_iff,decide_eq_false_iff_not,Classical.not_not] at q
   obtain ⟨q1,q2⟩:=q
   have h0:u/10^x.k=0:=by rw [<-ha,q2];rfl
   have hlt:u<10^x.k:=by
    rcases Nat.div_eq_zero_iff.1 h0 with h|h
    · exact absurd h (Nat.pos_iff_ne_zero.1 (Nat.pow_pos (by decide)))
    · exact h
   obtain ⟨m,hm⟩:∃m,x.k=m+1:=⟨x.k-1,by omega⟩
   rw [hm] at hlt
   have:=Zui m u hlt
   have hkk:x.k=kF u:=by unfold kF at*;omega
   have hs2:x.s=Zf3 u:=by rw [hs,hkk,Zra]
   refine ⟨fun h3=>⟨?_,?_⟩,fun h3=> ?_⟩
   · have:=Znz u x.k
     rw [<-hs] at this
     show 1+x.s.length<=9223372036854775807;omega
   · have h3:=of_decide_eq_true h3
     unfold Zeh
     rw [if_pos h3,hs2,hu]
   · have h3:=of_decide_eq_false h3
     unfold Zeh
     rw [if_neg h3,hs2,hu]
     rfl
end
end Go.Proofs.YthonhikjbpplnaaGreatDoor
end
