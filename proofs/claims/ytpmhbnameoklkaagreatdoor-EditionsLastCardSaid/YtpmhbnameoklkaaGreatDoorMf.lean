/- Merged texts: TcA, TcB, TcC, TcE, TcD, TcG, TcV, TcF, TpXs, EdD, EngZN, EdE, EngZW, EdF, EdG, EdH, EdI. -/
import Derived.Test.YtpmhbnameoklkaaGreatDoorMe
open And renaming intro->aB
open BitVec renaming ofInt->dm
open Bool renaming and_eq_false_iff->bm,and_eq_true->aq,and_true->cG,false->ab,false_eq_true->aO,not_eq_false'->cd,not_eq_true'->bi,or_eq_false_iff->bG,or_eq_true->bd,true->ac,true_and->cx,true_eq_false->aS,true_or->dK
open Decidable renaming byContradiction->ik,not_not->bJ
open Go.BinOp renaming and->ib
open Go.Field renaming mk->fL
open Go.Fn renaming func->cA
open Go.IntKind renaming bits->eO,i64->af,u64->bM,wrap_u64->jn
open Go.Proofs.YtpmhbnameoklkaaGreatDoor.Cls renaming mk->eP,name->aP,pay->aA,when_->aV
open Go.Proofs.YtpmhbnameoklkaaGreatDoor.Ex renaming d0->bx,d1->bA,d2->bB,d3->bC,l->bw,mk->bU,n->bW,op->aJ
open Go.Proofs.YtpmhbnameoklkaaGreatDoor.Ins renaming m->kP,mk->dq,n->eF,op->dH
open Go.Proofs.YtpmhbnameoklkaaGreatDoor.ItD renaming from_->eD,kind->fw,number->kU
open Go.Proofs.YtpmhbnameoklkaaGreatDoor.LX renaming D->fI,k->dE,m->jQ
open Go.Proofs.YtpmhbnameoklkaaGreatDoor.Rep renaming item->cZ,ref->jR
open Go.Proofs.YtpmhbnameoklkaaGreatDoor.Tar renaming clauses->ar,for_->bI,name->bN
open Go.Proofs.YtpmhbnameoklkaaGreatDoor.Th renaming clauses->bq,ins->dx,ints->gJ,reps->cC
open Go.TypeDesc renaming struct->hJ
open Go.Value renaming slice->aG
open Int renaming fdiv->ej,le_max_left->dC,le_max_right->fg,le_refl->bV,le_trans->cq,max_le->eN,ofNat_eq_natCast->bX,toNat->ag,toNat_natCast->bt,toNat_of_nonneg->jz
open List renaming all->kZ,all_eq_true->fB,append_assoc->bE,append_nil->du,cons_append->dc,cons_ne_nil->jO,drop->cj,drop_drop->kj,drop_eq_getElem_cons->cr,drop_eq_nil_of_le->bF,filter_append->fS,getD_cons_succ->cT,getD_cons_zero->cS,getD_eq_getElem?_getD->bu,getElem?_append_right->br,getElem?_drop->cE,getElem?_eq_getElem->ai,getElem?_eq_some_iff->ak,length->aa,length_append->aC,length_cons->aD,length_eq_zero_iff->iN,length_filter_le->dd,length_nil->bh,length_replicate->gE,length_reverse->fE,length_set->cD,length_take->be,mem_append->bS,mem_cons->aL,mem_cons_of_mem->aX,mem_cons_self->cB,mem_of_getElem?->aI,mem_or_eq_of_mem_set->iJ,mem_singleton->bZ,nil_append->dZ,replicate->aM,set->dp,set_append_right->gF,tail_cons->kk,take->av,take_add_one->cz,take_length->aW,take_of_length_le->bg,take_zero->eV
open Nat renaming add_sub_cancel->jG,beq->aK,beq_refl->fG,ble->bL,ble_self_eq_true->jo,blt->aR,eq_of_beq_eq_true->ax,le_of_ble_eq_true->gO,le_of_eq->iy,le_refl->aw,le_succ_of_le->jP,le_trans->bQ,lt_of_lt_of_le->bY,sub_self->dY,zero_add->bk,zero_le->bb
open Option renaming ne_none_iff_exists'->aU,none->au,some->ae,toList_some->fJ
open Prod renaming fst->ao,snd->aE
namespace Go.Proofs.YtpmhbnameoklkaaGreatDoor
set_option linter.unusedVariables false
set_option linter.unusedSimpArgs false
set_option linter.unnecessarySimpa false
set_option maxRecDepth 100000
section
def iOp(op:Int):Ins:=⟨op,0,0⟩
def iNN(op n:Int):Ins:=⟨op,n,0⟩
def cdN(op n:Int) (I:List (Nat->List Ins)) (o:Nat):List Ins:=
 if op=1 then[iNN 1 n] else if op=2 then[iNN 2 n] else
 let a:=I.getD 0 (λ_=> []) o
 let b:=I.getD 1 (λ_=> []) (o+a.length)
 if op=11 then
  let p:=o+a.length+b.length+2
  let c:=I.getD 2 (λ_=> []) p
  let q:=p+c.length+1
  let d:=I.getD 3 (λ_=> []) q
  a++b++iOp 11::iNN 13 q::(c++iNN 14 (q+d.length:Nat)::d)
 else a++b++ [iOp op]
mutual
def cdX:Ex->Nat->List Ins
 | .mk op n _ _ _ _ l=>cdN op n (cdL l)
def cdL:List Ex->List (Nat->List Ins)
 | []=> []
 |x::r=>cdX x::cdL r
end
def cdTs:Nat->List Tst->List Ins
 |_,[]=> []
 |e,w::r=>iNN 2 w.attr::⟨12,w.low,w.high⟩::iNN 13 e::cdTs e r
def cdC(c:Cls) (k o:Nat):List Ins:=
 let p:=cdX c.pay (o+3*c.when_.length)
 cdTs (o+3*c.when_.length+p.length+1) c.when_++p++ [iNN 15 k]
def cdCs:List Cls->Nat->Nat->List Ins
 | [],_,_=> []
 |c::r,k,o=>cdC c k o++cdCs r (k+1) (o+(cdC c k o).length)
def cdT(t:Tar):List Ins:=cdCs t.clauses 0 0++ [iOp 16]
theorem X7:∀(e:Nat) (l:List Tst),(cdTs e l).length=3*l.length
 |_,[]=>rfl
 |e,w::r=>by simp[cdTs,X7 e r];omega
theorem X8{len:Int}:∀{a b:List Ins} {i:Nat} {D I:List Int} {m J:Int},fromF len a i D m=ae (I,J)->fromF len (a++b) i D m=fromF len b (i+a.length) I J
 | [],b,i,D,I,m,J,h=>by cases h;rfl
 |x::r,b,i,D,I,m,J,h=>by
  unfold fromF at h
  rw[dc]
  conv=>lhs;unfold fromF
  cases R:rndF len i x D m with
  |none=>rw[R] at h;cases h
  |some p=>
   obtain⟨U,m1⟩:=p
   rw[R] at h
   have:=X8 (b:=b) (i:=i+1) h
   rw[aD,show i+(r.length+1)=i+1+r.length by omega]
   exact this
theorem Z1{D:List Int} {i k:Nat} {v:Int}:(D.set i v).getD k 0=if i=k/\k<D.length then v else D.getD k 0:=by
 rw[bu,List.getElem?_set,bu];by_cases h:i=k
 ·subst h
  by_cases I:i<D.length
  ·simp[I]
  ·simp[I]
 ·simp[h]
theorem Zep{len:Nat} {i:Nat} {x:Ins} {D:List Int} {m d a:Int} (a1:D.length=len) (hi:i+1<len) (hd:D.getD i 0=d) (a0:0<=d) (U:(eff x.op).1<=d) (I:a=d-(eff x.op).1+(eff x.op).2)
 (a2:x.op≠13/\x.op≠14/\x.op≠15/\x.op≠16) (hn:D.getD (i+1) 0<0\/D.getD (i+1) 0=a):rndF len i x D m=ae (D.set (i+1) a,max (max m d) a):=by
 unfold rndF
 rw[hd,if_neg (by omega),if_neg (by omega)]
 have R:Zes i x= [(i:Int)+1]:=by
  unfold Zes
  rw[if_neg (by omega),if_neg (by omega),if_neg (by omega)]
 rw[R,<-I]
 have e:((i:Int)+1).toNat=i+1:=by omega
 have J:setF len i a [(i:Int)+1] D=ae (D.set (i+1) a):=by
  unfold setF
  rw[e,if_neg (by omega)]
  rfl
 rw[J]
theorem Yas{len:Nat} {i e:Nat} {D:List Int} {m d:Int} (a1:D.length=len) (hi:i<e) (he:e<len) (hd:D.getD i 0=d) (a0:0<=d) (hn:D.getD e 0<0\/D.getD e 0=d):rndF len i (iNN 14 e) D m=ae (D.set e d,max m d):=by
 unfold rndF;have R:(iNN 14 (e:Int)).op=14:=rfl;have J:eff 14=(0,0):=rfl;rw[hd,if_neg (by omega),R,J,if_neg (by simp only;omega)];have hx:Zes i (iNN 14 e)= [(e:Int)]:=rfl;rw[hx];have I:((e:Int)).toNat=e:=by omega
 have U:setF len i (d-0+0) [(e:Int)] D=ae (D.set e d):=by
  unfold setF;rw[I,if_neg (by omega),show d-0+0=d by omega];rfl
 rw[U];simp only[show d-0+0=d by omega]
 congr 2
 omega
theorem Zwo{len:Nat} {i q:Nat} {D:List Int} {m d:Int} (a1:D.length=len) (hi:i+1<q) (he:q<len) (hd:D.getD i 0=d+1) (a0:0<=d) (hn:D.getD q 0<0\/D.getD q 0=d) (a2:D.getD (i+1) 0<0\/D.getD (i+1) 0=d):
 rndF len i (iNN 13 q) D m=ae ((D.set q d).set (i+1) d,max m (d+1)):=by
 unfold rndF
 have U:(iNN 13 (q:Int)).op=13:=rfl
 have R:eff 13=(1,0):=rfl
 rw[hd,if_neg (by omega),U,R,if_neg (by simp only;omega)]
 have hx:Zes i (iNN 13 q)= [(q:Int),(i:Int)+1]:=rfl
 rw[hx]
 have I:((q:Int)).toNat=q:=by omega
 have J:((i:Int)+1).toNat=i+1:=by omega
 have hs:setF len i (d+1-1+0) [(q:Int),(i:Int)+1] D=ae ((D.set q d).set (i+1) d):=by
  unfold setF
  rw[I,if_neg (by omega),show d+1-1+0=d by omega]
  unfold setF
  have:(D.set q d).getD (i+1) 0=D.getD (i+1) 0:=by rw[Z1,if_neg (by omega)]
  rw[J,this,if_neg (by omega)]
  rfl
 rw[hs]
 simp only[show d+1-1+0=d by omega]
 congr 2
 omega
def dpN(op:Int) (I:List Int):Int:=
 if op=1\/op=2 then 1 else if op=11 then max (max (I.getD 0 0) (1+I.getD 1 0)) (max (I.getD 2 0) (I.getD 3 0)) else max (I.getD 0 0) (1+I.getD 1 0)
mutual
def dpX:Ex->Int
 | .mk op _ _ _ _ _ l=>dpN op (dpL l)
def dpL:List Ex->List Int
 | []=> []
 |x::r=>dpX x::dpL r
end
def Arx(x:Ex):Prop:=1<=x.op/\x.op<=11/\x.l.length=if x.op=1\/x.op=2 then 0 else if x.op=11 then 4 else 2
theorem Z5s{x:Ex} (h:Zn x=ac):Arx x/\∀y∈x.l,Zn y=true:=by
 rw[Zde,aq] at h;obtain⟨I,J⟩:=h;unfold Zdd at I;simp only[aq,bd,decide_eq_true_eq] at I;obtain⟨⟨⟨⟨⟨⟨R,U⟩,k3⟩,k4⟩,k5⟩,k6⟩,k7⟩:=I;refine⟨⟨R,U,?_⟩,formL_iff.1 J⟩;rw[k5];unfold Zk8;rfl
def Ver(x:Ex):Prop:=∀⦃len o:Nat⦄ ⦃D:List Int⦄ ⦃m d:Int⦄,D.length=len->o+(cdX x o).length<len->D.getD o 0=d->0<=d->d<=m->(∀k,o<k->k<o+(cdX x o).length->D.getD k 0<0)->(D.getD (o+(cdX x o).length) 0<0\/D.getD (o+(cdX x o).length) 0=d+1)->
 ∃I:List Int,fromF len (cdX x o) o D m=ae (I,max m (d+dpX x))/\I.length=len/\I.getD (o+(cdX x o).length) 0=d+1/\∀k,o+(cdX x o).length<k->I.getD k 0=D.getD k 0
theorem Ylh{α:Type} {l:List α} (h:l.length=2):∃a b,l= [a,b]:=by
 match l,h with
 | [a,b],_=>exact⟨a,b,rfl⟩
theorem Yli{α:Type} {l:List α} (h:l.length=4):∃a b c d,l= [a,b,c,d]:=by
 match l,h with
 | [a,b,c,d],_=>exact⟨a,b,c,d,rfl⟩
theorem Zzj{op n a b c d:Int} {l:List Ex} {o:Nat} (h:op=1\/op=2):cdX (.mk op n a b c d l) o= [iNN op n]:=by
 rw[cdX];unfold cdN;rcases h with rfl|rfl
 ·rw[if_pos rfl]
 ·rw[if_neg (by decide),if_pos rfl]
theorem Zzk{op n a b c d:Int} {x y:Ex} {o:Nat} (I:3<=op) (J:op<=10):cdX (.mk op n a b c d [x,y]) o=cdX x o++cdX y (o+(cdX x o).length)++ [iOp op]:=by
 rw[cdX];unfold cdN;rw[if_neg (by omega),if_neg (by omega)];simp only[cdL,cS,cT];rw[if_neg (by omega)]
theorem Zzl{n a b c d:Int} {x y z w:Ex} {o:Nat} {p q:Nat} (I:p=o+(cdX x o).length+(cdX y (o+(cdX x o).length)).length+2) (J:q=p+(cdX z p).length+1):
 cdX (.mk 11 n a b c d [x,y,z,w]) o=cdX x o++cdX y (o+(cdX x o).length)++iOp 11::iNN 13 q::(cdX z p++iNN 14 (q+(cdX w q).length:Nat)::cdX w q):=by
 rw[cdX];unfold cdN
 rw[if_neg (by decide),if_neg (by decide)]
 simp only[cdL,cS,cT]
 rw[if_pos trivial,<-I,<-J]
theorem dp_1{op n a b c d:Int} {l:List Ex} (h:op=1\/op=2):dpX (.mk op n a b c d l)=1:=by
 rw[dpX];unfold dpN;rw[if_pos h]
theorem dp_2{op n a b c d:Int} {x y:Ex} (I:3<=op) (J:op<=10):dpX (.mk op n a b c d [x,y])=max (dpX x) (1+dpX y):=by
 rw[dpX];unfold dpN;rw[if_neg (by omega),if_neg (by omega)];simp only[dpL,cS,cT]
theorem dp_4{n a b c d:Int} {x y z w:Ex}:dpX (.mk 11 n a b c d [x,y,z,w])=max (max (dpX x) (1+dpX y)) (max (dpX z) (dpX w)):=by
 rw[dpX];unfold dpN;rw[if_neg (by decide),if_pos rfl];simp only[dpL,cS,cT]
theorem Wu{x:Ex} (h:Zn x=ac):(∃op n a b c d,x= .mk op n a b c d []/\(op=1\/op=2))\/(∃op n a b c d y z,x= .mk op n a b c d [y,z]/\3<=op/\op<=10/\Zn y=ac/\Zn z=ac)\/
 (∃n a b c d y z u v,x= .mk 11 n a b c d [y,z,u,v]/\Zn y=ac/\Zn z=ac/\Zn u=ac/\Zn v=ac):=by
 obtain⟨⟨R,U,I⟩,J⟩:=Z5s h
 obtain⟨op,n,a,b,c,d,l⟩:=x
 have R:1<=op:=R
 have U:op<=11:=U
 have I:l.length=if op=1\/op=2 then 0 else if op=11 then 4 else 2:=I
 have J:∀y∈l,Zn y=true:=J
 by_cases q:op=1\/op=2
 ·rw[if_pos q] at I
  obtain rfl:=List.eq_nil_of_length_eq_zero I
  exact .inl ⟨op,n,a,b,c,d,rfl,q⟩
 ·rw[if_neg q] at I
  by_cases q2:op=11
  ·rw[if_pos q2] at I
   obtain⟨y,z,u,v,rfl⟩:=Yli I
   subst q2
   exact .inr (.inr ⟨n,a,b,c,d,y,z,u,v,rfl,J y (.head _),J z (.tail _ (.head _)),J u (.tail _ (.tail _ (.head _))),J v (.tail _ (.tail _ (.tail _ (.head _))))⟩)
  ·rw[if_neg q2] at I
   obtain⟨y,z,rfl⟩:=Ylh I
   exact .inr (.inl ⟨op,n,a,b,c,d,y,z,rfl,by omega,by omega,J y (.head _),J z (.tail _ (.head _))⟩)
theorem sz_2{op n a b c d:Int} {y z:Ex}:(bU op n a b c d [y,z]).sz=1+y.sz+z.sz:=by rw[Ex.sz_eq];simp[bw,Ex.szL];omega
theorem sz_4{op n a b c d:Int} {y z u v:Ex}:(bU op n a b c d [y,z,u,v]).sz=1+y.sz+z.sz+u.sz+v.sz:=by rw[Ex.sz_eq];simp[bw,Ex.szL];omega
theorem Zeq:∀(k:Nat) (x:Ex),x.sz<=k->Zn x=ac->1<=dpX x
 |0,x,h,_=>by have:=x.sz_pos;omega
 |k+1,x,h,R=>by
  rcases Wu R with⟨op,n,a,b,c,d,rfl,q⟩|⟨op,n,a,b,c,d,y,z,rfl,U,q2,I,J⟩|⟨n,a,b,c,d,y,z,u,v,rfl,I,J,f3,f4⟩
  ·rw[dp_1 q];exact bV _
  ·rw[sz_2] at h
   have:=Zeq k y (by omega) I
   rw[dp_2 U q2];omega
  ·rw[sz_4] at h
   have:=Zeq k y (by omega) I
   rw[dp_4];omega
theorem Zjf:∀(k:Nat) (x:Ex),x.sz<=k->Zn x=ac->∀o,1<=(cdX x o).length
 |0,x,h,_=>by have:=x.sz_pos;omega
 |k+1,x,h,R=>by
  intro o
  rcases Wu R with⟨op,n,a,b,c,d,rfl,q⟩|⟨op,n,a,b,c,d,y,z,rfl,U,q2,I,J⟩|⟨n,a,b,c,d,y,z,u,v,rfl,I,J,f3,f4⟩
  ·rw[Zzj q];simp
  ·rw[Zzk U q2];simp;omega
  ·rw[Zzl rfl rfl];simp;omega
theorem Xh{len:Int} {i:Nat} {x:Ins} {D I:List Int} {m m':Int} (h:rndF len i x D m=ae (I,m')) (r:List Ins):fromF len (x::r) i D m=fromF len r (i+1) I m':=by
 conv=>lhs;unfold fromF
 rw[h]
theorem max8{m d a b c e K:Int} (ha:a<=K) (hb:1+b<=K) (hc:c<=K) (he:e<=K) (hK:K=a\/K=1+b\/K=c\/K=e) (pa:1<=a) (pb:1<=b):
 max (max (max (max (max (max (max (max m (d+a)) (d+1+b)) (d+1+1)) (d+1)) (d+1)) (d+c)) (d+1)) (d+e)=max m (d+K):=by
 apply Int.le_antisymm
 ·refine eN.2 ⟨eN.2 ⟨eN.2 ⟨eN.2 ⟨eN.2 ⟨eN.2 ⟨eN.2 ⟨eN.2 ⟨?_,?_⟩,?_⟩,?_⟩,?_⟩,?_⟩,?_⟩,?_⟩,?_⟩
  ·exact dC _ _
  all_goals exact cq (by omega) (fg m (d+K))
 ·have I:=dC (max (max (max (max (max (max (max m (d+a)) (d+1+b)) (d+1+1)) (d+1)) (d+1)) (d+c)) (d+1)) (d+e)
  have J:=dC (max (max (max (max (max (max m (d+a)) (d+1+b)) (d+1+1)) (d+1)) (d+1)) (d+c)) (d+1)
  have R:=dC (max (max (max (max (max m (d+a)) (d+1+b)) (d+1+1)) (d+1)) (d+1)) (d+c)
  have U:=dC (max (max (max (max m (d+a)) (d+1+b)) (d+1+1)) (d+1)) (d+1)
  have e5:=dC (max (max (max m (d+a)) (d+1+b)) (d+1+1)) (d+1)
  have e6:=dC (max (max m (d+a)) (d+1+b)) (d+1+1)
  have e7:=dC (max m (d+a)) (d+1+b)
  have e8:=dC m (d+a)
  have f1:=fg (max (max (max (max (max (max (max m (d+a)) (d+1+b)) (d+1+1)) (d+1)) (d+1)) (d+c)) (d+1)) (d+e)
  have f3:=fg (max (max (max (max (max m (d+a)) (d+1+b)) (d+1+1)) (d+1)) (d+1)) (d+c)
  have f7:=fg (max m (d+a)) (d+1+b)
  have f8:=fg m (d+a)
  refine eN.2 ⟨?_,?_⟩
  ·exact(cq e8 (cq e7 (cq e6 (cq e5 (cq U (cq R (cq J I)))))))
  ·rcases hK with rfl|rfl|rfl|rfl
   ·exact(cq f8 (cq e7 (cq e6 (cq e5 (cq U (cq R (cq J I)))))))
   ·exact cq (show d+(1+b)<=d+1+b by omega) (cq f7 (cq e6 (cq e5 (cq U (cq R (cq J I))))))
   ·exact(cq f3 (cq J I))
   ·exact f1
theorem Zzm(a b c e:Int):∃K,max (max a (1+b)) (max c e)=K/\a<=K/\1+b<=K/\c<=K/\e<=K/\(K=a\/K=1+b\/K=c\/K=e):=⟨_,rfl,by omega,by omega,by omega,by omega,by omega⟩
theorem Zb1(m a:Int):∃K,max m a=K/\m<=K/\a<=K:=⟨_,rfl,by omega,by omega⟩
set_option maxHeartbeats 4000000 in
theorem Zdb:∀(k:Nat) (x:Ex),x.sz<=k->Zn x=ac->Ver x
 |0,x,h,_=>by have:=x.sz_pos;omega
 |k+1,x,h,hf=>by
  intro len o D m d a6 hl hd a0 b0 I U
  rcases Wu hf with⟨op,n,a,b,c,e,rfl,q⟩|⟨op,n,a,b,c,e,y,z,rfl,q1,q2,f1,f2⟩|⟨n,a,b,c,e,y,z,u,v,rfl,f1,f2,f3,f4⟩
  ·rw[Zzj q] at hl I U⊢
   rw[dp_1 q]
   have hl:o+1<len:=hl
   have U:D.getD (o+1) 0<0\/D.getD (o+1) 0=d+1:=U
   have a2:eff op=(0,1):=by unfold eff;rw[if_pos q]
   have hr:=Zep (x:=iNN op n) (m:=m) a6 hl hd a0 (by show(eff op).1<=d;rw[a2];exact a0) (a:=d+1) (by show d+1=d-(eff op).1+(eff op).2;rw[a2];simp only;omega) (by show op≠13/\op≠14/\op≠15/\op≠16;omega) U
   refine⟨D.set (o+1) (d+1),?_,by rw[cD];exact a6,?_,λj hj=> ?_⟩
   ·rw[Xh hr]
    show ae (_,_)=ae (_,_)
    congr 2
    omega
   ·show(D.set (o+1) (d+1)).getD (o+1) 0=_
    rw[Z1,if_pos ⟨rfl,by omega⟩]
   ·have hj:o+1<j:=hj
    rw[Z1,if_neg (by omega)]
  ·rw[sz_2] at h
   have i1:=Zdb k y (by omega) f1
   have i2:=Zdb k z (by omega) f2
   have p1:=Zeq k y (by omega) f1
   have p2:=Zeq k z (by omega) f2
   rw[Zzk q1 q2] at hl I U⊢
   rw[dp_2 q1 q2]
   generalize R:cdX y o=A at*
   generalize hB:cdX z (o+A.length)=B at*
   simp only[aC,aD,bh] at hl I U⊢
   obtain⟨D1,e1,l1,g1,k1⟩:=i1 (o:=o) (m:=m) a6 (by rw[R];omega) hd a0 b0 (λj h1 J=>I j h1 (by rw[R] at J;omega)) (.inl (I _ (by rw[R];have:=Zjf k y (by omega) f1 o;rw[R] at this;omega) (by rw[R];omega)))
   rw[R] at e1 g1 k1
   have pB:=Zjf k z (by omega) f2 (o+A.length)
   rw[hB] at pB
   obtain⟨D2,e2,l2,g2,k2⟩:=i2 (o:=o+A.length) (m:=max m (d+dpX y)) l1 (by rw[hB];omega) g1 (by omega) (by omega) (λj h1 J=>by rw[k1 j h1];exact I j (by omega) (by rw[hB] at J;omega)) (.inl (by rw[hB,k1 _ (by omega)];exact I _ (by omega) (by omega)))
   rw[hB] at e2 g2 k2
   have a2:eff op=(2,1):=by
    unfold eff
    rw[if_neg (by omega),if_neg (by omega),if_neg (by omega),if_neg (by omega)]
   have hr:=Zep (x:=iOp op) (m:=max (max m (d+dpX y)) (d+1+dpX z)) l2 (by omega) g2 (by omega) (by show(eff op).1<=_;rw[a2];simp only;omega) (a:=d+1) (by show d+1=d+1+1-(eff op).1+(eff op).2;rw[a2];simp only;omega) (by show op≠13/\op≠14/\op≠15/\op≠16;omega)
    (by rw[k2 _ (by omega),k1 _ (by omega),show o+A.length+B.length+1=o+(A.length+B.length+(0+1)) by omega];exact U)
   refine⟨D2.set (o+A.length+B.length+1) (d+1),?_,by rw[cD];exact l2,?_,λj hj=> ?_⟩
   ·rw[bE,X8 e1,X8 e2,Xh hr]
    show ae (_,_)=ae (_,_)
    congr 2
    omega
   ·rw[Z1,if_pos ⟨by omega,by omega⟩]
   ·rw[Z1,if_neg (by omega),k2 _ (by omega),k1 _ (by omega)]
  ·rw[sz_4] at h
   have i1:=Zdb k y (by omega) f1
   have i2:=Zdb k z (by omega) f2
   have i3:=Zdb k u (by omega) f3
   have i4:=Zdb k v (by omega) f4
   have p1:=Zeq k y (by omega) f1
   have p2:=Zeq k z (by omega) f2
   have p3:=Zeq k u (by omega) f3
   have p4:=Zeq k v (by omega) f4
   have pA:=Zjf k y (by omega) f1 o
   have pB:=Zjf k z (by omega) f2 (o+(cdX y o).length)
   obtain⟨p,hp⟩:∃p,p=o+(cdX y o).length+(cdX z (o+(cdX y o).length)).length+2:=⟨_,rfl⟩
   obtain⟨q,hq⟩:∃q,q=p+(cdX u p).length+1:=⟨_,rfl⟩
   have pC:=Zjf k u (by omega) f3 p
   have pE:=Zjf k v (by omega) f4 q
   rw[Zzl hp hq] at hl I U⊢
   rw[dp_4]
   generalize R:cdX y o=A at*
   generalize hB:cdX z (o+A.length)=B at*
   generalize hC:cdX u p=C at*
   generalize hE:cdX v q=F at*
   simp only[aC,aD,bh] at hl I U⊢
   obtain⟨n0,hn⟩:∃n0,n0=A.length+B.length+(C.length+(F.length+1)+1+1):=⟨_,rfl⟩
   rw[<-hn] at hl I U⊢
   obtain⟨D1,e1,l1,g1,k1⟩:=i1 (o:=o) (m:=m) a6 (by rw[R];omega) hd a0 b0 (λj h1 J=>I j h1 (by rw[R] at J;omega)) (.inl (I _ (by rw[R];omega) (by rw[R];omega)))
   rw[R] at e1 g1 k1
   obtain⟨m1,hm1,b1,c7⟩:=Zb1 m (d+dpX y)
   replace hm1:=PLift.up hm1
   rw[hm1.down] at e1
   obtain⟨D2,e2,l2,g2,k2⟩:=i2 (o:=o+A.length) (m:=m1) l1 (by rw[hB];omega) g1 (by omega) (by omega) (λj h1 J=>by rw[k1 j h1];exact I j (by omega) (by rw[hB] at J;omega)) (.inl (by rw[hB,k1 _ (by omega)];exact I _ (by omega) (by omega)))
   rw[hB] at e2 g2 k2
   obtain⟨m2,hm2,b2,c8⟩:=Zb1 m1 (d+1+dpX z)
   replace hm2:=PLift.up hm2
   rw[hm2.down] at e2
   have b7:∀j,o+A.length+B.length<j->D2.getD j 0=D.getD j 0:=λj hj=>by rw[k2 j hj,k1 j (by omega)]
   have b3:=Zep (x:=iOp 11) (m:=m2) l2 (by omega) g2 (by omega) (by show(2:Int)<=_;omega) (a:=d+1) (by show d+1=d+1+1-2+1;omega) (by decide) (.inl (by rw[b7 _ (by omega)];exact I _ (by omega) (by omega)))
   obtain⟨D3,a4⟩:∃D3,D3=D2.set (o+A.length+B.length+1) (d+1):=⟨_,rfl⟩
   rw[<-a4] at b3
   have l3:D3.length=len:=by rw[a4,cD];exact l2
   have g3:D3.getD (o+A.length+B.length+1) 0=d+1:=by rw[a4,Z1,if_pos ⟨rfl,by omega⟩]
   have a8:∀j,o+A.length+B.length+1<j->D3.getD j 0=D.getD j 0:=λj hj=>by rw[a4,Z1,if_neg (by omega),b7 j (by omega)]
   have a7:=Zwo (i:=o+A.length+B.length+1) (q:=q) (m:=max (max m2 (d+1+1)) (d+1)) l3 (by omega) (by omega) g3 a0 (.inl (by rw[a8 _ (by omega)];exact I _ (by omega) (by omega))) (.inl (by rw[a8 _ (by omega)];exact I _ (by omega) (by omega)))
   obtain⟨D4,a1⟩:∃D4,D4=(D3.set q d).set (o+A.length+B.length+1+1) d:=⟨_,rfl⟩
   rw[<-a1] at a7
   have l4:D4.length=len:=by rw[a1,cD,cD];exact l3
   have g4:D4.getD p 0=d:=by rw[a1,Z1,if_pos ⟨by omega,by rw[cD];omega⟩]
   have b8:D4.getD q 0=d:=by rw[a1,Z1,if_neg (by omega),Z1,if_pos ⟨rfl,by omega⟩]
   have a3:∀j,p<j->j≠q->D4.getD j 0=D.getD j 0:=λj hj d5=>by rw[a1,Z1,if_neg (by omega),Z1,if_neg (by omega),a8 j (by omega)]
   obtain⟨m4,hm4,b4,c9⟩:=Zb1 (max (max m2 (d+1+1)) (d+1)) (d+1)
   clear b4
   replace hm4:=PLift.up hm4
   rw[hm4.down] at a7
   obtain⟨D5,e5,l5,g5,k5⟩:=i3 (o:=p) (m:=m4) l4 (by rw[hC];omega) g4 a0 (by omega) (λj h1 J=>by rw[a3 j h1 (by rw[hC] at J;omega)];exact I j (by omega) (by rw[hC] at J;omega)) (.inl (by rw[hC,a3 _ (by omega) (by omega)];exact I _ (by omega) (by omega)))
   rw[hC] at e5 g5 k5
   obtain⟨m5,hm5,b5,d4⟩:=Zb1 m4 (d+dpX u)
   replace hm5:=PLift.up hm5
   rw[hm5.down] at e5
   have c6:D5.getD (q+F.length) 0<0\/D5.getD (q+F.length) 0=d+1:=by
    rw[k5 _ (by omega),a3 _ (by omega) (by omega),show q+F.length=o+n0 by omega];exact U
   have b6:=Yas (i:=p+C.length) (e:=q+F.length) (m:=m5) l5 (by omega) (by omega) g5 (by omega) c6
   obtain⟨D6,a5⟩:∃D6,D6=D5.set (q+F.length) (d+1):=⟨_,rfl⟩
   rw[<-a5] at b6
   have l6:D6.length=len:=by rw[a5,cD];exact l5
   have a9:∀j,q+F.length≠j->D6.getD j 0=D5.getD j 0:=λj hj=>by rw[a5,Z1,if_neg (by omega)]
   have b9:D6.getD (q+F.length) 0=d+1:=by rw[a5,Z1,if_pos ⟨rfl,by omega⟩]
   have c0:D6.getD q 0=d:=by rw[a9 _ (by omega),k5 _ (by omega),b8]
   obtain⟨D7,e7,l7,g7,k7⟩:=i4 (o:=q) (m:=max m5 (d+1)) l6 (by rw[hE];omega) c0 a0 (by omega) (λj h1 J=>by rw[a9 _ (by rw[hE] at J;omega),k5 _ (by omega),a3 _ (by omega) (by omega)];exact I j (by omega) (by rw[hE] at J;omega)) (.inr (by rw[hE];exact b9))
   rw[hE] at e7 g7 k7
   refine⟨D7,?_,l7,by rw[show o+n0=q+F.length by omega];exact g7,λj hj=> ?_⟩
   ·rw[bE,X8 e1,X8 e2,Xh b3,Xh a7,show o+A.length+B.length+1+1=p by omega,X8 e5,Xh b6,show p+C.length+1=q by omega,e7]
    obtain⟨K,hK,c1,c2,c3,c4,c5⟩:=Zzm (dpX y) (dpX z) (dpX u) (dpX v)
    rw[hK,<-hm5.down,<-hm4.down,<-hm2.down,<-hm1.down]
    rw[max8 c1 c2 c3 c4 c5 p1 p2]
   ·rw[k7 _ (by omega),a9 _ (by omega),k5 _ (by omega),a3 _ (by omega) (by omega)]
end
section
theorem Yk3{x:Ex} (h:Zn x=ac):Ver x:=Zdb x.sz x (aw _) h
theorem Zsq{x:Ex} (h:Zn x=ac):1<=dpX x:=Zeq x.sz x (aw _) h
theorem Yec{x:Ex} (h:Zn x=ac) (o:Nat):1<=(cdX x o).length:=Zjf x.sz x (aw _) h o
theorem Zku{len:Int}:∀{r:List Ins} {i:Nat} {D:List Int} {m:Int},(∀k,i<=k->k<i+r.length->D.getD k 0<0)->fromF len r i D m=ae (D,m)
 | [],i,D,m,_=>rfl
 |x::r,i,D,m,h=>by
  have I:rndF len i x D m=ae (D,m):=by
   unfold rndF
   rw[if_pos (h i (aw _) (by rw[aD];omega))]
  rw[Xh I]
  exact Zku λk J R=>h k (by omega) (by rw[aD];omega)
theorem Ybo{len e:Nat}:∀{ws:List Tst} {o:Nat} {D:List Int} {m:Int},D.length=len->o+3*ws.length<e->e<len->0<=m->D.getD o 0=0->(∀k,o<k->k<e->D.getD k 0<0)->(D.getD e 0<0\/D.getD e 0=0)->
 ∃I:List Int,fromF len (cdTs e ws) o D m=ae (I,if ws= [] then m else max m 1)/\I.length=len/\I.getD (o+3*ws.length) 0=0/\I.getD e 0=(if ws= [] then D.getD e 0 else 0)/\∀k,o+3*ws.length<k->k≠e->I.getD k 0=D.getD k 0
 | [],o,D,m,h1,h2,h3,hm,h4,h5,h6=>⟨D,rfl,h1,h4,rfl,λ_ _ _=>rfl⟩
 |w::ws,o,D,m,h1,h2,h3,hm,h4,h5,h6=>by
  rw[aD] at h2⊢
  have r1:=Zep (x:=iNN 2 w.attr) (m:=m) h1 (show o+1<len by omega) h4 (by decide) (by show(0:Int)<=0;decide) (a:=1) (by show(1:Int)=0-0+1;decide) (by show(2:Int)≠13/\(2:Int)≠14/\(2:Int)≠15/\(2:Int)≠16;decide) (.inl (h5 (o+1) (by omega) (by omega)))
  obtain⟨J,a1⟩:∃J,J=D.set (o+1) 1:=⟨_,rfl⟩
  rw[<-a1] at r1
  have l1:J.length=len:=by rw[a1,cD];exact h1
  have g1:J.getD (o+1) 0=1:=by rw[a1,Z1,if_pos ⟨rfl,by omega⟩]
  have k1:∀k,o+1<k->J.getD k 0=D.getD k 0:=λk hk=>by rw[a1,Z1,if_neg (by omega)]
  have r2:=Zep (x:=(⟨12,w.low,w.high⟩:Ins)) (m:=max (max m 0) 1) l1 (show o+1+1<len by omega) g1 (by decide) (by show(1:Int)<=1;decide) (a:=1) (by show(1:Int)=1-1+1;decide) (by show(12:Int)≠13/\(12:Int)≠14/\(12:Int)≠15/\(12:Int)≠16;decide) (.inl (by rw[k1 _ (by omega)];exact h5 _ (by omega) (by omega)))
  obtain⟨R,a2⟩:∃R,R=J.set (o+1+1) 1:=⟨_,rfl⟩
  rw[<-a2] at r2
  have l2:R.length=len:=by rw[a2,cD];exact l1
  have g2:R.getD (o+1+1) 0=0+1:=by rw[a2,Z1,if_pos ⟨rfl,by omega⟩];rfl
  have k2:∀k,o+1+1<k->R.getD k 0=D.getD k 0:=λk hk=>by rw[a2,Z1,if_neg (by omega),k1 k (by omega)]
  have r3:=Zwo (i:=o+1+1) (q:=e) (m:=max (max (max (max m 0) 1) 1) 1) l2 (by omega) h3 g2 (by decide) (by rw[k2 _ (by omega)];exact h6) (.inl (by rw[k2 _ (by omega)];exact h5 _ (by omega) (by omega)))
  obtain⟨U,a0⟩:∃U,U=(R.set e 0).set (o+1+1+1) 0:=⟨_,rfl⟩
  rw[<-a0] at r3
  have l3:U.length=len:=by rw[a0,cD,cD];exact l2
  have g3:U.getD (o+1+1+1) 0=0:=by rw[a0,Z1,if_pos ⟨rfl,by rw[cD];omega⟩]
  have a3:U.getD e 0=0:=by rw[a0,Z1,if_neg (by omega),Z1,if_pos ⟨rfl,by omega⟩]
  have k3:∀k,o+1+1+1<k->k≠e->U.getD k 0=D.getD k 0:=λk hk a4=>by rw[a0,Z1,if_neg (by omega),Z1,if_neg (by omega),k2 k (by omega)]
  have em:max (max (max (max (max m 0) 1) 1) 1) (0+1)=max m 1:=by omega
  rw[em] at r3
  obtain⟨I,f1,f2,f3,f4,f5⟩:=Ybo (ws:=ws) (o:=o+1+1+1) (m:=max m 1) l3 (by omega) h3 (by omega) g3 (λk a b=>by rw[k3 k a (by omega)];exact h5 k (by omega) b) (.inr a3)
  refine⟨I,?_,f2,by rw[show o+3*(ws.length+1)=o+1+1+1+3*ws.length by omega];exact f3,?_,λk a b=>by rw[f5 k (by omega) b,k3 k (by omega) b]⟩
  ·show fromF len (iNN 2 w.attr::⟨12,w.low,w.high⟩::iNN 13 e::cdTs e ws) o D m=_
   rw[Xh r1,Xh r2,Xh r3,f1,if_neg (jO w ws)]
   congr 2
   split<;>omega
  ·rw[f4,if_neg (jO w ws)]
   split
   ·exact a3
   ·rfl
theorem Z29(c:Cls) (k o:Nat):(cdC c k o).length=3*c.when_.length+(cdX c.pay (o+3*c.when_.length)).length+1:=by
 unfold cdC;simp only[aC,X7,aD,bh]
theorem Yk4{len:Nat} {c:Cls} {i o:Nat} {D:List Int} {m:Int} (hf:Zn c.pay=ac) (h1:D.length=len) (h2:o+(cdC c i o).length<len) (hm:0<=m) (h4:D.getD o 0=0) (I:∀k,o<k->k<=o+(cdC c i o).length->D.getD k 0<0):
 ∃R:List Int,fromF len (cdC c i o) o D m=ae (R,max m (dpX c.pay))/\R.length=len/\(if c.when_= [] then R.getD (o+(cdC c i o).length) 0<0 else R.getD (o+(cdC c i o).length) 0=0)/\∀k,o+(cdC c i o).length<k->R.getD k 0=D.getD k 0:=by
 have hp:=Zsq hf
 rw[Z29] at h2 I⊢
 obtain⟨p,a0⟩:∃p,p=o+3*c.when_.length:=⟨_,rfl⟩
 have a4:=Yec hf p
 unfold cdC
 rw[<-a0] at h2 I⊢
 simp only
 generalize U:cdX c.pay p=A at*
 obtain⟨e,he⟩:∃e,e=p+A.length+1:=⟨_,rfl⟩
 have a1:o+(3*c.when_.length+A.length+1)=e:=by omega
 rw[a1] at h2 I⊢
 rw[<-he]
 obtain⟨D1,f1,f2,f3,f4,f5⟩:=Ybo (e:=e) (ws:=c.when_) (o:=o) (m:=m) h1 (by omega) h2 hm h4 (λk a b=>I k a (by omega)) (.inl (I e (by omega) (by omega)))
 have ge:D1.getD e 0<0\/D1.getD e 0=0:=by
  rw[f4]
  split
  ·exact .inl (I e (by omega) (by omega))
  ·exact .inr rfl
 rw[<-a0] at f3 f5
 obtain⟨J,a3,b1⟩:∃J,(if c.when_= [] then m else max m 1)=J/\(m<=J/\J<=max m 1):=⟨_,rfl,by split<;>omega⟩
 rw[a3] at f1
 obtain⟨D2,e2,l2,g2,k2⟩:=Yk3 hf (o:=p) (m:=J) (d:=0) f2 (by rw[U];omega) f3 (by decide) (by omega) (λk a b=>by rw[f5 k a (by rw[U] at b;omega)];exact I k (by omega) (by rw[U] at b;omega)) (.inl (by rw[U,f5 _ (by omega) (by omega)];exact I _ (by omega) (by omega)))
 rw[U] at e2 g2 k2
 have r3:rndF len (p+A.length) (iNN 15 i) D2 (max J (0+dpX c.pay))=ae (D2,max (max (max J (0+dpX c.pay)) 1) 0):=by
  unfold rndF
  have ho:(iNN 15 (i:Int)).op=15:=rfl
  have a2:eff 15=(1,0):=rfl
  rw[g2,ho,a2,if_neg (by decide),if_neg (by decide)]
  have hx:Zes ((p+A.length:Nat):Int) (iNN 15 i)= []:=rfl
  rw[hx]
  rfl
 refine⟨D2,?_,l2,?_,λk hk=>by rw[k2 k (by omega),f5 k (by omega) (by omega)]⟩
 ·rw[bE,X8 f1,X7,<-a0,X8 e2,Xh r3]
  show ae (_,_)=ae (_,_)
  congr 2
  omega
 ·rw[k2 e (by omega),f4]
  split
  ·exact I e (by omega) (by omega)
  ·rfl
def dCs:List Cls->Int
 | []=>0
 |c::r=>if c.when_= [] then dpX c.pay else max (dpX c.pay) (dCs r)
theorem Z3a:∀{l:List Cls},(∀c∈l,Zn c.pay=ac)->0<=dCs l
 | [],_=>bV _
 |c::r,h=>by
  have:=Zsq (h c (by simp))
  unfold dCs
  split<;>omega
theorem Ybp{len:Nat}:∀{l:List Cls} {i o:Nat} {D:List Int} {m:Int},(∀c∈l,Zn c.pay=ac)->D.length=len->o+(cdCs l i o).length+1=len->0<=m->D.getD o 0=0->(∀k,o<k->k<len->D.getD k 0<0)->
 ∃D':List Int,fromF len (cdCs l i o++ [iOp 16]) o D m=ae (D',max m (dCs l))
 | [],i,o,D,m,I,h1,h2,hm,U,R=>by
  have r:rndF len o (iOp 16) D m=ae (D,max (max m 0) 0):=by
   unfold rndF
   have ho:(iOp 16).op=16:=rfl
   have a0:eff 16=(0,0):=rfl
   rw[U,ho,a0,if_neg (by decide),if_neg (by decide)]
   rfl
  refine⟨D,?_⟩
  show fromF len [iOp 16] o D m=_
  rw[Xh r]
  show ae (_,_)=ae (_,_)
  congr 2
  show max (max m 0) 0=max m 0
  omega
 |c::l,i,o,D,m,I,h1,h2,hm,U,R=>by
  have e0:cdCs (c::l) i o=cdC c i o++cdCs l (i+1) (o+(cdC c i o).length):=rfl
  rw[e0,aC] at h2
  rw[e0,bE]
  obtain⟨D1,f1,f2,J,f4⟩:=Yk4 (i:=i) (o:=o) (m:=m) (I c (by simp)) h1 (by omega) hm U (λk a b=>R k a (by omega))
  have hd:=Zsq (I c (by simp))
  have a1:=Z3a (λd hd=>I d (aX _ hd))
  rw[X8 f1]
  unfold dCs
  by_cases hw:c.when_= []
  ·rw[if_pos hw] at J⊢
   refine⟨D1,Zku λk a b=> ?_⟩
   rw[aC,aD,bh] at b
   by_cases hk:k=o+(cdC c i o).length
   ·rw[hk];exact J
   ·rw[f4 k (by omega)];exact R k (by omega) (by omega)
  ·rw[if_neg hw] at J⊢
   obtain⟨D2,e2⟩:=Ybp (l:=l) (i:=i+1) (o:=o+(cdC c i o).length) (m:=max m (dpX c.pay)) (λd hd=>I d (aX _ hd)) f2 (by omega) (by omega) J (λk a b=>by rw[f4 k a];exact R k (by omega) b)
   refine⟨D2,?_⟩
   rw[e2]
   congr 2
   omega
theorem Yed{x:Ex} (h:Zn x=ac):0<=x.n/\x.n<=Zzz x.op:=by
 rw[Zde,aq] at h;have I:=h.1;unfold Zdd at I;simp only[aq,bd,decide_eq_true_eq] at I;exact⟨I.1.1.1.1.2,I.1.1.1.2⟩
theorem Yee{op:Int} (I:3<=op) (J:op<=11\/op=16):Z7 (iOp op)=true:=by
 unfold Z7 iOp;simp only;rw[if_neg (by omega),if_neg (by omega),if_neg (by omega)];exact decide_eq_true ⟨I,by omega,trivial,trivial⟩
theorem fm_n{op n:Int} (h:op=1\/op=13\/op=14\/op=15) (I:0<=n) (J:n<=9007199254740992):Z7 (iNN op n)=true:=by
 unfold Z7 iNN;simp only;rw[if_pos h];exact decide_eq_true ⟨I,J,trivial⟩
theorem fm_2{n:Int} (I:0<=n) (J:n<=15):Z7 (iNN 2 n)=true:=by
 unfold Z7 iNN;simp only;rw[if_neg (by decide),if_pos trivial];exact decide_eq_true ⟨I,J,trivial⟩
theorem Yk5{a b:Int} (I:0<=a) (J:a<=1099511627776) (R:0<=b) (U:b<=1099511627776):Z7 ⟨12,a,b⟩=true:=by
 unfold Z7;simp only;rw[if_neg (by decide),if_neg (by decide),if_pos trivial];simp only[decide_eq_true_eq];omega
theorem Vy:∀(k:Nat) (x:Ex),x.sz<=k->Zn x=ac->∀o,o+(cdX x o).length<=9007199254740992->∀y∈cdX x o,Z7 y=ac
 |0,x,h,_=>by have:=x.sz_pos;omega
 |k+1,x,h,hf=>by
  intro o R
  have J:=Yed hf
  rcases Wu hf with⟨op,n,a,b,c,e,rfl,q⟩|⟨op,n,a,b,c,e,y,z,rfl,q1,q2,U,f2⟩|⟨n,a,b,c,e,y,z,u,v,rfl,U,f2,f3,f4⟩
  ·rw[Zzj q]
   intro w I
   rw[bZ.1 I]
   have J:0<=n/\n<=Zzz op:=J
   rcases q with rfl|rfl
   ·have:n<=1099511627776:=J.2
    exact fm_n (.inl rfl) J.1 (by omega)
   ·exact fm_2 J.1 J.2
  ·rw[sz_2] at h
   rw[Zzk q1 q2] at R⊢
   simp only[aC,aD,bh] at R
   intro w I
   rcases bS.1 I with I|I
   ·rcases bS.1 I with I|I
    ·exact Vy k y (by omega) U _ (by omega) w I
    ·exact Vy k z (by omega) f2 _ (by omega) w I
   ·rw[bZ.1 I]
    exact Yee q1 (.inl (by omega))
  ·rw[sz_4] at h
   obtain⟨p,hp⟩:∃p,p=o+(cdX y o).length+(cdX z (o+(cdX y o).length)).length+2:=⟨_,rfl⟩
   obtain⟨q,hq⟩:∃q,q=p+(cdX u p).length+1:=⟨_,rfl⟩
   rw[Zzl hp hq] at R⊢
   simp only[aC,aD] at R
   intro w I
   rcases bS.1 I with I|I
   ·rcases bS.1 I with I|I
    ·exact Vy k y (by omega) U _ (by omega) w I
    ·exact Vy k z (by omega) f2 _ (by omega) w I
   ·rcases aL.1 I with rfl|I
    ·exact Yee (by decide) (.inl (by decide))
    ·rcases aL.1 I with rfl|I
     ·exact fm_n (.inr (.inl rfl)) (by omega) (by omega)
     ·rcases bS.1 I with I|I
      ·exact Vy k u (by omega) f3 _ (by omega) w I
      ·rcases aL.1 I with rfl|I
       ·exact fm_n (.inr (.inr (.inl rfl))) (by omega) (by omega)
       ·exact Vy k v (by omega) f4 _ (by omega) w I
theorem Zin{e:Nat} (R:e<=9007199254740992):∀{ws:List Tst},(∀w∈ws,Yr w=ac)->∀y∈cdTs e ws,Z7 y=ac
 | [],_,y,J=>by cases J
 |w::r,h,y,J=>by
  have I:=h w (.head _)
  unfold Yr at I
  have I:=of_decide_eq_true I
  rcases aL.1 J with rfl|J
  ·exact fm_2 (by omega) (by omega)
  ·rcases aL.1 J with rfl|J
   ·exact Yk5 I.2.2.1 I.2.2.2.1 I.2.2.2.2.1 I.2.2.2.2.2
   ·rcases aL.1 J with rfl|J
    ·exact fm_n (.inr (.inl rfl)) (by omega) (by omega)
    ·exact Zin R (λw I=>h w (.tail _ I)) y J
def ClOk(l:List Cls):Prop:=∀c∈l,Zn c.pay=ac/\∀w∈c.when_,Yr w=ac
theorem Zio:∀{l:List Cls} {i o:Nat},ClOk l->o+(cdCs l i o).length<=9007199254740992->i+l.length<=9007199254740992->∀y∈cdCs l i o,Z7 y=ac
 | [],i,o,_,_,_,y,I=>by cases I
 |c::r,i,o,h,J,hi,y,I=>by
  have R:cdCs (c::r) i o=cdC c i o++cdCs r (i+1) (o+(cdC c i o).length):=rfl
  rw[R] at J I
  rw[aC] at J
  rw[aD] at hi
  have U:=Z29 c i o
  rcases bS.1 I with I|I
  ·unfold cdC at I
   simp only at I
   rcases bS.1 I with I|I
   ·rcases bS.1 I with I|I
    ·exact Zin (by omega) (h c (.head _)).2 y I
    ·exact Vy _ _ (aw _) (h c (.head _)).1 _ (by omega) y I
   ·rw[bZ.1 I]
    exact fm_n (.inr (.inr (.inr rfl))) (by omega) (by omega)
  ·exact Zio (λd hd=>h d (.tail _ hd)) (by omega) (by omega) y I
theorem Zvb{c:List Ins} {k:Nat} (I:k<c.length):(deps c).getD k 0=if k=0 then 0 else-1:=by
 unfold deps;rw[Z1,gE];by_cases h:k=0
 ·subst h;rw[if_pos ⟨rfl,I⟩,if_pos rfl]
 ·rw[if_neg (by omega),if_neg h,bu,List.getElem?_replicate,if_pos I];rfl
theorem Z80{t:Tar} (h:ClOk t.clauses) (hn:t.clauses.length<=64):verF (cdT t)=if 4096<(cdT t).length\/64<dCs t.clauses then(0,2) else(dCs t.clauses,0):=by
 have hl:(cdT t).length=(cdCs t.clauses 0 0).length+1:=by unfold cdT;simp
 unfold verF;by_cases J:4096<(cdT t).length
 ·rw[if_pos J,if_pos (.inl J)]
 ·rw[if_neg J]
  have hf:(cdT t).all Z7=true:=by
   rw[fB];intro y I;unfold cdT at I;rcases bS.1 I with I|I
   ·exact Zio h (by omega) (by omega) y I
   ·rw[bZ.1 I]
    exact Yee (by decide) (.inr rfl)
  rw[if_neg (by rw[hf];rintro(h|h)<;>first|omega|cases h)]
  have a0:(deps (cdT t)).length=(cdT t).length:=by unfold deps;simp
  obtain⟨D,e⟩:=Ybp (len:=(cdT t).length) (l:=t.clauses) (i:=0) (o:=0) (D:=deps (cdT t)) (m:=0) (λc U=>(h c U).1) a0 (by omega) (bV _) (by rw[Zvb (by omega),if_pos rfl]) (λk a b=>by rw[Zvb b,if_neg (by omega)];decide);have e:fromF ((cdT t).length:Nat) (cdT t) 0 (deps (cdT t)) 0=ae (D,max 0 (dCs t.clauses)):=e;rw[e];have hp:=Z3a (l:=t.clauses) λc U=>(h c U).1;unfold endF;simp only;rw[show max 0 (dCs t.clauses)=dCs t.clauses by omega];by_cases R:64<dCs t.clauses
  ·rw[if_pos R,if_pos (.inr R)]
  ·rw[if_neg R,if_neg (by omega)]
end
section
open Go
noncomputable def Scx(m:Nat):Sum thy:=sumB E dx dExp (λ(l:List Ins) x=>x.1.sz<m/\Zn x.1=ac/\l.length+(cdX x.1 l.length).length<=1000000000) λ(l:List Ins) x=>l++cdX x.1 l.length
noncomputable def Fcx(m:Nat):Fns thy:=addS F0 (109) (Scx m)
abbrev Zkb(I:Ex):=
 (bU (aJ I) (bW I) (bx I) (bA I) (bB I) (bC I) (bw I))
abbrev Zkc(I:Ex):=
 (bU (aJ I) (bW I) (bx I) (bA I) (bB I) (bC I) (bw I))
abbrev Zoj(I:Ex):=
 (bU (aJ I) (bW I) (bx I) (bA I) (bB I) (bC I) (bw I))
abbrev Zok(I:Ex):=
 (bU (aJ I) (bW I) (bx I) (bA I) (bB I) (bC I) (bw I))
abbrev Z1g(I:List Ins) (l:List Ins) (fz:Nat) (J:Ex) (m:Nat):Prop:=
 aa I=aa I/\fzO (ae (l,fz))<=aa I/\Ex.sz (Zkc J)+(1:Nat)<=m/\Zn (Zkc J)=ac/\aa I+aa (cdX
 (Zkc J) (aa I))<=(1000000000:Nat)
abbrev Z1h(l:List Ins) (fz:Nat) (I:Ex) (m:Nat):Prop:=
 aa l=aa l/\fz<=aa l/\Ex.sz (Zkb I)+(1:Nat)<=m/\Zn (Zkb I)=ac/\aa l+aa (cdX (Zkb I) (aa
 l))<=(1000000000:Nat)
abbrev qDC8:=(1:Nat)
abbrev qDC1(I:List Ins):=(aa I+qDC8)
abbrev qDC2(I:List Ins):=(aa I)
abbrev qDC3:=(0:Int)
abbrev qDC4(I:Ex):=(↑(aa (bw I)):Int)
abbrev qDC5(I:List Ins) (J:List Ins) (R:Nat):=(ae (I,fzO (ae (J,R))))
abbrev qDC6:=(140737488355328:Nat)
abbrev qDC7:=(1:Int)
theorem Z7u(m:Nat) (l:List Ins) (fz:Nat) (x:Ex) (l':List Ins):Zk E F0 (vc E (Fcx m) 400) 109 [.ptr 0 0,exA x] (hpP E dx (ae (l,fz))) 2 (prnK E dx (ae (l,fz)) l')=(
 ((aJ x==qDC7)=ac->(aa l<=aa l/\fz<=aa l/\(qDC1 l)*(24:Nat)<=qDC6)/\∀(J:List Ins),J=av (qDC2 l) l++ [dq qDC7 (bW x) qDC3]->J=l'/\aa l+qDC8=aa l'/\fz=fzO (ae (l,fz)))/\((aJ x==qDC7)=ab->((aJ x==(2:Int))=ac->(aa l<=aa l/\fz<=aa l/\(qDC1 l)*(24:Nat)<=qDC6)/\∀(J:List Ins),J=av (qDC2 l) l++ [dq (2:Int) (bW x) qDC3]->J=l'/\aa l+qDC8=aa l'/\fz=fzO (ae (l,fz)))/\((aJ x==(2:Int))=ab->((aJ x==(11:Int))=ac->qDC3<=qDC3/\qDC3+qDC7<=(qDC4 x)/\∀(a2:Ex),(bw x)[ag qDC3]? =ae a2->(Z1h l fz a2 m)/\∀(J:List Ins),J=l++cdX (Zkb a2) (qDC2 l)->qDC3<=qDC7/\qDC7+qDC7<=(qDC4 x)/\∀(a3:Ex),(bw x)[ag qDC7]? =ae a3->(Z1g J l fz a3 m)/\∀(I:List Ins),I=J++cdX (Zkc a3) (qDC2 J)->(aa I<=aa I/\fzO (qDC5 J l fz)<=aa I/\(qDC1 I)*(24:Nat)<=qDC6)/\∀(a4:List Ins),a4=av (qDC2 I) I++ [dq (11:Int) qDC3 qDC3]->(aa I+qDC8<=aa a4/\fzO (qDC5 J l fz)<=aa I+qDC8/\(aa I+qDC8+qDC8)*(24:Nat)<=qDC6)/\∀(U:List Ins),U=av (qDC1 I) a4++ [dq (13:Int) qDC3 qDC3]->qDC3<=(2:Int)/\(2:Int)+qDC7<=(qDC4 x)/\∀(a5:Ex),(bw x)[ag (2:Int)]? =ae a5->(aa I+qDC8+qDC8=aa U/\fzO (qDC5 J l fz)<=aa U/\Ex.sz (Zoj a5)+qDC8<=m/\Zn (Zoj a5)=ac/\aa U+aa (cdX (Zoj a5) (qDC2 U))<=(1000000000:Nat))/\∀(R:List Ins),R=U++cdX (Zoj a5) (qDC2 U)->(aa R<=aa R/\fzO (ae (U,fzO (qDC5 J l fz)))<=aa R/\(qDC1 R)*(24:Nat)<=qDC6)/\∀(a7:List Ins),a7=av (qDC2 R) R++ [dq (14:Int) qDC3 qDC3]->(qDC3<=(↑(qDC1 I):Int)/\(↑(qDC1 I):Int)+qDC7<=(↑(qDC1 R):Int))/\fzO (ae (U,fzO (qDC5 J l fz)))<=(0:Nat)+ag (↑(qDC1 I):Int)/\(0:Nat)+ag (↑(qDC1 I):Int)+qDC8<=aa a7/\∀(a8:Ins),a7[(0:Nat)+ag (↑(qDC1 I):Int)]? =ae a8->∀(a0:List Ins),a0=dp a7 ((0:Nat)+ag (↑(qDC1 I):Int)) (dq (dH a8) (↑(qDC1 R):Int) (kP a8))->qDC3<=(3:Int)/\(3:Int)+qDC7<=(qDC4 x)/\∀(a6:Ex),(bw x)[ag (3:Int)]? =ae a6->(aa R+qDC8=aa a0/\fzO (ae (U,fzO (qDC5 J l fz)))<=aa a0/\Ex.sz (Zok a6)+qDC8<=m/\Zn (Zok a6)=ac/\aa a0+aa (cdX (Zok a6) (qDC2 a0))<=(1000000000:Nat))/\∀(a1:List Ins),a1=a0++cdX (Zok a6) (qDC2 a0)->(qDC3<=(↑(qDC2 R):Int)/\(↑(qDC2 R):Int)+qDC7<=(↑(qDC2 a1):Int))/\fzO (ae (a0,fzO (ae (U,fzO (qDC5 J l fz)))))<=(0:Nat)+ag (↑(qDC2 R):Int)/\(0:Nat)+ag (↑(qDC2 R):Int)+qDC8<=aa a1/\∀(x:Ins),a1[(0:Nat)+ag (↑(qDC2 R):Int)]? =ae x->∀(a9:List Ins),a9=dp a1 ((0:Nat)+ag (↑(qDC2 R):Int)) (dq (dH x) (↑(qDC2 a1):Int) (kP x))->a9=l'/\aa a1=aa l'/\fzO (ae (a0,fzO (ae (U,fzO (qDC5 J l fz)))))=fzO (ae (l,fz)))/\((aJ x==(11:Int))=ab->qDC3<=qDC3/\qDC3+qDC7<=(qDC4 x)/\∀(a2:Ex),(bw x)[ag qDC3]? =ae a2->(Z1h l fz a2 m)/\∀(J:List Ins),J=l++cdX (Zkb a2) (qDC2 l)->qDC3<=qDC7/\qDC7+qDC7<=(qDC4 x)/\∀(a3:Ex),(bw x)[ag qDC7]? =ae a3->(Z1g J l fz a3 m)/\∀(I:List Ins),I=J++cdX (Zkc a3) (qDC2 J)->
(aa I<=aa I/\fzO (qDC5 J l fz)<=aa I/\(qDC1 I)*(24:Nat)<=qDC6)/\∀(a4:List Ins),a4=av (qDC2 I) I++ [dq (wr af (wr af ((3:Int)+aJ x)-(3:Int))) qDC3 qDC3]->a4=l'/\aa I+qDC8=aa l'/\fzO (qDC5 J l fz)=fzO (ae (l,fz)))))):=by kernel_rfl
abbrev Zkd(I:Ex):=
 (bU (aJ I) (bW I) (bx I) (bA I) (bB I) (bC I) (bw I))
abbrev Zke(I:Ex):=
 (bU (aJ I) (bW I) (bx I) (bA I) (bB I) (bC I) (bw I))
abbrev Zol(I:Ex):=
 (bU (aJ I) (bW I) (bx I) (bA I) (bB I) (bC I) (bw I))
abbrev Zom(I:Ex):=
 (bU (aJ I) (bW I) (bx I) (bA I) (bB I) (bC I) (bw I))
abbrev Z1i(I:List Ins) (J:Ex) (m:Nat):Prop:=
 aa I=aa I/\fzO (au:Option (List Ins×Nat))<=aa I/\Ex.sz (Zke J)+(1:Nat)<=m/\Zn (Zke J)=ac/\aa I
 +aa (cdX (Zke J) (aa I))<=(1000000000:Nat)
abbrev Z1j(I:List Ins) (J:List Ins):Prop:=
 aa I<=aa I/\fzO (ae (J,fzO (au:Option (List Ins×Nat))))<=aa I/\(aa I+(1:Nat))*(24:Nat)<=(140737488355328
 :Nat)
abbrev Z1k(I:Ex) (m:Nat):Prop:=
 Ex.sz (Zkd I)+(1:Nat)<=m/\Zn (Zkd I)=ac/\(0:Nat)+aa (cdX (Zkd I) (0:Nat))<=(1000000000:Nat)
abbrev qDC9:=(au:Option (List Ins×Nat))
abbrev qDCf:=(1:Nat)
abbrev qDCa(I:List Ins):=(↑(aa I+qDCf):Int)
abbrev qDCb:=(0:Int)
abbrev qDCc(I:Ex):=(↑(aa (bw I)):Int)
abbrev qDCd(I:List Ins):=(aa I)
abbrev qDCe:=(1:Int)
abbrev qDCg(I:List Ins):=(ae (I,fzO qDC9))
abbrev qDCh:=(0:Nat)
theorem Z7v(m:Nat) (x:Ex) (l':List Ins):Zk E F0 (vc E (Fcx m) 400) 109 [.ptr 0 0,exA x] (hpP E dx au) 2 (prnK E dx au l')=(
 ((aJ x==qDCe)=ac-> [dq qDCe (bW x) qDCb]=l'/\qDCf=aa l'/\qDCh=fzO qDC9)/\((aJ x==qDCe)=ab->((aJ x==(2:Int))=ac-> [dq (2:Int) (bW x) qDCb]=l'/\qDCf=aa l'/\qDCh=fzO qDC9)/\((aJ x==(2:Int))=ab->((aJ x==(11:Int))=ac->qDCb<=qDCb/\qDCb+qDCe<=(qDCc x)/\∀(a2:Ex),(bw x)[ag qDCb]? =ae a2->(Z1k a2 m)/\∀(J:List Ins),J= []++cdX (Zkd a2) qDCh->qDCb<=qDCe/\qDCe+qDCe<=(qDCc x)/\∀(a3:Ex),(bw x)[ag qDCe]? =ae a3->(Z1i J a3 m)/\∀(I:List Ins),I=J++cdX (Zke a3) (qDCd J)->(Z1j I J)/\∀(a4:List Ins),a4=av (qDCd I) I++ [dq (11:Int) qDCb qDCb]->(aa I+qDCf<=aa a4/\fzO (qDCg J)<=aa I+qDCf/\(aa I+qDCf+qDCf)*(24:Nat)<=(140737488355328:Nat))/\∀(U:List Ins),U=av (aa I+qDCf) a4++ [dq (13:Int) qDCb qDCb]->qDCb<=(2:Int)/\(2:Int)+qDCe<=(qDCc x)/\∀(a5:Ex),(bw x)[ag (2:Int)]? =ae a5->(aa I+qDCf+qDCf=aa U/\fzO (qDCg J)<=aa U/\Ex.sz (Zol a5)+qDCf<=m/\Zn (Zol a5)=ac/\aa U+aa (cdX (Zol a5) (qDCd U))<=(1000000000:Nat))/\∀(R:List Ins),R=U++cdX (Zol a5) (qDCd U)->(aa R<=aa R/\fzO (ae (U,fzO (qDCg J)))<=aa R/\(aa R+qDCf)*(24:Nat)<=(140737488355328:Nat))/\∀(a7:List Ins),a7=av (qDCd R) R++ [dq (14:Int) qDCb qDCb]->(qDCb<=(qDCa I)/\(qDCa I)+qDCe<=(qDCa R))/\fzO (ae (U,fzO (qDCg J)))<=qDCh+ag (qDCa I)/\qDCh+ag (qDCa I)+qDCf<=aa a7/\∀(a8:Ins),a7[qDCh+ag (qDCa I)]? =ae a8->∀(a0:List Ins),a0=dp a7 (qDCh+ag (qDCa I)) (dq (dH a8) (qDCa R) (kP a8))->qDCb<=(3:Int)/\(3:Int)+qDCe<=(qDCc x)/\∀(a6:Ex),(bw x)[ag (3:Int)]? =ae a6->(aa R+qDCf=aa a0/\fzO (ae (U,fzO (qDCg J)))<=aa a0/\Ex.sz (Zom a6)+qDCf<=m/\Zn (Zom a6)=ac/\aa a0+aa (cdX (Zom a6) (qDCd a0))<=(1000000000:Nat))/\∀(a1:List Ins),a1=a0++cdX (Zom a6) (qDCd a0)->(qDCb<=(↑(qDCd R):Int)/\(↑(qDCd R):Int)+qDCe<=(↑(qDCd a1):Int))/\fzO (ae (a0,fzO (ae (U,fzO (qDCg J)))))<=qDCh+ag (↑(qDCd R):Int)/\qDCh+ag (↑(qDCd R):Int)+qDCf<=aa a1/\∀(x:Ins),a1[qDCh+ag (↑(qDCd R):Int)]? =ae x->∀(a9:List Ins),a9=dp a1 (qDCh+ag (↑(qDCd R):Int)) (dq (dH x) (↑(qDCd a1):Int) (kP x))->a9=l'/\aa a1=aa l'/\fzO (ae (a0,fzO (ae (U,fzO (qDCg J)))))=fzO qDC9)/\((aJ x==(11:Int))=ab->qDCb<=qDCb/\qDCb+qDCe<=(qDCc x)/\∀(a2:Ex),(bw x)[ag qDCb]? =ae a2->(Z1k a2 m)/\∀(J:List Ins),J= []++cdX (Zkd a2) qDCh->qDCb<=qDCe/\qDCe+qDCe<=(qDCc x)/\∀(a3:Ex),(bw x)[ag qDCe]? =ae a3->(Z1i J a3 m)/\∀(I:List Ins),I=J++cdX (Zke a3) (qDCd J)->(Z1j I J)/\∀(a4:List Ins),a4=av (qDCd I) I++ [dq (wr af (wr af ((3:Int)+aJ x)-(3:Int))) qDCb qDCb]->a4=l'/\aa I+qDCf=aa l'/\fzO (qDCg J)=fzO qDC9)))):=by kernel_rfl
theorem Zkf(op n a b c d:Int) (l:List Ex):aJ (.mk op n a b c d l)=op:=rfl
theorem Yhp(op n a b c d:Int) (l:List Ex):bW (.mk op n a b c d l)=n:=rfl
theorem Z7w(op n a b c d:Int) (l:List Ex):bw (.mk op n a b c d l)=l:=rfl
theorem Zrt{α:Type} {A r:List α} {a x:α} {k:Nat} (I:k=A.length) (h:(A++a::r)[k]? =ae x):x=a:=by
 subst I
 simpa using h.symm
theorem Zru{α:Type} {A r:List α} {a b:α} {k:Nat} (I:k=A.length):(A++a::r).set k b=A++b::r:=by
 subst I;simp
theorem Yhq{n a b c d:Int} {x y z w:Ex} {l l1 U l3 I J l6 R l8 l9:List Ins} {i4 i8:Ins} (e1:l1=l++cdX x l.length) (e2:U=l1++cdX y l1.length) (e3:l3=U.take U.length++ [iOp 11])
 (e4:I=l3.take (U.length+1)++ [iOp 13]) (e5:J=I++cdX z I.length) (e6:l6=J.take J.length++ [iOp 14]) (g4:l6[U.length+1]? =ae i4) (e7:R=l6.set (U.length+1) (dq i4.op (↑(J.length+1):Int) i4.m))
 (e8:l8=R++cdX w R.length) (g8:l8[J.length]? =ae i8) (e9:l9=l8.set J.length (dq i8.op (↑l8.length:Int) i8.m)):
 l9=l++cdX (.mk 11 n a b c d [x,y,z,w]) l.length/\l8.length=(l++cdX (.mk 11 n a b c d [x,y,z,w]) l.length).length:=by
 have n1:l1.length=l.length+(cdX x l.length).length:=by rw[e1,aC]
 have n2:U.length=l1.length+(cdX y l1.length).length:=by rw[e2,aC]
 have e3:l3=U++ [iOp 11]:=by rw[e3,aW]
 have n3:l3.length=U.length+1:=by rw[e3];simp
 have e4:I=l3++ [iOp 13]:=by rw[e4,<-n3,aW]
 have n4:I.length=U.length+2:=by rw[e4];simp[n3]
 have n5:J.length=I.length+(cdX z I.length).length:=by rw[e5,aC]
 have e6:l6=l3++iOp 13::(cdX z I.length++ [iOp 14]):=by rw[e6,aW,e5,e4];simp
 have h4:i4=iOp 13:=Zrt n3.symm (e6▸g4)
 subst h4
 have e7:R=l3++iNN 13 (↑(J.length+1):Int)::(cdX z I.length++ [iOp 14]):=by rw[e7,e6,Zru n3.symm];rfl
 have n7:R.length=J.length+1:=by rw[e7];simp;omega
 have a1:R=(l3++iNN 13 (↑(J.length+1):Int)::cdX z I.length)++ [iOp 14]:=by rw[e7];simp
 have nB:J.length=(l3++iNN 13 (↑(J.length+1):Int)::cdX z I.length).length:=by simp;omega
 generalize hB:l3++iNN 13 (↑(J.length+1):Int)::cdX z I.length=B at a1 nB
 have a0:l8=B++iOp 14::cdX w R.length:=by rw[e8];conv=>{lhs;lhs;rw[a1]};simp
 have h8:i8=iOp 14:=Zrt nB (a0▸g8)
 subst h8
 have n8:l8.length=R.length+(cdX w R.length).length:=by rw[e8,aC]
 have e9:l9=B++iNN 14 (↑l8.length:Int)::cdX w R.length:=by
  have hs:=Zru (b:=iNN 14 (↑l8.length:Int)) (r:=cdX w R.length) (a:=iOp 14) nB
  rw[<-a0] at hs
  exact e9.trans hs
 have n9:l9.length=l8.length:=by rw[e9,a0];simp
 have a2:l9=l++cdX (.mk 11 n a b c d [x,y,z,w]) l.length:=by
  have a3:U=l++(cdX x l.length++cdX y l1.length):=by
   have:l1++cdX y l1.length=l++(cdX x l.length++cdX y l1.length):=by
    conv=>{lhs;lhs;rw[e1]}
    rw[bE]
   exact e2.trans this
  rw[Zzl (p:=I.length) (q:=R.length) (by rw[n4,n2,n1]) (by rw[n7,n5]),<-n1,e9,<-hB,e3,a3,<-n8,<-n7]
  simp[bE]
 exact⟨a2,by rw[<-a2,n9]⟩
theorem Ybd{n a b c d:Int} {x y z w:Ex} {o p q:Nat} (I:p=o+(cdX x o).length+(cdX y (o+(cdX x o).length)).length+2) (J:q=p+(cdX z p).length+1):
 o+(cdX (.mk 11 n a b c d [x,y,z,w]) o).length=q+(cdX w q).length:=by
 rw[Zzl I J]
 simp
 omega
def CxOk(m:Nat):Prop:=∀x:Ex×Unit,Yc0 E 109 dx (dExp.enc x) (λ(l:List Ins)=>l++cdX x.1 l.length) (λ(l:List Ins)=>x.1.sz<m/\Zn x.1=ac/\l.length+(cdX x.1 l.length).length<=1000000000)
theorem Ybe{m:Nat} (h:CxOk m):SumOk E 109 (Scx m):=Zez E_ok (Zc rfl) h
theorem Ybf{m:Nat} (h:CxOk m):FnsOk E (Fcx m):=Zb F0_ok (Ybe h)
theorem bf{a b:Int} (h:a≠b):(a==b)=false:=by simp[h]
theorem Yhr{m:Nat} {l:List Ins} {fz:Nat} {x:Ex} (hf:fz<=l.length) (hs:x.sz<m+1) (hx:Zn x=ac) (I:l.length+(cdX x l.length).length<=1000000000):
 Zk E F0 (vc E (Fcx m) 400) 109 [.ptr 0 0,exA x] (hpP E dx (ae (l,fz))) 2 (prnK E dx (ae (l,fz)) (l++cdX x l.length)):=by
 rw[Z7u];delta qDC8 qDC1 qDC2 qDC3 qDC4 qDC5 qDC6 qDC7
 unfold Z1h Z1g Zok Zoj Zkc Zkb
 simp only[Ex.eta]
 rcases Wu hx with⟨op,n,a,b,c,d,rfl,ho⟩|⟨op,n,a,b,c,d,y,z,rfl,h3,a3,fy,a0⟩|⟨n,a,b,c,d,y,z,u,v,rfl,fy,a0,fu,fv⟩
 ·rw[Zzj ho] at I⊢
  simp only[Zkf,Yhp,aW,fzO]
  have I:l.length+1<=1000000000:=I
  have key:∀k:Int,op=k->(l.length<=l.length/\fz<=l.length/\(l.length+1)*24<=140737488355328)/\∀a2:List Ins,a2=l++ [dq k n 0]->a2=l++ [iNN op n]/\l.length+1=(l++ [iNN op n]).length/\True:=by
   rintro k rfl
   refine⟨⟨aw _,hf,by omega⟩,?_⟩
   rintro J rfl
   exact⟨rfl,by simp,trivial⟩
  rcases ho with rfl|rfl
  ·exact⟨λ_=>key 1 rfl,λq=>by simp at q⟩
  ·exact⟨λq=>by simp at q,λ_=>⟨λ_=>key 2 rfl,λq=>by simp at q⟩⟩
 ·rw[sz_2] at hs
  rw[Zzk h3 a3] at I⊢
  simp only[Zkf,Z7w]
  refine⟨λq=>absurd q (by rw[bf (by omega)];simp),λ_=>⟨λq=>absurd q (by rw[bf (by omega)];simp),λ_=>⟨λq=>absurd q (by rw[bf (by omega)];simp),λ_=> ?_⟩⟩⟩
  simp only[aC,aD,bh] at I
  refine⟨by decide,by simp,λx1 g1=> ?_⟩
  obtain rfl:y=x1:=by simpa using g1
  refine⟨⟨trivial,hf,by omega,fy,by omega⟩,λJ e1=>⟨by decide,by simp,λx2 g2=> ?_⟩⟩
  obtain rfl:z=x2:=by simpa using g2
  have n1:J.length=l.length+(cdX y l.length).length:=by rw[e1,aC]
  rw[<-n1] at I⊢
  have w1:fz<=J.length:=by omega
  refine⟨⟨trivial,w1,by omega,a0,by omega⟩,λR e2=> ?_⟩
  have n2:R.length=J.length+(cdX z J.length).length:=by rw[e2,aC]
  have w2:fz<=R.length:=by omega
  refine⟨⟨aw _,w2,by omega⟩,λl3 U=> ?_⟩
  have wo:wr .i64 (wr .i64 (3+op)-3)=op:=by rw[wr64 (n:=3+op) (by omega) (by omega),wr64 (by omega) (by omega)];omega
  rw[wo,aW] at U
  have a1:l3=l++(cdX y l.length++cdX z J.length++ [iOp op]):=by rw[U,e2];conv=>{lhs;lhs;lhs;rw[e1]};simp[iOp]
  exact⟨a1,by rw[<-a1,U];simp,rfl⟩
 ·rw[sz_4] at hs
  simp only[Zkf,Z7w]
  refine⟨λq=>absurd q (by decide),λ_=>⟨λq=>absurd q (by decide),λ_=>⟨λ_=> ?_,λq=>absurd q (by decide)⟩⟩⟩
  rw[Ybd rfl rfl] at I
  refine⟨by decide,by simp,λx1 g1=> ?_⟩
  obtain rfl:y=x1:=by simpa using g1
  have hb:l.length+(cdX y l.length).length<=1000000000:=by omega
  refine⟨⟨trivial,hf,by omega,fy,hb⟩,λJ e1=>⟨by decide,by simp,λx2 g2=> ?_⟩⟩
  obtain rfl:z=x2:=by simpa using g2
  have n1:J.length=l.length+(cdX y l.length).length:=by rw[e1,aC]
  rw[<-n1] at I
  have w1:fz<=J.length:=by omega
  refine⟨⟨trivial,w1,by omega,a0,by omega⟩,λR e2=> ?_⟩
  have n2:R.length=J.length+(cdX z J.length).length:=by rw[e2,aC]
  rw[<-n2] at I
  have w2:fz<=R.length:=by omega
  refine⟨⟨aw _,w2,by omega⟩,λl3 U=> ?_⟩
  have n3:l3.length=R.length+1:=by rw[U];simp
  refine⟨⟨by omega,jP w2,by omega⟩,λl4 e4=>⟨by decide,by simp,λx3 g3=> ?_⟩⟩
  obtain rfl:u=x3:=by simpa using g3
  have n4:l4.length=R.length+2:=by rw[e4];simp;omega
  rw[<-n4] at I
  have w4:fz<=l4.length:=by omega
  refine⟨⟨n4.symm,w4,by omega,fu,by omega⟩,λl5 e5=> ?_⟩
  have n5:l5.length=l4.length+(cdX u l4.length).length:=by rw[e5,aC]
  rw[<-n5] at I
  have w5:fz<=l5.length:=by omega
  refine⟨⟨aw _,w5,by omega⟩,λl6 e6=>⟨⟨by omega,by omega⟩,?_⟩⟩
  have n6:l6.length=l5.length+1:=by rw[e6];simp
  have t1:(0:Nat)+ag (↑(R.length+1):Int)=R.length+1:=by omega
  have t2:(0:Nat)+ag (↑l5.length:Int)=l5.length:=by omega
  simp only[t1,t2]
  refine⟨(by omega:fz<=R.length+1),by omega,λi4 g4 l7 e7=>⟨by decide,by simp,λx4 gx=> ?_⟩⟩
  obtain rfl:v=x4:=by simpa using gx
  have n7:l7.length=l5.length+1:=by rw[e7,cD,n6]
  rw[<-n7] at I
  have w7:fz<=l7.length:=by omega
  refine⟨⟨n7.symm,w7,by omega,fv,by omega⟩,λl8 e8=> ?_⟩
  have n8:l8.length=l7.length+(cdX v l7.length).length:=by rw[e8,aC]
  refine⟨⟨by omega,by omega⟩,w5,by omega,λi8 g8 l9 e9=> ?_⟩
  obtain⟨r1,r2⟩:=Yhq (n:=n) (a:=a) (b:=b) (c:=c) (d:=d) e1 e2 U e4 e5 e6 g4 e7 e8 g8 e9
  exact⟨r1,r2,rfl⟩
theorem Yhs{m:Nat} {x:Ex} (hs:x.sz<m+1) (hx:Zn x=ac) (I:([]:List Ins).length+(cdX x ([]:List Ins).length).length<=1000000000):
 Zk E F0 (vc E (Fcx m) 400) 109 [.ptr 0 0,exA x] (hpP E dx au) 2 (prnK E dx au (([]:List Ins)++cdX x ([]:List Ins).length)):=by
 rw[Z7v];delta qDC9 qDCf qDCa qDCb qDCc qDCd qDCe qDCg qDCh
 unfold Z1k Z1j Z1i Zom Zol Zke Zkd
 simp only[Ex.eta]
 rcases Wu hx with⟨op,n,a,b,c,d,rfl,ho⟩|⟨op,n,a,b,c,d,y,z,rfl,h3,a2,fy,a0⟩|⟨n,a,b,c,d,y,z,u,v,rfl,fy,a0,fu,fv⟩
 ·rw[Zzj ho] at I⊢
  simp only[Zkf,Yhp]
  rcases ho with rfl|rfl
  ·exact⟨λ_=>⟨rfl,rfl,rfl⟩,λq=>by simp at q⟩
  ·exact⟨λq=>by simp at q,λ_=>⟨λ_=>⟨rfl,rfl,rfl⟩,λq=>by simp at q⟩⟩
 ·rw[sz_2] at hs
  rw[Zzk h3 a2] at I⊢
  simp only[Zkf,Z7w]
  refine⟨λq=>absurd q (by rw[bf (by omega)];simp),λ_=>⟨λq=>absurd q (by rw[bf (by omega)];simp),λ_=>⟨λq=>absurd q (by rw[bf (by omega)];simp),λ_=> ?_⟩⟩⟩
  simp only[aC,aD,bh] at I
  refine⟨by decide,by simp,λx1 g1=> ?_⟩
  obtain rfl:y=x1:=by simpa using g1
  refine⟨⟨by omega,fy,by omega⟩,λJ e1=>⟨by decide,by simp,λx2 g2=> ?_⟩⟩
  obtain rfl:z=x2:=by simpa using g2
  have n1:J.length=([]:List Ins).length+(cdX y ([]:List Ins).length).length:=by rw[e1,aC];rfl
  rw[<-bh (α:=Ins),<-n1] at I
  rw[<-n1]
  have w1:0<=J.length:=by omega
  refine⟨⟨trivial,w1,by omega,a0,by omega⟩,λR e2=> ?_⟩
  have n2:R.length=J.length+(cdX z J.length).length:=by rw[e2,aC]
  have w2:0<=R.length:=by omega
  refine⟨⟨aw _,w2,by omega⟩,λl3 U=> ?_⟩
  have wo:wr .i64 (wr .i64 (3+op)-3)=op:=by rw[wr64 (n:=3+op) (by omega) (by omega),wr64 (by omega) (by omega)];omega
  rw[wo,aW] at U
  have a1:l3=([]:List Ins)++(cdX y ([]:List Ins).length++cdX z J.length++ [iOp op]):=by rw[U,e2];conv=>{lhs;lhs;lhs;rw[e1]};simp[iOp]
  exact⟨a1,by rw[<-a1,U];simp,rfl⟩
 ·rw[sz_4] at hs
  simp only[Zkf,Z7w]
  refine⟨λq=>absurd q (by decide),λ_=>⟨λq=>absurd q (by decide),λ_=>⟨λ_=> ?_,λq=>absurd q (by decide)⟩⟩⟩
  rw[Ybd rfl rfl] at I
  refine⟨by decide,by simp,λx1 g1=> ?_⟩
  obtain rfl:y=x1:=by simpa using g1
  have hb:([]:List Ins).length+(cdX y ([]:List Ins).length).length<=1000000000:=by omega
  refine⟨⟨by omega,fy,hb⟩,λJ e1=>⟨by decide,by simp,λx2 g2=> ?_⟩⟩
  obtain rfl:z=x2:=by simpa using g2
  have n1:J.length=([]:List Ins).length+(cdX y ([]:List Ins).length).length:=by rw[e1,aC];rfl
  rw[<-n1] at I
  have w1:0<=J.length:=by omega
  refine⟨⟨trivial,w1,by omega,a0,by omega⟩,λR e2=> ?_⟩
  have n2:R.length=J.length+(cdX z J.length).length:=by rw[e2,aC]
  rw[<-n2] at I
  have w2:0<=R.length:=by omega
  refine⟨⟨aw _,w2,by omega⟩,λl3 U=> ?_⟩
  have n3:l3.length=R.length+1:=by rw[U];simp
  refine⟨⟨by omega,jP w2,by omega⟩,λl4 e4=>⟨by decide,by simp,λx3 g3=> ?_⟩⟩
  obtain rfl:u=x3:=by simpa using g3
  have n4:l4.length=R.length+2:=by rw[e4];simp;omega
  rw[<-n4] at I
  have w4:0<=l4.length:=by omega
  refine⟨⟨n4.symm,w4,by omega,fu,by omega⟩,λl5 e5=> ?_⟩
  have n5:l5.length=l4.length+(cdX u l4.length).length:=by rw[e5,aC]
  rw[<-n5] at I
  have w5:0<=l5.length:=by omega
  refine⟨⟨aw _,w5,by omega⟩,λl6 e6=>⟨⟨by omega,by omega⟩,?_⟩⟩
  have n6:l6.length=l5.length+1:=by rw[e6];simp
  have t1:(0:Nat)+ag (↑(R.length+1):Int)=R.length+1:=by omega
  have t2:(0:Nat)+ag (↑l5.length:Int)=l5.length:=by omega
  simp only[t1,t2]
  refine⟨(by omega:0<=R.length+1),by omega,λi4 g4 l7 e7=>⟨by decide,by simp,λx4 gx=> ?_⟩⟩
  obtain rfl:v=x4:=by simpa using gx
  have n7:l7.length=l5.length+1:=by rw[e7,cD,n6]
  rw[<-n7] at I
  have w7:0<=l7.length:=by omega
  refine⟨⟨n7.symm,w7,by omega,fv,by omega⟩,λl8 e8=> ?_⟩
  have n8:l8.length=l7.length+(cdX v l7.length).length:=by rw[e8,aC]
  refine⟨⟨by omega,by omega⟩,w5,by omega,λi8 g8 l9 e9=> ?_⟩
  obtain⟨r1,r2⟩:=Yhq (l:= []) (n:=n) (a:=a) (b:=b) (c:=c) (d:=d) e1 e2 U e4 e5 e6 g4 e7 e8 g8 e9
  exact⟨r1,r2,rfl⟩
theorem Zrv:∀m,CxOk m
 |0=>λx=>⟨λl fz J I=>absurd I.1 (by omega),λI=>absurd I.1 (by omega)⟩
 |m+1=>λx=>⟨λl fz J I=>Xv E_ok (Xk E_ok F0_ok λf N c=>(Zf4 E_ok (Ybf (Zrv m)) 400 f N c).1) rfl (Yhr J I.1 I.2.1 I.2.2),
  λI=>Xv E_ok (Xk E_ok F0_ok λf N c=>(Zf4 E_ok (Ybf (Zrv m)) 400 f N c).1) rfl (Yhs I.1 I.2.1 I.2.2)⟩
end
section
open Go
def clB(c:Cls):SV thy:= .agg (encF ab .clauses c)
noncomputable def FclC:Fns thy:={addS F0 (109) (Scx 1000000000) with dfl:=20}
def Z9u(I:List Ins) (n F F1:Nat):List Nat->List Ins->Prop
 | [],L=>L=I/\n=I.length/\F=F1
 |p::r,L=>((0:Int)<=(↑p:Int)/\(↑p:Int)+1<=(↑n:Int))/\F<=0+ag (↑p:Int)/\0+ag (↑p:Int)+1<=L.length/\∀x:Ins,L[0+ag (↑p:Int)]? =ae x->∀J:List Ins,J=L.set (0+ag (↑p:Int)) (dq x.op (↑n:Int) x.m)->Z9u I n F F1 r J
def clX(c:Cls):Ex:=bU (aJ c.pay) (bW c.pay) (bx c.pay) (bA c.pay) (bB c.pay) (bC c.pay) (bw c.pay)
def Ye4(c:Cls) (k:Int) (R:List Ins) (F F1:Nat) (U:List Nat) (I:List Ins):Prop:=
 (I.length<=I.length/\F<=I.length/\(I.length+1)*24<=140737488355328)/\∀J:List Ins,J=I.take I.length++ [dq 15 k 0]->Z9u R (I.length+1) F F1 U J
def Z32(c:Cls) (k:Int) (J:List Ins) (fz F1:Nat) (R:List Nat) (L:List Ins) (n:Nat):Prop:=
 (n=L.length/\fz<=L.length/\(clX c).sz+1<=1000000000/\Zn (clX c)=ac/\L.length+(cdX (clX c) L.length).length<=1000000000)/\∀I:List Ins,I=L++cdX (clX c) L.length->Ye4 c k J (fzO (ae (L,fz))) F1 R I
def Ye5(x:Tst) (fz:Nat) (J:List Ins) (n:Nat) (K:List Ins->Prop):Prop:=
 (n<=J.length/\fz<=n/\(n+1)*24<=140737488355328)/\∀I:List Ins,I=J.take n++ [dq 12 x.low x.high]->(n+1<=I.length/\fz<=n+1/\(n+1+1)*24<=140737488355328)/\∀R:List Ins,R=I.take (n+1)++ [dq 13 0 0]->K R
def Z9v(c:Cls) (k:Int) (R:List Ins) (fz F1:Nat):Nat->Nat->List Nat->List Ins->Nat->Prop
 |0,j,J,L,n=>(decide ((↑j:Int)<(↑c.when_.length:Int))=ac->(0:Int)<=(↑j:Int)/\(↑j:Int)+1<=(↑c.when_.length:Int)/\∀x:Tst,c.when_[ag (↑j:Int)]? =ae x->(n<=L.length/\fz<=n/\(n+1)*24<=140737488355328)/\∀I:List Ins,I=L.take n++ [dq 2 x.attr 0]->False)/\(decide ((↑j:Int)<(↑c.when_.length:Int))=ab->Z32 c k R fz F1 J L n)
 |f+1,j,J,L,n=>(decide ((↑j:Int)<(↑c.when_.length:Int))=ac->(0:Int)<=(↑j:Int)/\(↑j:Int)+1<=(↑c.when_.length:Int)/\∀x:Tst,c.when_[ag (↑j:Int)]? =ae x->(n<=L.length/\fz<=n/\(n+1)*24<=140737488355328)/\∀I:List Ins,I=L.take n++ [dq 2 x.attr 0]->
  Ye5 x fz I (n+1) λU=>Z9v c k R fz F1 f (j+1) ((n+1+1)::J) U (n+1+1+1))/\(decide ((↑j:Int)<(↑c.when_.length:Int))=ab->Z32 c k R fz F1 J L n)
theorem Z9w(l:List Ins) (fz:Nat) (c:Cls) (k:Int) (I:List Ins):Zk E FclC (vc E FclC 400) 60 [.ptr 0 0,clB c,.int ab .i64 k] (hpP E dx (ae (l,fz))) 2 (prnK E dx (ae (l,fz)) I)=
 Z9v c k I fz (fzO (ae (l,fz))) 8 0 [] l l.length:=by kernel_rfl
theorem Z9x(c:Cls) (k:Int) (I:List Ins):Zk E FclC (vc E FclC 400) 60 [.ptr 0 0,clB c,.int ab .i64 k] (hpP E dx au) 2 (prnK E dx au I)=
 ((decide ((0:Int)<(↑c.when_.length:Int))=ac->(0:Int)<=0/\(0:Int)+1<=(↑c.when_.length:Int)/\∀x:Tst,c.when_[ag 0]? =ae x->Ye5 x 0 [dq 2 x.attr 0] 1 λR=>Z9v c k I 0 (fzO (au:Option (List Ins×Nat))) 7 1 [1+1] R (1+1+1))/\
  (decide ((0:Int)<(↑c.when_.length:Int))=ab->((clX c).sz+1<=1000000000/\Zn (clX c)=ac/\0+(cdX (clX c) 0).length<=1000000000)/\∀J:List Ins,J= []++cdX (clX c) 0->Ye4 c k I (fzO (au:Option (List Ins×Nat))) (fzO (au:Option (List Ins×Nat))) [] J)):=by kernel_rfl
theorem Yi6(c:Cls):clX c=c.pay:=Ex.eta c.pay
theorem Zmx(e:Nat):∀a b:List Tst,cdTs e (a++b)=cdTs e a++cdTs e b
 | [],_=>rfl
 |x::r,b=>by simp[cdTs,Zmx e r b]
def psOf(o:Nat):Nat->List Nat
 |0=> []
 |j+1=>(o+3*j+2)::psOf o j
theorem Zvn{l r:List Ins} {ws:List Tst} {n F:Nat} (hF:F<=l.length) (J:n=(l++cdTs n ws++r).length):∀(i:Nat) (L:List Ins),i<=ws.length->L=l++(cdTs 0 (ws.take i)++cdTs n (ws.drop i))++r->Z9u (l++cdTs n ws++r) n F F (psOf l.length i) L
 |0,L,_,h=>⟨by rw[h];simp[cdTs],J,rfl⟩
 |i+1,L,hi,h=>by
  have U:i<ws.length:=hi
  have hw:ws[i]? =ae ws[i]:=ai U
  have et:ws.take (i+1)=ws.take i++ [ws[i]]:=by rw[cz,hw];rfl
  have ed:ws.drop i=ws[i]::ws.drop (i+1):=cr U
  have tl:(cdTs 0 (ws.take i)).length=3*i:=by rw[X7,be];omega
  have nl:n=l.length+3*ws.length+r.length:=by rw[J];simp[X7];omega
  have hp:0+ag (↑(l.length+3*i+2):Int)=l.length+3*i+2:=by omega
  have R:l.length+3*i+2=(l++cdTs 0 (ws.take i)++ [iNN 2 ws[i].attr,⟨12,ws[i].low,ws[i].high⟩]).length:=by simp[tl];omega
  have I:L=(l++cdTs 0 (ws.take i)++ [iNN 2 ws[i].attr,⟨12,ws[i].low,ws[i].high⟩])++iNN 13 0::(cdTs n (ws.drop (i+1))++r):=by
   rw[h,et,Zmx];simp[cdTs]
  unfold psOf Z9u
  rw[hp]
  refine⟨by omega,by omega,by rw[I];simp[tl];omega,λx hx L' e=> ?_⟩
  obtain rfl:x=iNN 13 0:=Zrt R (I▸hx)
  refine Zvn hF J i L' (by omega) ?_
  rw[e,I,Zru R,ed]
  simp[cdTs,iNN]
theorem Zvo{c:Cls} {k:Nat} {l L:List Ins} {fz n:Nat} (hf:fz<=l.length) (hs:c.pay.sz+1<=1000000000) (hx:Zn c.pay=ac) (hl:l.length+(cdC c k l.length).length<=1000000000) (R:L=l++cdTs 0 c.when_) (hn:n=L.length):
 Z32 c ↑k (l++cdC c k l.length) fz fz (psOf l.length c.when_.length) L n:=by
 have U:L.length=l.length+3*c.when_.length:=by rw[R];simp[X7]
 have cl:(cdC c k l.length).length=3*c.when_.length+(cdX c.pay (l.length+3*c.when_.length)).length+1:=by unfold cdC;simp[X7];omega
 unfold Z32
 rw[Yi6]
 refine⟨⟨hn,by omega,hs,hx,by rw[U];omega⟩,λJ I=> ?_⟩
 have n1:J.length=L.length+(cdX c.pay L.length).length:=by rw[I];simp
 rw[U] at n1 I
 have a0:fzO (ae (L,fz))=fz:=rfl
 unfold Ye4
 rw[a0]
 refine⟨⟨aw _,by omega,by omega⟩,λL2 e2=> ?_⟩
 have et:l++cdC c k l.length=l++cdTs (J.length+1) c.when_++(cdX c.pay (l.length+3*c.when_.length)++ [iNN 15 k]):=by
  unfold cdC
  rw[n1]
  simp
 rw[et]
 refine Zvn hf ?_ c.when_.length L2 (aw _) ?_
 ·simp[X7];omega
 ·rw[e2,aW,I,R]
  simp[cdTs,iNN]
theorem Zvp{x:Tst} {fz n:Nat} {L A:List Ins} {K:List Ins->Prop} (U:L=A++ [iNN 2 x.attr]) (hn:n=L.length) (hf:fz<=n) (hb:n<=1000000000) (hk:K (A++cdTs 0 [x])):Ye5 x fz L n K:=by
 subst hn;refine⟨⟨aw _,hf,by omega⟩,λR I=> ?_⟩;rw[aW] at I;have n2:R.length=L.length+1:=by rw[I];simp
 refine⟨⟨by omega,by omega,by omega⟩,λL3 J=> ?_⟩;rw[<-n2,aW,I,U] at J;have:A++cdTs 0 [x]=L3:=by rw[J];simp[cdTs,iNN]
 exact this▸hk
theorem Zmy{c:Cls} {k:Nat} {l:List Ins} {fz:Nat} (hf:fz<=l.length) (hs:c.pay.sz+1<=1000000000) (hx:Zn c.pay=ac) (hl:l.length+(cdC c k l.length).length<=1000000000) (h8:c.when_.length<=8):
 ∀(f j n:Nat) (L:List Ins),f+j=8->j<=c.when_.length->L=l++cdTs 0 (c.when_.take j)->n=L.length->Z9v c ↑k (l++cdC c k l.length) fz fz f j (psOf l.length j) L n
 |f,j,n,L,a1,hj,U,I=>by
  have tl:(cdTs 0 (c.when_.take j)).length=3*j:=by rw[X7,be];omega
  have nL:L.length=l.length+3*j:=by rw[U];simp[tl]
  have cl:(cdC c k l.length).length=3*c.when_.length+(cdX c.pay (l.length+3*c.when_.length)).length+1:=by unfold cdC;simp[X7];omega
  have a0:decide ((↑j:Int)<(↑c.when_.length:Int))=ab->Z32 c ↑k (l++cdC c k l.length) fz fz (psOf l.length j) L n:=by
   intro q
   have q:=of_decide_eq_false q
   obtain rfl:j=c.when_.length:=by omega
   exact Zvo hf hs hx hl (by rw[U,aW]) I
  match f with
  |0=>exact⟨λq=>by have q:=of_decide_eq_true q;omega,a0⟩
  |f+1=>
   refine⟨λq=> ?_,a0⟩
   have q:=of_decide_eq_true q
   refine⟨by omega,by omega,λx R=>⟨⟨by omega,by omega,by omega⟩,λL1 J=> ?_⟩⟩
   have R:c.when_[j]? =ae x:=R
   rw[I,aW] at J
   have n1:L1.length=L.length+1:=by rw[J];simp
   refine Zvp (A:=L) J (by omega) (by omega) (by omega) ?_
   have ep:(n+1+1)::psOf l.length j=psOf l.length (j+1):=by
    rw[I,nL];rfl
   rw[ep]
   refine Zmy hf hs hx hl h8 f (j+1) (n+1+1+1) _ (by omega) (by omega) ?_ ?_
   ·rw[cz,R,Zmx,<-bE,<-U];rfl
   ·simp[cdTs,I]
theorem Yi7{c:Cls} {k:Nat} (U:c.pay.sz+1<=1000000000) (hx:Zn c.pay=ac) (R:([]:List Ins).length+(cdC c k ([]:List Ins).length).length<=1000000000) (h8:c.when_.length<=8):
 Zk E FclC (vc E FclC 400) 60 [.ptr 0 0,clB c,.int ab .i64 (↑k:Int)] (hpP E dx au) 2 (prnK E dx au (([]:List Ins)++cdC c k ([]:List Ins).length)):=by
 rw[Z9x]
 have r:=Zmy (l:= []) (fz:=0) (aw _) U hx R h8
 refine⟨λq=> ?_,λq=> ?_⟩
 ·have q:=of_decide_eq_true q
  refine⟨by omega,by omega,λx I=>Zvp (A:= []) rfl rfl (by omega) (by omega) ?_⟩
  have I:c.when_[0]? =ae x:=I
  refine r 7 1 3 _ rfl (by omega) ?_ rfl
  rw[cz,I];rfl
 ·have q:=of_decide_eq_false q
  have w0:c.when_= []:=iN.1 (by omega)
  obtain⟨⟨-,-,a1,a2,a3⟩,J⟩:=Zvo (l:= []) (L:= []) (n:=0) (fz:=0) (k:=k) (aw _) U hx R (by rw[w0];rfl) rfl
  rw[w0] at J
  exact⟨⟨a1,a2,a3⟩,J⟩
theorem Zmz:FnsOk E FclC:=by
 have h:=Zb (F0_ok) (Ybe (Zrv 1000000000));exact⟨h.sumG,h.fnG,h.sum,h.fn,h.loop⟩
def ClP(c:Cls) (k:Nat) (l:List Ins):Prop:=c.pay.sz+1<=1000000000/\Zn c.pay=ac/\l.length+(cdC c k l.length).length<=1000000000/\c.when_.length<=8
theorem Yi8{c:Cls} {k:Nat} {l:List Ins} {fz:Nat} (J:fz<=l.length) (I:ClP c k l):
 Zk E FclC (vc E FclC 400) 60 [.ptr 0 0,clB c,.int ab .i64 (↑k:Int)] (hpP E dx (ae (l,fz))) 2 (prnK E dx (ae (l,fz)) (l++cdC c k l.length)):=by
 rw[Z9w]
 exact Zmy J I.1 I.2.1 I.2.2.1 I.2.2.2 8 0 _ l rfl (bb _) (by simp[cdTs]) rfl
theorem Yi9(c:Cls) (k:Nat):Yc0 E 60 dx [clB c,.int ab .i64 (↑k:Int)] (λ(l:List Ins)=>l++cdC c k l.length) (λ(l:List Ins)=>ClP c k l):=
 ⟨λl fz J I=>Xv E_ok (Xk E_ok Zmz λf N c=>(Zf4 E_ok Zmz 400 f N c).1) rfl (Yi8 J I),
  λI=>Xv E_ok (Xk E_ok Zmz λf N c=>(Zf4 E_ok Zmz 400 f N c).1) rfl (Yi7 I.1 I.2.1 I.2.2.1 I.2.2.2)⟩
end
section
theorem Zua{x:Cls}:∀{l:List Cls} {i o:Nat},cdCs (l++ [x]) i o=cdCs l i o++cdC x (i+l.length) (o+(cdCs l i o).length)
 | [],i,o=>by
  show cdC x i o++ []= []++cdC x (i+0) (o+0)
  simp
 |c::r,i,o=>by
  have I:∀r,cdCs (c::r) i o=cdC c i o++cdCs r (i+1) (o+(cdC c i o).length):=λ_=>rfl
  rw[dc,I,I,Zua,bE,aC,aD]
  rw[show i+1+r.length=i+(r.length+1) by omega,show o+(cdC c i o).length+(cdCs r (i+1) (o+(cdC c i o).length)).length=o+((cdC c i o).length+(cdCs r (i+1) (o+(cdC c i o).length)).length) by omega]
end
section
open Go
theorem Zcn:∀(k:Nat) (x:Ex),x.sz<=k->Zn x=ac->∀o,(cdX x o).length<=3*x.sz
 |0,x,h,_=>by have:=x.sz_pos;omega
 |k+1,x,h,hf=>by
  intro o
  rcases Wu hf with⟨op,n,a,b,c,e,rfl,q⟩|⟨op,n,a,b,c,e,y,z,rfl,q1,q2,I,J⟩|⟨n,a,b,c,e,y,z,u,v,rfl,I,J,f3,f4⟩
  ·rw[Zzj q]
   have:=(bU op n a b c e []).sz_pos
   simp only[aD,bh]
   omega
  ·rw[sz_2] at h⊢
   rw[Zzk q1 q2]
   have R:=Zcn k y (by omega) I o
   have U:=Zcn k z (by omega) J (o+(cdX y o).length)
   simp only[aC,aD,bh]
   omega
  ·rw[sz_4] at h⊢
   rw[Zzl rfl rfl]
   have R:=Zcn k y (by omega) I o
   have U:=Zcn k z (by omega) J (o+(cdX y o).length)
   generalize hp:o+(cdX y o).length+(cdX z (o+(cdX y o).length)).length+2=p
   have a3:=Zcn k u (by omega) f3 p
   generalize hq:p+(cdX u p).length+1=q
   have a4:=Zcn k v (by omega) f4 q
   simp only[aC,aD,bh]
   omega
theorem Yhi{c:Cls} {m k o:Nat} (I:Zn c.pay=ac) (J:c.pay.sz<=m) (R:c.when_.length<=8):(cdC c k o).length<=3*m+25:=by
 unfold cdC;have:=Zcn c.pay.sz c.pay (aw _) I (o+3*c.when_.length);simp only[aC,X7,aD,bh];omega
theorem Zub{m:Nat}:∀{l:List Cls} {k o:Nat},(∀c∈l,Zn c.pay=ac/\c.pay.sz<=m/\c.when_.length<=8)->(cdCs l k o).length<=(3*m+25)*l.length
 | [],_,_,_=>bb _
 |c::r,k,o,h=>by
  have a:=Yhi (k:=k) (o:=o) (h c cB).1 (h c cB).2.1 (h c cB).2.2
  have b:=Zub (l:=r) (k:=k+1) (o:=o+(cdC c k o).length) λx I=>h x (aX _ I)
  have e:(cdCs (c::r) k o).length=(cdC c k o).length+(cdCs r (k+1) (o+(cdC c k o).length)).length:=by
   show(cdC c k o++cdCs r (k+1) (o+(cdC c k o).length)).length=_
   rw[aC]
  have J:(3*m+25)*(c::r).length=(3*m+25)*r.length+(3*m+25):=by rw[aD,Nat.mul_add,Nat.mul_one]
  omega
noncomputable def Yc(t:Tar):List Ins×Int:=if Z9 t=0 then(if 4096<(cdT t).length\/64<dCs t.clauses then([],2) else(cdT t,0)) else([],Z9 t)
def SmK(t:Tar):Prop:=(∀c∈t.clauses,c.pay.sz<=10000/\c.when_.length<1000000000)/\t.clauses.length<1000000000
theorem Zuc:∀{cs:List Cls} {s:List (List Nat)},CsOk s cs->∀c∈cs,W5 c=ac/\c.when_.length<=8
 |c::r,s,h,x,I=>by
  obtain⟨J,h2,h3,R,h5,U⟩:=h
  rcases aL.1 I with rfl|I
  ·exact⟨J,R⟩
  ·exact Zuc U x I
theorem Ycp{t:Tar} (h:Z9 t=0):ClOk t.clauses/\t.clauses.length<=64/\∀c∈t.clauses,c.when_.length<=8:=by
 obtain⟨-,-,-,-,J,R⟩:=(Zc4 t).1 h;have a:=Zuc R;exact⟨λc I=>(Zc5 (a c I).1).2,J,λc I=>(a c I).2⟩
end
section
open Go
noncomputable def dIV:Dc E Int:=dInt .i64
noncomputable def Yk0:DcL E (Int×Int×Int×Unit):= .cons dIV (.cons dIV (.cons dIV .nil))
abbrev qDG3(I:Int) (J:Int) (R:Bool):=(decide (mm2 ab I J>=0)=ac->(decide (mm2 ac I J<=9007199254740992)=ac->ac=R)/\(decide (mm2 ac I J<=9007199254740992)=ab->ab=R))
abbrev qDG4(I:Int) (J:Int) (R:Bool):=(decide (mm2 ab I J>=0)=ab->ab=R)
abbrev qDG1(J:Int) (I:Int) (R:Int) (d0:Bool):=((J==J&&(0==0&&(I==0&&ac)))=ac->(qDG3 R I d0)/\(qDG4 R I d0))
abbrev qDG2(I:Int) (J:Int) (R:Bool):=((I==I&&(0==0&&(J==0&&ac)))=ab->ab=R)
theorem Zpi(op n m:Int) (b:Bool):Zk E F0 (vc E F0 400) 113 [.agg [.int ab .i64 op,.int ab .i64 n,.int ab .i64 m]] hp0 0 (λr=>ret E (patch hp0 0 r) r.v (.bool ab b))=(
 ∃(Q:Bool->Prop),((decide (op<1)=ac->Q ac)/\(decide (op<1)=ab->(decide (op>=17)=ac->Q ac)/\(decide (op>=17)=ab->Q ab)))/\(Q ac->ab=b)/\(Q ab->((op==1)=ac->(qDG1 op m n b)/\(qDG2 op m b))/\((op==1)=ab->((op==13)=ac->(qDG1 op m n b)/\(qDG2 op m b))/\((op==13)=ab->((op==14)=ac->(qDG1 op m n b)/\(qDG2 op m b))/\((op==14)=ab->((op==15)=ac->(qDG1 op m n b)/\(qDG2 op m b))/\((op==15)=ab->((op==2)=ac->((op==op&&(0==0&&(m==0&&ac)))=ac->(decide (mm2 ab n m>=0)=ac->(decide (mm2 ac n m<=15)=ac->ac=b)/\(decide (mm2 ac n m<=15)=ab->ab=b))/\(qDG4 n m b))/\(qDG2 op m b))/\((op==2)=ab->((op==12)=ac->((op==op&&(0==0&&(0==0&&ac)))=ac->(qDG3 n m b)/\(qDG4 n m b))/\((op==op&&(0==0&&(0==0&&ac)))=ab->ab=b))/\((op==12)=ab->((op==op&&(n==0&&(m==0&&ac)))=ac->(decide (mm2 ab n m>=0)=ac->(decide (mm2 ac n m<=0)=ac->ac=b)/\(decide (mm2 ac n m<=0)=ab->ab=b))/\(qDG4 n m b))/\((op==op&&(n==0&&(m==0&&ac)))=ab->ab=b))))))))):=by kernel_rfl
theorem Zpj(op:Int) (p q:Int):Zk E F0 (vc E F0 400) 115 [.int ab .i64 op] hp0 0 (λr=>ret E (patch hp0 0 r) r.v (.tup [.int ab .i64 p,.int ab .i64 q]))=(
((op==1)=ac->0=p/\1=q/\True)/\((op==1)=ab->((op==2)=ac->0=p/\1=q/\True)/\((op==2)=ab->((op==12)=ac->1=p/\1=q/\True)/\((op==12)=ab->((op==13)=ac->1=p/\0=q/\True)/\((op==13)=ab->((op==15)=ac->1=p/\0=q/\True)/\((op==15)=ab->((op==14)=ac->0=p/\0=q/\True)/\((op==14)=ab->((op==16)=ac->0=p/\0=q/\True)/\((op==16)=ab->2=p/\1=q/\True)))))))):=by kernel_rfl
theorem Zpk(x:Ins):PureC E 113 [.agg [.int ab .i64 x.op,.int ab .i64 x.n,.int ab .i64 x.m]] (.bool ab (Z7 x)):=by
 refine Za E_ok (Zd E_ok F0_ok 400) ?_;rw[Zpi];delta qDG3 qDG4 qDG1 qDG2
 repeat' (first|exact Z1s _|apply Ybh|apply Ybi|(refine aB ?_ ?_)|(intro h))
 all_goals(try simp only[Yf,Z6,Wg,Wh,Wi,bd,bG,bi,cd,beq_iff_eq,bne_iff_ne,beq_eq_false_iff_ne,decide_eq_true_eq,decide_eq_false_iff_not,aq,cG,cx,bm,beq_self_eq_true,Yt,Yn,ne_eq,and_true,true_and,aS,aO,false_or,or_false,true_implies,bX] at*)
 all_goals(try unfold Z7)
 all_goals(repeat' split)
 all_goals first|contradiction|omega|(symm;simp only[decide_eq_true_eq,decide_eq_false_iff_not];omega)
theorem Zpl(op:Int):PureC E 115 [.int ab .i64 op] (.tup [.int ab .i64 (eff op).1,.int ab .i64 (eff op).2]):=by
 refine Za E_ok (Zd E_ok F0_ok 400) ?_;rw[Zpj];simp only[beq_iff_eq,bne_iff_ne,beq_eq_false_iff_ne,decide_eq_true_eq,decide_eq_false_iff_not,aq,cG,cx,bm,beq_self_eq_true,Yt,Yn,ne_eq,and_true,true_and,aS,aO,false_or,or_false,true_implies,bX]
 repeat' (first|(refine aB ?_ ?_)|(intro h))
 all_goals(unfold eff;repeat' split)
 all_goals first|contradiction|omega|rfl
noncomputable def Yk1:Dc E Ins:= .map (dAgg Yk0) (λx=>⟨x.1,x.2.1,x.2.2.1⟩) (λx=>(x.op,x.n,x.m,())) (λ_=>rfl)
noncomputable def Yip:Dc E (List Ins):=(Ze4 (E:=E) dx:Dc E (List (thy.dom dx)))
noncomputable def dL1V{α:Type} (d:Dc E α):DcL E (α×Unit):= .cons d .nil
noncomputable def dL2V{α I:Type} (d:Dc E α) (e:Dc E I):DcL E (α×I×Unit):= .cons d (dL1V e)
noncomputable def Z8x:Sum thy:=sumP (dL1V Yk1) (λ_=>True) λx=> .bool ab (Z7 x.1)
noncomputable def Yk2:Sum thy:=sumP (dL1V dIV) (λ_=>True) λx=> .tup [.int ab .i64 (eff x.1).1,.int ab .i64 (eff x.1).2]
noncomputable def F2V:Fns thy:=addS (addS F0 113 Z8x) 115 Yk2
theorem Yiq:FnsOk E F2V:=by
 refine Zb (Zb F0_ok ?_) ?_
 ·exact Yg E_ok (Zc (f:=113) rfl) λx _=>Zpk x.1
 ·exact Yg E_ok (Zc (f:=115) rfl) λx _=>Zpl x.1
def A48V:Fr thy->Hp thy->Nat->Ann thy:=λT h i=>{X:=LX,fr:=λx=> [(0,T 0),(1,T 1),(7,T 7),(8,.int ab .i64 x.k)],bl:=λ_=> [],src:=λ_=> [],md:= [],ih:=i,M:=i+30,meas:=λx=>x.r}
def A32V:Fr thy->Hp thy->Nat->Ann thy:=λT h i=>{X:=LX,fr:=λx=> [(7,T 7),(8,.int ab .i64 x.k)],bl:=λx=> [(bOf (T 7),.rows .ints x.D 0)],src:=λ_=> [],md:= [bOf (T 7)],ih:=i,M:=i+30,meas:=λx=>x.r}
def A9V:Fr thy->Hp thy->Nat->Ann thy:=λT h i=>{X:=LX,fr:=λx=> [(0,T 0),(2,.int ab .i64 x.m),(4,T 4),(30,T 30),(31,T 31),(32,.int ab .i64 x.k)],bl:=λx=> [(bOf (T 4),.rows .ints x.D 0)],src:=λ_=> [],md:= [bOf (T 4)],ih:=i,M:=i+60,meas:=λx=>x.r}
def A9nV:Fr thy->Hp thy->Nat->Ann thy:=λT h i=>{X:=LX,fr:=λx=> [(0,T 0),(2,T 2),(4,T 4),(5,T 5),(10,T 10),(30,T 30),(31,T 31),(32,T 32),(110,T 110),(111,T 111),(112,.int ab .i64 x.k)],bl:=λx=>(bOf (T 4),.rows .ints x.D 0)::blkS h (T 110),src:=λ_=> [],md:= [bOf (T 4)],ih:=i,M:=i+20,meas:=λx=>x.r}
noncomputable def F3V:Fns thy:=addL (addL (addL (addL F2V 166 2 A48V E) 114 8 A32V E) 62 8 A9V E) 62 23 A9nV E
theorem Z20:FnsOk E F3V:=Zm E_ok (Zm E_ok (Zm E_ok (Zm E_ok Yiq _ _ _) _ _ _) _ _ _) _ _ _
theorem Zij{y:Int} (R:0<=y) (h:y<4294967296):U5 .and .u64 y 4294967295=y:=by
 obtain⟨n,rfl⟩:=Int.eq_ofNat_of_zero_le R;have U:n<4294967296:=by omega
 have e:(dm 64 (n:Int)&&&dm 64 4294967295).toNat=n:=by
  rw[BitVec.toNat_and];have I:(dm 64 (n:Int)).toNat=n:=by
   rw[BitVec.toNat_ofInt];omega
  have J:(dm 64 4294967295).toNat=2^32-1:=by decide
  rw[I,J,Nat.and_two_pow_sub_one_eq_mod];omega
 show bM.wrap ((dm 64 (n:Int)&&&dm 64 4294967295).toNat:Int)=n;rw[e,jn];omega
theorem Z21{n:Int} (I:0<=n) (J:n<18446744073709551616):wr .u64 n=n:=by simp only[wr,jn];omega
theorem Zjw{α:Type} {f:α->Bool} {l:List α} {k:Nat} {x:α} (h:l[k]? =ae x):(l.take (k+1)).all f=((l.take k).all f&&f x):=by
 obtain⟨I,rfl⟩:=ak.1 h;rw[List.take_succ_eq_append_getElem I,List.all_append,List.all_cons,List.all_nil,cG]
theorem Zpm{α:Type} {f:α->Bool} {l:List α} {k:Nat} {x:α} (h:l[k]? =ae x) (I:f x=ab):l.all f=false:=by
 rw[Bool.eq_false_iff];intro J;have:=(fB.1 J) x (aI h);rw[I] at this;cases this
abbrev qDG8:=(2^min (ag 32) (eO bM))
abbrev qDG9(I:Int) (J:Int):=(wr bM (wr bM (ej I qDG8*U5 ib bM J 4294967295)+ej (wr bM (U5 ib bM I 4294967295*U5 ib bM J 4294967295)) qDG8))
theorem Zx7(x y:Int) (p q:Int):Zk E F3V (vc E F3V 400) 168 [.int ab .u64 x,.int ab .u64 y] hp0 0 (λr=>ret E (patch hp0 0 r) r.v (.tup [.int ab .u64 p,.int ab .u64 q]))=(
 wr bM (wr bM (wr bM (ej x qDG8*ej y qDG8)+ej (qDG9 x y) qDG8)+ej (wr bM (U5 ib bM (qDG9 x y) 4294967295+wr bM (U5 ib bM x 4294967295*ej y qDG8))) qDG8)=p/\wr bM (x*y)=q/\True):=by kernel_rfl
abbrev qDGa(I:List Ins):=(↑(aa I):Int)
abbrev qDGb(I:LX):=(↑(dE I):Int)
theorem Zjx(c:List Ins) (b:Bool):Zk E F3V (vc E F3V 400) 111 [.psl .ins c ab,.fn (.func 112) [] []] hp0 0 (λr=>ret E (patch hp0 0 r) r.v (.bool ab b))=(
 ∃(R:LX->Prop),(∃(x:LX),R x/\ac=ac/\((c=c/\(ab=ac->ab=ac))/\(cA 112=cA 112/\True/\True)/\(qDGa c)=(qDGa c)/\0=(qDGb x)/\True)/\True)/\∀(x:LX),R x->(decide ((qDGb x)<(qDGa c))=ac->0<=(qDGb x)/\(qDGb x)+1<=(qDGa c)/\∀(I:Ins),c[ag (qDGb x)]? =ae I->True/\((!Z7 I)=ac->(decide ((qDGb x)>=0)=ac->ac=b)/\(decide ((qDGb x)>=0)=ab->ab=b))/\((!Z7 I)=ab->∃(x':LX),R x'/\x'.2+1<=x.2/\ac=ac/\((c=c/\(ab=ac->ab=ac))/\(cA 112=cA 112/\True/\True)/\(qDGa c)=(qDGa c)/\wr af ((qDGb x)+1)=(qDGb x')/\True)/\True))/\(decide ((qDGb x)<(qDGa c))=ab->ab=b)):=by kernel_rfl
theorem Zx8(y:Int) (U:0<=y) (h1:y<4294967296):PureC E 168 [.int ab .u64 1,.int ab .u64 y] (.tup [.int ab .u64 0,.int ab .u64 y]):=by
 refine Za E_ok (Zd E_ok Z20 400) ?_;rw[Zx7];delta qDG8 qDG9;have I:ej y (2^min (ag 32) (eO bM))=0:=by
  show y.fdiv 4294967296=0;rw[Int.fdiv_eq_ediv_of_nonneg _ (by omega)];omega
 have J:ej 1 (2^min (ag 32) (eO bM))=0:=by decide
 have e3:U5 .and .u64 1 4294967295=1:=Zij (by omega) (by omega);have e4:=Zij U h1;have R:ej 0 (2^min (ag 32) (eO bM))=0:=by decide
 have e6:wr .u64 0=0:=by decide
 have e7:wr .u64 y=y:=Z21 U (by omega);have e8:U5 .and .u64 0 4294967295=0:=Zij (by omega) (by omega);have d1:ej y ((2^min (ag 32) (eO bM):Nat):Int)=0:=I;have d2:ej 1 ((2^min (ag 32) (eO bM):Nat):Int)=0:=J;have d5:ej 0 ((2^min (ag 32) (eO bM):Nat):Int)=0:=R;simp only[I,J,e3,e4,R,e6,e7,e8,d1,d2,d5,Int.zero_mul,Int.one_mul,Int.mul_zero,Int.zero_add,Int.add_zero,and_self]
theorem Zjy(c:List Ins) (hc:c.length<=4096):PureC E 111 [.psl .ins c ab,.fn (.func 112) [] []] (.bool ab (!c.all Z7)):=by
 refine Za E_ok (Zd E_ok Z20 400) ?_;rw[Zjx];delta qDGa qDGb;refine⟨λx=>x.k+x.r=c.length/\(c.take x.k).all Z7=ac,⟨⟨0,c.length,[],0⟩,by simp,by simp⟩,λx U=> ?_⟩;obtain⟨h1,J⟩:=U
 simp only[Yf,Z6,Wg,Wh,Wi,beq_iff_eq,bne_iff_ne,beq_eq_false_iff_ne,bne_eq_false_iff_eq,decide_eq_true_eq,decide_eq_false_iff_not,bd,bG,bi,cd,aq,cG,cx,bm,beq_self_eq_true,Yt,Yn,ne_eq,and_true,true_and,aS,aO,false_or,or_false,true_implies,bX,not_true_eq_false,not_false_eq_true,bJ];refine⟨λa1=>⟨by omega,by omega,λy I=>⟨λR=>⟨λ_=> ?_,λh=>by omega⟩,λR=> ?_⟩⟩,λa0=> ?_⟩
 ·rw[bt] at I
  rw[Zpm I R];rfl
 ·rw[bt] at I
  refine⟨⟨x.k+1,x.r-1,[],0⟩,⟨by show x.k+1+(x.r-1)=_;omega,by show(c.take (x.k+1)).all Z7=ac;rw[Zjw I,J,R];rfl⟩,by show x.r-1+1<=x.r;omega,?_⟩;rw[wr64 (by omega) (by omega)];simp
 ·rw[bg (by omega)] at J
  rw[J];rfl
noncomputable def dFnV(f:Nat):Dc E Unit where
 dec v:=match v with| .fn (.func g) [] []=>(match aK g f with|true=>ae ()|false=>au)|_=>au
 enc _:= .fn (.func f) [] []
 ok v a h:=by
  split at h
  ·split at h
   ·rename_i e
    rw[ax e]
    exact⟨rfl,rfl,λσ g u hd=>hd⟩
   ·cases h
  ·cases h
noncomputable def Zx9:Sum thy:=sumP (dL2V Yip (dFnV 112)) (λx=>x.1.length<=4096) λx=> .bool ab (!x.1.all Z7)
noncomputable def Yir:Sum thy:=sumP (dL2V (dInt .u64) (dInt .u64)) (λx=>x.1=1/\0<=x.2.1/\x.2.1<4294967296) λx=> .tup [.int ab .u64 0,.int ab .u64 x.2.1]
noncomputable def F4V:Fns thy:=addS (addS F3V 111 Zx9) 168 Yir
theorem Yis:FnsOk E F4V:=by
 refine Zb (Zb Z20 ?_) ?_
 ·exact Yg E_ok (Zc (f:=111) rfl) λx h=>Zjy x.1 h
 ·refine Yg E_ok (Zc (f:=168) rfl) λx h=> ?_
  obtain⟨x,y,u⟩:=x;obtain⟨rfl,I,J⟩:=h;exact Zx8 y I J
abbrev Yp(c:List Ins):Prop:=
 (0:Nat)=(0:Nat)/\ag (wr af (wr bM (↑(aa c):Int)))=ag (wr af (wr bM (↑(aa c):Int)))/\ag
 (wr af (wr bM (↑(aa c):Int)))=ag (wr af (wr bM (↑(aa c):Int)))
abbrev Zz(J:Int) (I:Ins):=
 (wr af (J-ao (eff (dH I)))+aE (eff (dH I)))
abbrev Zd3(I:Int) (x:LX) (Q:Bool->Prop) (c:List Ins) (J:LX) (U:Int) (R:Ins):Prop:=
 (decide (I<=(↑(dE x):Int))=ac->Q ac)/\(decide (I<=(↑(dE x):Int))=ab->(decide (I>=(↑(aa c):Int))=ac->Q ac)/\(decide (I>=
 (↑(aa c):Int))=ab->((0:Int)<=I/\I+(1:Int)<=(↑(ag (wr af (wr bM (↑(aa c):Int)))):Int))/\(0:Nat)+ag
 I+(1:Nat)<=aa (fI J)/\∀(x:Int),(fI J)[(0:Nat)+ag I]? =ae x->(decide (x>=(0:Int))=ac->((0:Int)<=I/\I+(1:Int)<=
 (↑(ag (wr af (wr bM (↑(aa c):Int)))):Int))/\(0:Nat)+ag I+(1:Nat)<=aa (fI J)/\∀(x:Int),(fI J)[(0:
 Nat)+ag I]? =ae x->((x !=wr af (Zz U R))=ac->Q ac)/\((x !=wr af (Zz U R))=ab->Q ab))/\(decide (x>=(0:
 Int))=ab->Q ab)))
abbrev X2(c:List Ins):=
 (ag (wr af (wr bM (↑(aa c):Int))))
abbrev Zay(c:List Ins) (x:LX) (I:Int) (J:Ins) (x':LX):Prop:=
 (c=c/\(ab=ac->ab=ac))/\mm2 ac (mm2 ac (jQ x) I) (wr af (Zz I J))=jQ x'/\(Yp c)/\(c=c/\(ab=ac->ab=
 ac))/\(↑(aa c):Int)=(↑(aa c):Int)/\wr af ((↑(dE x):Int)+(1:Int))=(↑(dE x'):Int)/\True
abbrev Zik(I:Ins) (x:LX):=
 (aa [eF I]+aa [wr af ((↑(dE x):Int)+(1:Int))])
abbrev W0(x:LX):=
 (↑(aa [wr af ((↑(dE x):Int)+(1:Int))]):Int)
abbrev Zaz(c:List Ins) (x:LX):=
 (ag (wr af (wr bM (↑(aa c):Int)))-ag (↑(dE x):Int))
abbrev Zil(I:Ins) (Q:Bool->Prop):Prop:=
 ((dH I !=(14:Int))=ac->((dH I !=(15:Int))=ac->((dH I !=(16:Int))=ac->Q ac)/\((dH I !=(16:Int))=ab->Q ab))/\
 ((dH I !=(15:Int))=ab->Q ab))/\((dH I !=(14:Int))=ab->Q ab)
abbrev Zim(I:Ins) (x:LX):Prop:=
 av (aa [eF I]) [eF I]++ [wr af ((↑(dE x):Int)+(1:Int))]=av (aa [eF I]) [eF I]++ [wr af ((↑(dE
 x):Int)+(1:Int))]/\(0:Nat)=(0:Nat)
abbrev Zfb(I:Ins) (x:LX):Prop:=
 (0:Nat)=(0:Nat)/\aa [eF I]+aa [wr af ((↑(dE x):Int)+(1:Int))]=aa [eF I]+aa [wr af ((↑(dE x)
 :Int)+(1:Int))]/\True
abbrev Zfc(x:LX):Prop:=
 (0:Nat)=(0:Nat)/\aa [wr af ((↑(dE x):Int)+(1:Int))]=aa [wr af ((↑(dE x):Int)+(1:Int))]/\True
abbrev Zbu(R:LX) (U:Int) (J:Int) (I:Ins) (x':LX):Prop:=
 dp (fI R) ((0:Nat)+ag U) (wr af (Zz J I))=fI x'/\(0:Nat)=(0:Nat)
abbrev Zfd(x:LX):Prop:=
 [wr af ((↑(dE x):Int)+(1:Int))]= [wr af ((↑(dE x):Int)+(1:Int))]/\(0:Nat)=(0:Nat)
abbrev Zbv(x:LX) (c:List Ins):Prop:=
 (0:Int)<=(↑(dE x):Int)/\(↑(dE x):Int)<=(↑(X2 c):Int)
abbrev qDGc(I:LX):=(↑(dE I):Int)
abbrev qDGd(I:List Ins):=(↑(aa I):Int)
abbrev qDGe(I:List Ins):=(I=I/\(ab=ac->ab=ac))
abbrev qDGf:=(0:Nat)
abbrev qDGg:=(0:Int)
abbrev qDGh(I:Int) (J:Ins):=(wr af (Zz I J))
abbrev qDGi(I:LX) (J:LX):=(fI I=fI J/\qDGf=qDGf)
abbrev qDGj(I:Ins):=(↑(aa [eF I]):Int)
abbrev qDGk(I:LX) (J:Int):=(mm2 ac (jQ I) J)
abbrev qDGl:=(1:Int)
abbrev qDGm(I:List Ins):=(↑(X2 I):Int)
abbrev qDGn:=(1:Nat)
abbrev qDGo(I:Ins) (J:LX):=(↑(Zik I J):Int)
abbrev qDGp(I:LX):=(av (ag (qDGc I)) (fI I))
abbrev qDGq(I:LX):=((qDGc I)+qDGl)
abbrev qDGr(I:List Ins):=(wr bM (qDGd I))
abbrev qDGs(I:Ins):=(qDGf=qDGf/\aa [eF I]=aa [eF I]/\True)
theorem Zpn(c:List Ins) (p q:Int):Zk E F4V (vc E F4V 400) 62 [.psl .ins c ab] hp0 0 (λr=>ret E (patch hp0 0 r) r.v (.tup [.int ab .i64 p,.int ab .i64 q]))=(
 (decide ((qDGd c)>(4096:Int))=ac->qDGg=p/\(2:Int)=q/\True)/\(decide ((qDGd c)>(4096:Int))=ab->(((qDGd c)==qDGg)=ac->qDGg=p/\(200:Int)=q/\True)/\(((qDGd c)==qDGg)=ab->aa c<=(4096:Nat)/\((!kZ c Z7)=ac->qDGg=p/\(200:Int)=q/\True)/\((!kZ c Z7)=ab->(decide ((qDGd c)<qDGg)=ac->False)/\(decide ((qDGd c)<qDGg)=ab->(qDGl=qDGl/\qDGg<=wr bM (qDGd c)/\wr bM (qDGd c)+qDGl<=(4294967296:Int))/\∃(Q:Bool->Prop),((decide (qDGg>qDGg)=ac->Q ac)/\(decide (qDGg>qDGg)=ab->(decide (wr bM (qDGd c)>(9223372036854775807:Int))=ac->Q ac)/\(decide (wr bM (qDGd c)>(9223372036854775807:Int))=ab->Q ab)))/\(Q ac->False)/\(Q ab->qDGg<=wr af (qDGr c)/\wr af (qDGr c)<=wr af (qDGr c)/\(↑(8:Nat):Int)*wr af (qDGr c)<=(281474976710656:Int)/\(qDGf<=qDGf/\qDGf+ag (wr af (qDGr c))<=aa (aM (X2 c) qDGg))/\∃(R:LX->Prop),(∃(x:LX),R x/\ac=ac/\((Yp c)/\(↑(min (aa [(-1:Int)]) (X2 c)):Int)=(qDGc x)/\True)/\(av qDGf (aM (X2 c) qDGg)++av (X2 c) [(-1:Int)]++cj (qDGf+min (aa [(-1:Int)]) (X2 c)) (aM (X2 c) qDGg)=fI x/\qDGf=qDGf)/\True)/\∀(x:LX),R x->(decide ((qDGc x)<(qDGm c))=ac->(Zbv x c)/\(decide ((qDGc x)<(qDGm c))=ac->(Zbv x c)/\qDGf+ag (qDGc x)<=aa (fI x)/\(qDGf<=qDGf+ag (qDGc x)/\qDGf+ag (qDGc x)+(Zaz c x)<=aa (fI x))/\∃(x':LX),R x'/\x'.2+qDGn<=x.2/\ac=ac/\((Yp c)/\wr af ((qDGc x)+(↑(min (aa (qDGp x)) (Zaz c x)):Int))=(qDGc x')/\True)/\(av (qDGf+ag (qDGc x)) (fI x)++av (Zaz c x) (qDGp x)++cj (qDGf+ag (qDGc x)+min (aa (qDGp x)) (Zaz c x)) (fI x)=fI x'/\qDGf=qDGf)/\True)/\(decide ((qDGc x)<(qDGm c))=ab->(Zbv x c)/\False))/\(decide ((qDGc x)<(qDGm c))=ab->(qDGg<=qDGg/\qDGg+qDGl<=(qDGm c))/\qDGf<=qDGf+ag qDGg/\qDGf+ag qDGg+qDGn<=aa (fI x)/\∀(a3:Int),(fI x)[qDGf+ag qDGg]? =ae a3->∃(R:LX->Prop),(∃(I:LX),R I/\ac=ac/\((qDGe c)/\qDGg=jQ I/\(Yp c)/\(qDGe c)/\(qDGd c)=(qDGd c)/\qDGg=(qDGc I)/\True)/\(dp (fI x) (qDGf+ag qDGg) qDGg=fI I/\qDGf=qDGf)/\True)/\∀(x:LX),R x->(decide ((qDGc x)<(qDGd c))=ac->qDGg<=(qDGc x)/\(qDGc x)+qDGl<=(qDGd c)/\∀(I:Ins),c[ag (qDGc x)]? =ae I->(qDGg<=(qDGc x)/\(qDGc x)+qDGl<=(qDGm c))/\qDGf+ag (qDGc x)+qDGn<=aa (fI x)/\∀(U:Int),(fI x)[qDGf+ag (qDGc x)]? =ae U->(decide (U<qDGg)=ac->∃(x':LX),R x'/\x'.2+qDGn<=x.2/\ac=ac/\((qDGe c)/\jQ x=jQ x'/\(Yp c)/\(qDGe c)/\(qDGd c)=(qDGd c)/\wr af (qDGq x)=(qDGc x')/\True)/\(qDGi x x')/\True)/\(decide (U<qDGg)=ab->True/\∃(Q:Bool->Prop),((decide (U<ao (eff (dH I)))=ac->Q ac)/\(decide (U<ao (eff (dH I)))=ab->((dH I==(15:Int))=ac->((U !=qDGl)=ac->Q ac)/\((U !=qDGl)=ab->((dH I==(16:Int))=ac->((U !=qDGg)=ac->Q ac)/\((U !=qDGg)=ab->Q ab))/\((dH I==(16:Int))=ab->Q ab)))/\((dH I==(15:Int))=ab->((dH I==(16:Int))=ac->((U !=qDGg)=ac->Q ac)/\((U !=qDGg)=ab->Q ab))/\((dH I==(16:Int))=ab->Q ab))))/\(Q ac->qDGg=p/\(200:Int)=q/\True)/\(Q ab->∃(Q:Bool->Prop),(((dH I==(13:Int))=
ac->Q ac)/\((dH I==(13:Int))=ab->((dH I==(14:Int))=ac->Q ac)/\((dH I==(14:Int))=ab->Q ab)))/\(Q ac->∃(Q:Bool->Prop),(Zil I Q)/\(Q ac->(aa [eF I]<=aa [eF I]/\qDGf<=aa [eF I]/\(Zik I x)*(8:Nat)<=(140737488355328:Nat))/\∃(a1:LX->Prop),(∃(J:LX),a1 J/\ac=ac/\((qDGe c)/\mm2 ac (qDGk x U) (qDGh U I)=mm2 ac (qDGk x U) (qDGh U I)/\(Yp c)/\(qDGc x)=(qDGc x)/\wr af (Zz U I)=wr af (Zz U I)/\(qDGe c)/\(qDGd c)=(qDGd c)/\(qDGc x)=(qDGc x)/\(Zfb I x)/\(qDGo I x)=(qDGo I x)/\qDGg=(qDGc J)/\True)/\(qDGi x J)/\(Zim I x)/\True)/\∀(J:LX),a1 J->(decide ((qDGc J)<(qDGo I x))=ac->(qDGg<=(qDGc J)/\(qDGc J)+qDGl<=(qDGo I x))/\qDGf+ag (qDGc J)+qDGn<=aa (av (aa [eF I]) [eF I]++ [wr af (qDGq x)])/\∀(a0:Int),(av (aa [eF I]) [eF I]++ [wr af (qDGq x)])[qDGf+ag (qDGc J)]? =ae a0->∃(Q:Bool->Prop),(Zd3 a0 x Q c J U I)/\(Q ac->qDGg=p/\(200:Int)=q/\True)/\(Q ab->(qDGg<=a0/\a0+qDGl<=(qDGm c))/\qDGf<=qDGf+ag a0/\qDGf+ag a0+qDGn<=aa (fI J)/\∀(a2:Int),(fI J)[qDGf+ag a0]? =ae a2->∃(x':LX),a1 x'/\x'.2+qDGn<=J.2/\ac=ac/\((qDGe c)/\mm2 ac (qDGk x U) (qDGh U I)=mm2 ac (qDGk x U) (qDGh U I)/\(Yp c)/\(qDGc x)=(qDGc x)/\wr af (Zz U I)=wr af (Zz U I)/\(qDGe c)/\(qDGd c)=(qDGd c)/\(qDGc x)=(qDGc x)/\(Zfb I x)/\(qDGo I x)=(qDGo I x)/\wr af (qDGq J)=(qDGc x')/\True)/\(Zbu J a0 U I x')/\(Zim I x)/\True))/\(decide ((qDGc J)<(qDGo I x))=ab->∃(x':LX),R x'/\x'.2+qDGn<=x.2/\ac=ac/\(Zay c x U I x')/\(qDGi J x')/\True))/\(Q ab->∃(a1:LX->Prop),(∃(J:LX),a1 J/\ac=ac/\((qDGe c)/\mm2 ac (qDGk x U) (qDGh U I)=mm2 ac (qDGk x U) (qDGh U I)/\(Yp c)/\(qDGc x)=(qDGc x)/\wr af (Zz U I)=wr af (Zz U I)/\(qDGe c)/\(qDGd c)=(qDGd c)/\(qDGc x)=(qDGc x)/\(qDGs I)/\(qDGj I)=(qDGj I)/\qDGg=(qDGc J)/\True)/\(qDGi x J)/\([eF I]= [eF I]/\qDGf=qDGf)/\True)/\∀(J:LX),a1 J->(decide ((qDGc J)<(qDGj I))=ac->(qDGg<=(qDGc J)/\(qDGc J)+qDGl<=(qDGj I))/\qDGf+ag (qDGc J)+qDGn<=aa [eF I]/\∀(a0:Int),[eF I][qDGf+ag (qDGc J)]? =ae a0->∃(Q:Bool->Prop),(Zd3 a0 x Q c J U I)/\(Q ac->qDGg=p/\(200:Int)=q/\True)/\(Q ab->(qDGg<=a0/\a0+qDGl<=(qDGm c))/\qDGf<=qDGf+ag a0/\qDGf+ag a0+qDGn<=aa (fI J)/\∀(a2:Int),(fI J)[qDGf+ag a0]? =ae a2->∃(x':LX),a1 x'/\x'.2+qDGn<=J.2/\ac=ac/\((qDGe c)/\mm2 ac (qDGk x U) (qDGh U I)=mm2 ac (qDGk x U) (qDGh U I)/\(Yp c)/\(qDGc x)=(qDGc x)/\wr af (Zz U I)=wr af (Zz U I)/\(qDGe c)/\(qDGd c)=(qDGd c)/\(qDGc x)=(qDGc x)/\(qDGs I)/\(qDGj I)=(qDGj I)/\wr af (qDGq J)=(qDGc x')/\True)/\(Zbu J a0 U I x')/\([eF I]= [eF I]/\qDGf=qDGf)/\True))/\(decide ((qDGc J)<(qDGj I))=ab->∃(x':LX),R x'/\x'.2+qDGn<=x.2/\ac=ac/\(Zay c x U I x')/\(qDGi J x')/\True)))/\(Q ab->∃(Q:Bool->Prop),(Zil I Q)/\(Q ac->∃(a1:LX->Prop),(∃(J:LX),a1 J/\ac=ac/\((qDGe c)/\mm2 ac (qDGk x U) (qDGh U I)=mm2 ac (qDGk x U) (qDGh U I)/\
(Yp c)/\(qDGc x)=(qDGc x)/\wr af (Zz U I)=wr af (Zz U I)/\(qDGe c)/\(qDGd c)=(qDGd c)/\(qDGc x)=(qDGc x)/\(Zfc x)/\(W0 x)=(W0 x)/\qDGg=(qDGc J)/\True)/\(qDGi x J)/\(Zfd x)/\True)/\∀(J:LX),a1 J->(decide ((qDGc J)<(W0 x))=ac->(qDGg<=(qDGc J)/\(qDGc J)+qDGl<=(W0 x))/\qDGf+ag (qDGc J)+qDGn<=aa [wr af (qDGq x)]/\∀(a0:Int),[wr af (qDGq x)][qDGf+ag (qDGc J)]? =ae a0->∃(Q:Bool->Prop),(Zd3 a0 x Q c J U I)/\(Q ac->qDGg=p/\(200:Int)=q/\True)/\(Q ab->(qDGg<=a0/\a0+qDGl<=(qDGm c))/\qDGf<=qDGf+ag a0/\qDGf+ag a0+qDGn<=aa (fI J)/\∀(a2:Int),(fI J)[qDGf+ag a0]? =ae a2->∃(x':LX),a1 x'/\x'.2+qDGn<=J.2/\ac=ac/\((qDGe c)/\mm2 ac (qDGk x U) (qDGh U I)=mm2 ac (qDGk x U) (qDGh U I)/\(Yp c)/\(qDGc x)=(qDGc x)/\wr af (Zz U I)=wr af (Zz U I)/\(qDGe c)/\(qDGd c)=(qDGd c)/\(qDGc x)=(qDGc x)/\(Zfc x)/\(W0 x)=(W0 x)/\wr af (qDGq J)=(qDGc x')/\True)/\(Zbu J a0 U I x')/\(Zfd x)/\True))/\(decide ((qDGc J)<(W0 x))=ab->∃(x':LX),R x'/\x'.2+qDGn<=x.2/\ac=ac/\(Zay c x U I x')/\(qDGi J x')/\True))/\(Q ab->∃(a1:LX->Prop),(∃(J:LX),a1 J/\ac=ac/\((qDGe c)/\mm2 ac (qDGk x U) (qDGh U I)=mm2 ac (qDGk x U) (qDGh U I)/\(Yp c)/\(qDGc x)=(qDGc x)/\wr af (Zz U I)=wr af (Zz U I)/\(qDGe c)/\(qDGd c)=(qDGd c)/\(qDGc x)=(qDGc x)/\aG au qDGf qDGf=aG au qDGf qDGf/\qDGg=qDGg/\qDGg=(qDGc J)/\True)/\(qDGi x J)/\True)/\∀(J:LX),a1 J->(decide ((qDGc J)<qDGg)=ac->False)/\(decide ((qDGc J)<qDGg)=ab->∃(x':LX),R x'/\x'.2+qDGn<=x.2/\ac=ac/\(Zay c x U I x')/\(qDGi J x')/\True))))))/\(decide ((qDGc x)<(qDGd c))=ab->(decide (jQ x>(64:Int))=ac->qDGg=p/\(2:Int)=q/\True)/\(decide (jQ x>(64:Int))=ab->jQ x=p/\qDGg=q/\True))))))))):=by kernel_rfl
theorem Z22{n k:Nat} (U:1<=k) (h2:k<n) {D:List Int} (R:D=aM k (-1)++aM (n-k) 0):
 av k D++av (n-k) (av k D)++cj (k+min (av k D).length (n-k)) D=aM (k+min k (n-k)) (-1)++aM (n-(k+min k (n-k))) 0:=by
 subst R
 have I:av k (aM k (-1:Int)++aM (n-k) 0)=aM k (-1):=List.take_left' (by simp)
 rw[I,gE,List.take_replicate]
 have J:cj (k+min k (n-k)) (aM k (-1:Int)++aM (n-k) 0)=cj (min k (n-k)) (aM (n-k) 0):=by
  rw[List.drop_append,gE,bF (by simp),show k+min k (n-k)-k=min k (n-k) by omega,dZ]
 rw[J,List.drop_replicate,List.replicate_append_replicate,Nat.min_comm (n-k) k,show n-k-min k (n-k)=n-(k+min k (n-k)) by omega]
structure RVV(c:List Ins) (x:LX):Prop where
 kr:x.k+x.r=c.length
 len:x.D.length=c.length
 lo:∀d∈x.D,-1<=d/\d<=x.k
 run:fromF c.length (c.drop x.k) x.k x.D x.m=fromF c.length c 0 (deps c) 0
structure RNV(c:List Ins) (x:LX) (after:Int) (ns:List Int) (y:LX):Prop where
 kr:y.k+y.r=ns.length
 len:y.D.length=c.length
 lo:∀d∈y.D,-1<=d/\d<=x.k+1
 run:setF c.length x.k after (ns.drop y.k) y.D=setF c.length x.k after ns x.D
theorem Yd5(op:Int):0<=(eff op).1/\(eff op).1<=2/\0<=(eff op).2/\(eff op).2<=1:=by
 unfold eff
 repeat' split
 all_goals simp
theorem Zc3{D:List Int} {j:Nat} {a lo hi:Int} (h:∀d∈D,lo<=d/\d<=hi) (J:lo<=a/\a<=hi):∀d∈D.set j a,lo<=d/\d<=hi:=by
 intro d hd;rcases iJ hd with I|I
 ·exact h d I
 ·subst I;exact J
theorem Zpo(c:List Ins):PureC E 62 [.psl .ins c ab] (.tup [.int ab .i64 (verF c).1,.int ab .i64 (verF c).2]):=by
 refine Za E_ok (Zd E_ok Yis 400) ?_;rw[Zpn];delta qDGc qDGd qDGe qDGf qDGg qDGh qDGi qDGj qDGk qDGl qDGm qDGn qDGo qDGp qDGq qDGr qDGs;unfold Zbv Zfd Zbu Zfc Zfb Zim Zil Zaz W0 Zik Zay X2 Zd3 Zz Yp;have s1:4096<c.length->verF c=(0,2):=λh=>by unfold verF;rw[if_pos h]
 have s2:c.length=0->verF c=(0,200):=λh=>by unfold verF;rw[if_neg (by omega),if_pos (.inl h)]
 have s3:c.length<=4096->c.all Z7=ab->verF c=(0,200):=λh h2=>by unfold verF;rw[if_neg (by omega),if_pos (.inr h2)]
 have s4:c.length<=4096->c.length≠0->c.all Z7=ac->verF c=endF (fromF c.length c 0 (deps c) 0):=λh h2 h3=>by unfold verF;rw[if_neg (by omega),if_neg (by simp[h2,h3])]
 generalize verF c=V at*;simp only[Yf,Z6,Wg,Wh,Wi,beq_iff_eq,bne_iff_ne,beq_eq_false_iff_ne,bne_eq_false_iff_eq,decide_eq_true_eq,decide_eq_false_iff_not,bd,bG,bi,cd,aq,cG,cx,bm,beq_self_eq_true,Yt,Yn,ne_eq,and_true,true_and,aS,aO,false_or,or_false,true_implies,bX,not_true_eq_false,not_false_eq_true,bJ,gt_iff_lt,ge_iff_le]
 refine⟨λh=> ?_,λh=>⟨λh2=> ?_,λh2=>⟨by omega,λh3=> ?_,λh3=>⟨λh4=>by omega,λh4=> ?_⟩⟩⟩⟩
 ·rw[s1 (by omega)];simp
 ·rw[s2 (by omega)];simp
 ·rw[s3 (by omega) (by simpa using h3)];simp
 have hn:c.length<=4096:=by omega
 rw[s4 hn (by omega) h3];clear s1 s2 s3 s4 V h4 h;have eU:wr .u64 (c.length:Int)=c.length:=Z21 (by omega) (by omega);have eI:wr .i64 (c.length:Int)=c.length:=wr64 (by omega) (by omega);simp only[eU,eI,bt,bk,Int.toNat_zero];refine⟨by omega,?_⟩;refine⟨λb=>b=ab,⟨λh=>by omega,λ_=>⟨λh=>by omega,λ_=>rfl⟩⟩,λh=>by simp at h,λ_=> ?_⟩;refine⟨by omega,bV _,by omega,by simp,?_⟩
 refine⟨λx=>1<=x.k/\x.k+x.r=c.length/\x.D=aM x.k (-1)++aM (c.length-x.k) 0,⟨⟨1,c.length-1,aM 1 (-1)++aM (c.length-1) 0,0⟩,⟨aw _,by show 1+(c.length-1)=_;omega,rfl⟩,?_⟩,λx hx=> ?_⟩
 ·have e:min ([-1]:List Int).length c.length=1:=by simp;omega
  rw[e];refine⟨by simp,?_⟩;have e2:av c.length [(-1:Int)]= [-1]:=bg (by simp;omega);rw[e2];simp
 obtain⟨b4,b6,hD⟩:=hx;have c0:x.D.length=c.length:=by rw[hD];simp;omega
 refine⟨λb1=>⟨by omega,λ_=>⟨by omega,by omega,by omega,?_⟩,λh=>absurd b1 h⟩,λb0=> ?_⟩
 ·have e:=Z22 b4 (by omega:x.k<c.length) hD
  have e3:(av x.k x.D).length=x.k:=by rw[be];omega
  rw[e3] at e⊢;refine⟨⟨x.k+min x.k (c.length-x.k),c.length-(x.k+min x.k (c.length-x.k)),_,0⟩,⟨by show 1<=x.k+_;omega,by show x.k+min x.k (c.length-x.k)+(c.length-(x.k+min x.k (c.length-x.k)))=_;omega,rfl⟩,by show c.length-(x.k+min x.k (c.length-x.k))+1<=x.r;omega,?_,e⟩;rw[wr64 (by omega) (by omega)];show _=((x.k+min x.k (c.length-x.k):Nat):Int);omega
 have b5:x.k=c.length:=by omega
 have hD:x.D=aM c.length (-1):=by rw[hD,b5,dY];simp
 clear b4 b6 b0;refine⟨by omega,by omega,by omega,λz hz=> ?_⟩;rw[hD] at c0⊢;clear hz hD b5;refine⟨RVV c,⟨⟨0,c.length,deps c,0⟩,⟨by show 0+c.length=_;omega,by simp[deps],?_,by simp⟩,by simp[deps]⟩,λx hR=> ?_⟩
 ·intro d hd
  rcases iJ hd with h|h
  ·rw[List.mem_replicate] at h;show-1<=d/\d<=0;omega
  ·show-1<=d/\d<=0;omega
 have b7:=hR.len;refine⟨λb1=>⟨by omega,by omega,λI b8=>⟨by omega,by omega,λx3 b9=> ?_⟩⟩,λb0=> ?_⟩
 ·have hb:=hR.lo x3 (aI b9)
  have he:=Yd5 I.op;have b6:=hR.kr;have a4:x.D.getD x.k 0=x3:=by simp[bu,b9]
  have c1:c.drop x.k=I::c.drop (x.k+1):=by
   obtain⟨h1,rfl⟩:=ak.1 b8;exact cr h1
  have a0:=hR.run;rw[c1] at a0;simp only[fromF] at a0;have c2:Z7 I=true:=fB.1 h3 I (aI b8);have eK:wr .i64 ((x.k:Int)+1)=x.k+1:=wr64 (by omega) (by omega);have eA:wr .i64 (wr .i64 (x3-(eff I.op).1)+(eff I.op).2)=x3-(eff I.op).1+(eff I.op).2:=by
   have e0:wr .i64 (x3-(eff I.op).1)=x3-(eff I.op).1:=wr64 (by omega) (by omega);rw[e0];exact wr64 (by omega) (by omega)
  simp only[eK,eA,Yt];refine⟨λa2=> ?_,λa2=> ?_⟩
  ·have a5:rndF c.length x.k I x.D x.m=ae (x.D,x.m):=by unfold rndF;rw[a4,if_pos a2]
   rw[a5] at a0;exact⟨⟨x.k+1,x.r-1,x.D,x.m⟩,⟨by show x.k+1+(x.r-1)=_;omega,b7,λd hd=>by have:=hR.lo d hd;show-1<=d/\d<=((x.k+1:Nat):Int);omega,a0⟩,by show x.r-1+1<=x.r;omega,by simp⟩
  refine⟨λb=>(b=ac↔(x3<(eff I.op).1\/(I.op=15/\x3≠1)\/(I.op=16/\x3≠0))),?_,λJ=> ?_,λJ=> ?_⟩
  ·repeat' (first|(refine aB ?_ ?_)|(intro h))
   all_goals simp
   all_goals omega
  ·have J:=J.1 rfl
   have a9:rndF c.length x.k I x.D x.m=none:=by unfold rndF;rw[a4,if_neg a2,if_pos J]
   rw[a9] at a0;rw[<-a0];simp[endF]
  ·have a8:¬(x3<(eff I.op).1\/(I.op=15/\x3≠1)\/(I.op=16/\x3≠0)):=λh=>absurd (J.2 h) (by simp)
   clear J;refine⟨λb=>(b=ac↔(I.op=13\/I.op=14)),?_,λJ=> ?_,λJ=> ?_⟩
   ·repeat' (first|(refine aB ?_ ?_)|(intro h))
    all_goals simp
    all_goals omega
   ·have J:=J.1 rfl
    refine⟨λb=>(b=ac↔(I.op≠14/\I.op≠15/\I.op≠16)),?_,λa1=> ?_,λa1=> ?_⟩
    ·repeat' (first|(refine aB ?_ ?_)|(intro h))
     all_goals simp
     all_goals omega
    ·have a1:=a1.1 rfl
     have a3:Zes x.k I= [I.n,(x.k:Int)+1]:=by unfold Zes;rw[if_neg (by omega),if_neg (by omega),if_pos (by omega)]
     simp only[aD,bh,bk,List.take_succ_cons,eV,dc,dZ];refine⟨by omega,?_⟩;refine⟨RNV c x (x3-(eff I.op).1+(eff I.op).2) [I.n,(x.k:Int)+1],⟨⟨0,2,x.D,0⟩,⟨rfl,hR.len,λd hd=>⟨(hR.lo d hd).1,by have:=(hR.lo d hd).2;omega⟩,rfl⟩,by simp⟩,λy U=>⟨λb1=> ?_,λb0=> ?_⟩⟩
     ·have a6:y.k<([I.n,(x.k:Int)+1]).length:=by simp only[aD,bh];omega
      refine⟨by omega,by first|omega|(simp only[aD,bh];omega),λn b3=> ?_⟩;have b2:([I.n,(x.k:Int)+1]).drop y.k=n::([I.n,(x.k:Int)+1]).drop (y.k+1):=by
       obtain⟨h1,rfl⟩:=ak.1 b3;exact cr h1
      have R:=U.run;rw[b2] at R;generalize hS:setF c.length x.k (x3-(eff I.op).1+(eff I.op).2) [I.n,(x.k:Int)+1] x.D=SF at R;simp only[setF] at R;refine⟨λb=>(b=ac↔(n<=x.k\/(c.length:Int)<=n\/(0<=y.D.getD n.toNat 0/\y.D.getD n.toNat 0≠x3-(eff I.op).1+(eff I.op).2))),?_,λJ=> ?_,λJ=> ?_⟩
      ·refine⟨λh=>by simp[h],λh=>⟨λh'=>by simp[h'],λh'=>⟨by omega,by rw[U.len];omega,λz hz=> ?_⟩⟩⟩
       have hg:y.D.getD n.toNat 0=z:=by simp[bu,hz]
       rw[hg];refine⟨λh0=>⟨by omega,by rw[U.len];omega,λz2 a7=> ?_⟩,λh0=>by simp;omega⟩;rw[hz] at a7;cases a7;exact⟨λh1=>by simp;omega,λh1=>by simp;omega⟩
      ·have J:=J.1 rfl
       rw[if_pos J] at R;have a9:rndF c.length x.k I x.D x.m=none:=by
        unfold rndF;rw[a4,if_neg a2,if_neg a8,a3,hS,<-R]
       rw[a9] at a0;rw[<-a0];simp[endF]
      ·have J:¬(n<=x.k\/(c.length:Int)<=n\/(0<=y.D.getD n.toNat 0/\y.D.getD n.toNat 0≠x3-(eff I.op).1+(eff I.op).2)):=λh=>by simp at J;exact absurd h (by simpa using J)
       rw[if_neg J] at R;refine⟨by omega,bb _,by rw[U.len];omega,λz hz=> ?_⟩;refine⟨⟨y.k+1,y.r-1,y.D.set n.toNat (x3-(eff I.op).1+(eff I.op).2),0⟩,⟨by have:=U.kr;show y.k+1+(y.r-1)=_;omega,by simp[U.len],Zc3 U.lo (by omega),R.trans hS.symm⟩,by have:=U.kr;show y.r-1+1<=y.r;omega,?_⟩;rw[wr64 (by omega) (by omega)];simp
     ·have a6:([I.n,(x.k:Int)+1]).drop y.k= []:=bF (by simp only[aD,bh];omega)
      have R:=U.run;rw[a6] at R;generalize hS:setF c.length x.k (x3-(eff I.op).1+(eff I.op).2) [I.n,(x.k:Int)+1] x.D=SF at R;simp only[setF] at R;have a5:rndF c.length x.k I x.D x.m=ae (y.D,max (max x.m x3) (x3-(eff I.op).1+(eff I.op).2)):=by
       unfold rndF;rw[a4,if_neg a2,if_neg a8,a3,hS,<-R]
      rw[a5] at a0;refine⟨⟨x.k+1,x.r-1,y.D,_⟩,⟨by have:=hR.kr;show x.k+1+(x.r-1)=_;omega,U.len,λd hd=>by have:=U.lo d hd;show-1<=d/\d<=((x.k+1:Nat):Int);omega,a0⟩,by have:=hR.kr;show x.r-1+1<=x.r;omega,?_⟩;simp
    ·have a1:¬(I.op≠14/\I.op≠15/\I.op≠16):=λh=>absurd (a1.2 h) (by simp)
     have a3:Zes x.k I= [I.n]:=by unfold Zes;rw[if_neg (by omega),if_pos (by omega)]
     simp only[aD,bh,bk];refine⟨RNV c x (x3-(eff I.op).1+(eff I.op).2) [I.n],⟨⟨0,1,x.D,0⟩,⟨rfl,hR.len,λd hd=>⟨(hR.lo d hd).1,by have:=(hR.lo d hd).2;omega⟩,rfl⟩,by simp⟩,λy U=>⟨λb1=> ?_,λb0=> ?_⟩⟩
     ·have a6:y.k<([I.n]).length:=by simp only[aD,bh];omega
      refine⟨by omega,by first|omega|(simp only[aD,bh];omega),λn b3=> ?_⟩;have b2:([I.n]).drop y.k=n::([I.n]).drop (y.k+1):=by
       obtain⟨h1,rfl⟩:=ak.1 b3;exact cr h1
      have R:=U.run;rw[b2] at R;generalize hS:setF c.length x.k (x3-(eff I.op).1+(eff I.op).2) [I.n] x.D=SF at R;simp only[setF] at R;refine⟨λb=>(b=ac↔(n<=x.k\/(c.length:Int)<=n\/(0<=y.D.getD n.toNat 0/\y.D.getD n.toNat 0≠x3-(eff I.op).1+(eff I.op).2))),?_,λJ=> ?_,λJ=> ?_⟩
      ·refine⟨λh=>by simp[h],λh=>⟨λh'=>by simp[h'],λh'=>⟨by omega,by rw[U.len];omega,λz hz=> ?_⟩⟩⟩
       have hg:y.D.getD n.toNat 0=z:=by simp[bu,hz]
       rw[hg];refine⟨λh0=>⟨by omega,by rw[U.len];omega,λz2 a7=> ?_⟩,λh0=>by simp;omega⟩;rw[hz] at a7;cases a7;exact⟨λh1=>by simp;omega,λh1=>by simp;omega⟩
      ·have J:=J.1 rfl
       rw[if_pos J] at R;have a9:rndF c.length x.k I x.D x.m=none:=by
        unfold rndF;rw[a4,if_neg a2,if_neg a8,a3,hS,<-R]
       rw[a9] at a0;rw[<-a0];simp[endF]
      ·have J:¬(n<=x.k\/(c.length:Int)<=n\/(0<=y.D.getD n.toNat 0/\y.D.getD n.toNat 0≠x3-(eff I.op).1+(eff I.op).2)):=λh=>by simp at J;exact absurd h (by simpa using J)
       rw[if_neg J] at R;refine⟨by omega,bb _,by rw[U.len];omega,λz hz=> ?_⟩;refine⟨⟨y.k+1,y.r-1,y.D.set n.toNat (x3-(eff I.op).1+(eff I.op).2),0⟩,⟨by have:=U.kr;show y.k+1+(y.r-1)=_;omega,by simp[U.len],Zc3 U.lo (by omega),R.trans hS.symm⟩,by have:=U.kr;show y.r-1+1<=y.r;omega,?_⟩;rw[wr64 (by omega) (by omega)];simp
     ·have a6:([I.n]).drop y.k= []:=bF (by simp only[aD,bh];omega)
      have R:=U.run;rw[a6] at R;generalize hS:setF c.length x.k (x3-(eff I.op).1+(eff I.op).2) [I.n] x.D=SF at R;simp only[setF] at R;have a5:rndF c.length x.k I x.D x.m=ae (y.D,max (max x.m x3) (x3-(eff I.op).1+(eff I.op).2)):=by
       unfold rndF;rw[a4,if_neg a2,if_neg a8,a3,hS,<-R]
      rw[a5] at a0;refine⟨⟨x.k+1,x.r-1,y.D,_⟩,⟨by have:=hR.kr;show x.k+1+(x.r-1)=_;omega,U.len,λd hd=>by have:=U.lo d hd;show-1<=d/\d<=((x.k+1:Nat):Int);omega,a0⟩,by have:=hR.kr;show x.r-1+1<=x.r;omega,?_⟩;simp
   ·have J:¬(I.op=13\/I.op=14):=λh=>absurd (J.2 h) (by simp)
    refine⟨λb=>(b=ac↔(I.op≠14/\I.op≠15/\I.op≠16)),?_,λa1=> ?_,λa1=> ?_⟩
    ·repeat' (first|(refine aB ?_ ?_)|(intro h))
     all_goals simp
     all_goals omega
    ·have a1:=a1.1 rfl
     have a3:Zes x.k I= [(x.k:Int)+1]:=by unfold Zes;rw[if_neg (by omega),if_neg (by omega),if_neg (by omega)]
     simp only[aD,bh,bk];refine⟨RNV c x (x3-(eff I.op).1+(eff I.op).2) [(x.k:Int)+1],⟨⟨0,1,x.D,0⟩,⟨rfl,hR.len,λd hd=>⟨(hR.lo d hd).1,by have:=(hR.lo d hd).2;omega⟩,rfl⟩,by simp⟩,λy U=>⟨λb1=> ?_,λb0=> ?_⟩⟩
     ·have a6:y.k<([(x.k:Int)+1]).length:=by simp only[aD,bh];omega
      refine⟨by omega,by first|omega|(simp only[aD,bh];omega),λn b3=> ?_⟩;have b2:([(x.k:Int)+1]).drop y.k=n::([(x.k:Int)+1]).drop (y.k+1):=by
       obtain⟨h1,rfl⟩:=ak.1 b3;exact cr h1
      have R:=U.run;rw[b2] at R;generalize hS:setF c.length x.k (x3-(eff I.op).1+(eff I.op).2) [(x.k:Int)+1] x.D=SF at R;simp only[setF] at R;refine⟨λb=>(b=ac↔(n<=x.k\/(c.length:Int)<=n\/(0<=y.D.getD n.toNat 0/\y.D.getD n.toNat 0≠x3-(eff I.op).1+(eff I.op).2))),?_,λJ=> ?_,λJ=> ?_⟩
      ·refine⟨λh=>by simp[h],λh=>⟨λh'=>by simp[h'],λh'=>⟨by omega,by rw[U.len];omega,λz hz=> ?_⟩⟩⟩
       have hg:y.D.getD n.toNat 0=z:=by simp[bu,hz]
       rw[hg];refine⟨λh0=>⟨by omega,by rw[U.len];omega,λz2 a7=> ?_⟩,λh0=>by simp;omega⟩;rw[hz] at a7;cases a7;exact⟨λh1=>by simp;omega,λh1=>by simp;omega⟩
      ·have J:=J.1 rfl
       rw[if_pos J] at R;have a9:rndF c.length x.k I x.D x.m=none:=by
        unfold rndF;rw[a4,if_neg a2,if_neg a8,a3,hS,<-R]
       rw[a9] at a0;rw[<-a0];simp[endF]
      ·have J:¬(n<=x.k\/(c.length:Int)<=n\/(0<=y.D.getD n.toNat 0/\y.D.getD n.toNat 0≠x3-(eff I.op).1+(eff I.op).2)):=λh=>by simp at J;exact absurd h (by simpa using J)
       rw[if_neg J] at R;refine⟨by omega,bb _,by rw[U.len];omega,λz hz=> ?_⟩;refine⟨⟨y.k+1,y.r-1,y.D.set n.toNat (x3-(eff I.op).1+(eff I.op).2),0⟩,⟨by have:=U.kr;show y.k+1+(y.r-1)=_;omega,by simp[U.len],Zc3 U.lo (by omega),R.trans hS.symm⟩,by have:=U.kr;show y.r-1+1<=y.r;omega,?_⟩;rw[wr64 (by omega) (by omega)];simp
     ·have a6:([(x.k:Int)+1]).drop y.k= []:=bF (by simp only[aD,bh];omega)
      have R:=U.run;rw[a6] at R;generalize hS:setF c.length x.k (x3-(eff I.op).1+(eff I.op).2) [(x.k:Int)+1] x.D=SF at R;simp only[setF] at R;have a5:rndF c.length x.k I x.D x.m=ae (y.D,max (max x.m x3) (x3-(eff I.op).1+(eff I.op).2)):=by
       unfold rndF;rw[a4,if_neg a2,if_neg a8,a3,hS,<-R]
      rw[a5] at a0;refine⟨⟨x.k+1,x.r-1,y.D,_⟩,⟨by have:=hR.kr;show x.k+1+(x.r-1)=_;omega,U.len,λd hd=>by have:=U.lo d hd;show-1<=d/\d<=((x.k+1:Nat):Int);omega,a0⟩,by have:=hR.kr;show x.r-1+1<=x.r;omega,?_⟩;simp
    ·have a1:¬(I.op≠14/\I.op≠15/\I.op≠16):=λh=>absurd (a1.2 h) (by simp)
     have a3:Zes x.k I= []:=by unfold Zes;rw[if_pos (by omega)]
     have a5:rndF c.length x.k I x.D x.m=ae (x.D,max (max x.m x3) (x3-(eff I.op).1+(eff I.op).2)):=by
      unfold rndF;rw[a4,if_neg a2,if_neg a8,a3];rfl
     rw[a5] at a0;refine⟨λy=>y.D=x.D,⟨⟨0,0,x.D,0⟩,rfl,by simp⟩,λy U=>⟨λh=>by omega,λ_=> ?_⟩⟩;refine⟨⟨x.k+1,x.r-1,x.D,_⟩,⟨by show x.k+1+(x.r-1)=_;omega,b7,λd hd=>by have:=hR.lo d hd;show-1<=d/\d<=((x.k+1:Nat):Int);omega,a0⟩,by show x.r-1+1<=x.r;omega,?_⟩;simp[U]
 ·have a0:=hR.run
  rw[bF (by omega)] at a0;simp only[fromF] at a0;rw[<-a0];refine⟨λh=> ?_,λh=> ?_⟩
  ·simp[endF,h]
  ·simp[endF,h]
end
section
open Go
noncomputable def dClk:DcL E (Cls×Int×Unit):= .cons (dR .clauses:Dc E (thy.dom bq)) (.cons (dInt .i64) .nil)
noncomputable def Scl:Sum thy:=sumB E dx dClk (λ(l:List Ins) x=>ClP x.1 x.2.1.toNat l/\0<=x.2.1) λ(l:List Ins) x=>l++cdC x.1 x.2.1.toNat l.length
theorem Yik:SumOk E 60 Scl:=Zez E_ok (Zc rfl) λx=>by
 have h:=Yi9 x.1 x.2.1.toNat;refine⟨λl fz J I=> ?_,λI=> ?_⟩
 ·have:=h.1 l fz J I.1
  rw[jz I.2] at this;exact this
 ·have:=h.2 I.1
  rw[jz I.2] at this;exact this
noncomputable def Yil:Dc E (List Ins):=(Ze4 (E:=E) dx:Dc E (List (thy.dom dx)))
noncomputable def Yim:Sum thy:=Zql E (λ_=>au) 10 (sumP (dA1 Yil) (λ_=>True) λx=> .tup [.int ab .i64 (verF x.1).1,.int ab .i64 (verF x.1).2])
theorem Z8s:SumOk E 62 Yim:=Zje E_ok (Yg E_ok (Zc (f:=62) rfl) λx _=>Zpo x.1)
structure CpX where
 k:Nat
 r:Nat
 L:List Ins
noncomputable def Acp:Fr thy->Hp thy->Nat->Ann thy:=λT h i=>{X:=Bool×CpX,fr:=λx=> [(4,T 4),(13,T 13),(14,T 14),(15,.int ab .i64 x.2.k)],bl:=λx=>(bOf (T 4),.raw [match x.1 with|true=> .sl i 0 x.2.L.length 3 au|false=> .val (.slice au 0 0)] 0 au)::(match x.1 with|true=> [(i,.rows dx x.2.L 0)]|false=> []),src:=λx=>(match x.1 with|true=> [(i,1004)]|false=> []),md:= [bOf (T 4)],ih:=i+1,M:=i+60,meas:=λx=>x.2.r,ex:=ex2,al:=al2,exOk:=Ziy,alOk:=Ziz}
def Zsk(F:Fns thy):Fns thy:={F with defs:=λ_=>ab}
theorem Zkt{E':Eng thy} {F:Fns thy} (h:FnsOk E' F):FnsOk E' (Zsk F):=⟨h.sumG,h.fnG,h.sum,h.fn,h.loop⟩
noncomputable def Fcp:Fns thy:=Zsk (addL (addS (addS (addS F0 60 Scl) 53 Z4h) 62 Yim) 25 6 Acp E)
abbrev qDH1(I:Cls):=(bU (aJ (aA I)) (bW (aA I)) (bx (aA I)) (bA (aA I)) (bB (aA I)) (bC (aA I)) (bw (aA I)))
abbrev qDH3(I:Tar):=(↑(aa (ar I)):Int)
abbrev qDH5:=(0:Nat)
abbrev qDH4(I:CpX):=(↑(CpX.k I):Int)
abbrev qDH2(I:Tar) (J:CpX) (R:CpX):=(qDH5=qDH5/\(ar I=ar I/\(ab=ac->ab=ac))/\(qDH3 I)=(qDH3 I)/\wr af ((qDH4 J)+(1:Int))=(qDH4 R)/\True)
abbrev qDHa:=(1:Nat)
abbrev qDH6(I:CpX):=(aa (CpX.L I)+qDHa)
abbrev qDH9:=(0:Int)
abbrev qDH7:=(aE (verF (av qDHa (cj qDH5 [dq (16:Int) qDH9 qDH9]))) !=qDH9)
abbrev qDH8(I:Cls):=(eP (aP I) (aV I) (qDH1 I))
theorem Zpd(t:Tar) (l:List Ins) (e:Int):Zk E Fcp (vc E Fcp 400) 25 [.agg (encF ab .tariffs t)] hp0 0 (λr=>ret E (patch hp0 0 r) r.v (.tup [.psl dx l ab,.int ab .i64 e]))=(
 ((∀(c:Cls),c∈ar t->Ex.sz (aA c)+qDHa<=(1000000000000:Nat)/\aa (aV c)+qDHa<=(1000000000000:Nat))/\aa (ar t)+qDHa<=(1000000000000:Nat))/\((Z9 t !=qDH9)=ac->l= []/\Z9 t=e/\True)/\((Z9 t !=qDH9)=ab->∃(R:Bool×CpX->Prop),((∃(y:CpX),R (ab,y)/\ac=ac/\(qDH5=qDH5/\(ar t=ar t/\(ab=ac->ab=ac))/\(qDH3 t)=(qDH3 t)/\qDH9=(qDH4 y)/\True)/\(aG au qDH5 qDH5=aG au qDH5 qDH5/\True)/\True)\/∃(y:CpX),R (ac,y)/\ac=ac/\False)/\(∀(y:CpX),R (ab,y)->(decide ((qDH4 y)<(qDH3 t))=ac->qDH9<=(qDH4 y)/\(qDH4 y)+(1:Int)<=(qDH3 t)/\∀(x:Cls),(ar t)[ag (qDH4 y)]? =ae x->((Ex.sz (qDH1 x)+qDHa<=(1000000000:Nat)/\Zn (qDH1 x)=ac/\qDH5+aa (cdC (qDH8 x) (ag (qDH4 y)) qDH5)<=(1000000000:Nat)/\aa (aV x)<=(8:Nat))/\qDH9<=(qDH4 y))/\∀(J:List Ins),J= []++cdC (qDH8 x) (ag (qDH4 y)) qDH5->(∃(I:CpX),R (ab,I)/\I.2+qDHa<=y.2/\ac=ac/\(qDH2 t y I)/\(False/\True)/\True)\/∃(I:CpX),R (ac,I)/\I.2+qDHa<=y.2/\ac=ac/\(qDH2 t y I)/\((qDH5=qDH5/\aa J=aa (CpX.L I)/\True)/\True)/\(J=CpX.L I/\fzO (au:Option (List Ins×Nat))=qDH5)/\True)/\(decide ((qDH4 y)<(qDH3 t))=ab->qDH5+qDHa<=qDHa/\True/\(qDH7=ac->l= []/\(2:Int)=e/\True)/\(qDH7=ab->(qDH5+qDHa<=qDHa/\av qDHa [dq (16:Int) qDH9 qDH9]=l)/\qDH9=e/\True)))/\∀(y:CpX),R (ac,y)->(decide ((qDH4 y)<(qDH3 t))=ac->qDH9<=(qDH4 y)/\(qDH4 y)+(1:Int)<=(qDH3 t)/\∀(x:Cls),(ar t)[ag (qDH4 y)]? =ae x->(aa (CpX.L y)=aa (CpX.L y)/\qDH5<=aa (CpX.L y)/\(Ex.sz (qDH1 x)+qDHa<=(1000000000:Nat)/\Zn (qDH1 x)=ac/\aa (CpX.L y)+aa (cdC (qDH8 x) (ag (qDH4 y)) (aa (CpX.L y)))<=(1000000000:Nat)/\aa (aV x)<=(8:Nat))/\qDH9<=(qDH4 y))/\∀(J:List Ins),J=CpX.L y++cdC (qDH8 x) (ag (qDH4 y)) (aa (CpX.L y))->(∃(I:CpX),R (ab,I)/\I.2+qDHa<=y.2/\ac=ac/\(qDH2 t y I)/\(False/\True)/\True)\/∃(I:CpX),R (ac,I)/\I.2+qDHa<=y.2/\ac=ac/\(qDH2 t y I)/\((qDH5=qDH5/\aa J=aa (CpX.L I)/\True)/\True)/\(J=CpX.L I/\fzO (ae (CpX.L y,qDH5))=qDH5)/\True)/\(decide ((qDH4 y)<(qDH3 t))=ab->(aa (CpX.L y)<=aa (CpX.L y)/\qDH5<=aa (CpX.L y)/\(qDH6 y)*(24:Nat)<=(140737488355328:Nat))/\∀(J:List Ins),J=av (aa (CpX.L y)) (CpX.L y)++ [dq (16:Int) qDH9 qDH9]->qDH5+(qDH6 y)<=aa J/\True/\((aE (verF (av (qDH6 y) (cj qDH5 J))) !=qDH9)=ac->l= []/\(2:Int)=e/\True)/\((aE (verF (av (qDH6 y) (cj qDH5 J))) !=qDH9)=ab->(qDH5+(qDH6 y)<=aa J/\av (qDH6 y) J=l)/\qDH9=e/\True)))):=by kernel_rfl
theorem Yin:FnsOk E Fcp:=Zkt (Zm E_ok (Zb (Zb (Zb F0_ok Yik) Zp2) Z8s) _ _ _)
theorem Zpe(t:Tar) (h:SmK t):PureC E 25 [.agg (encF ab .tariffs t)] (.tup [.psl dx (Yc t).1 ab,.int ab .i64 (Yc t).2]):=by
 refine Za E_ok (Zd E_ok Yin 400) ?_;rw[Zpd];delta qDH1 qDH3 qDH5 qDH4 qDH2 qDHa qDH6 qDH9 qDH7 qDH8;obtain⟨h1,h2⟩:=h;simp only[Cls.eta,Ex.eta];refine⟨⟨λc I=>⟨by have:=(h1 c I).1;omega,by have:=(h1 c I).2;omega⟩,by omega⟩,λhn=> ?_,λhz=> ?_⟩
 ·have hn:Z9 t≠0:=by simpa using hn
  unfold Yc;rw[if_neg hn];exact⟨rfl,rfl,trivial⟩
 ·have hz:Z9 t=0:=by simpa using hz
  obtain⟨c1,c2,c3⟩:=Ycp hz;have a0:∀c∈t.clauses,Zn c.pay=ac/\c.pay.sz<=10000/\c.when_.length<=8:=λc I=>⟨(c1 c I).1,(h1 c I).1,c3 c I⟩;have a1:∀k,(cdCs (t.clauses.take k) 0 0).length<=30025*64:=λk=>by
   have a:=Zub (k:=0) (o:=0) (λc I=>a0 c (List.mem_of_mem_take I):∀c∈t.clauses.take k,_);have b:(t.clauses.take k).length<=64:=by rw[be];omega
   have e:(3*10000+25)*(t.clauses.take k).length<=(3*10000+25)*64:=Nat.mul_le_mul_left _ b;omega
  have a2:∀k c,t.clauses[k]? =ae c->cdCs (t.clauses.take (k+1)) 0 0=cdCs (t.clauses.take k) 0 0++cdC c k (cdCs (t.clauses.take k) 0 0).length:=λk c I=>by
   have ek:t.clauses.take (k+1)=t.clauses.take k++ [c]:=by rw[cz,I];rfl
   have hk:k<t.clauses.length:=(ak.1 I).1;have el:0+(t.clauses.take k).length=k:=by rw[be];omega
   rw[ek,Zua,el,bk]
  have vr:=Z80 c1 c2;have f1:((verF (cdT t)).2 !=0)=ac->(Yc t).1= []/\(2:Int)=(Yc t).2/\True:=by
   intro q;rw[vr] at q;unfold Yc;rw[if_pos hz];by_cases g:4096<(cdT t).length\/64<dCs t.clauses
   ·rw[if_pos g];exact⟨rfl,rfl,trivial⟩
   ·rw[if_neg g] at q;simp at q
  have f2:((verF (cdT t)).2 !=0)=ab->cdT t=(Yc t).1/\(0:Int)=(Yc t).2:=by
   intro q;rw[vr] at q;unfold Yc;rw[if_pos hz];by_cases g:4096<(cdT t).length\/64<dCs t.clauses
   ·rw[if_pos g] at q;simp at q
   ·rw[if_neg g];exact⟨rfl,rfl⟩
  refine⟨λy=>y.2.k<=t.clauses.length/\y.2.L=cdCs (t.clauses.take y.2.k) 0 0/\y.2.r=t.clauses.length-y.2.k/\(y.1=ab->y.2.k=0),.inl ⟨⟨0,t.clauses.length,[]⟩,⟨bb _,rfl,rfl,λ_=>rfl⟩,by simp⟩,?_,?_⟩
  ·rintro⟨k,r,L⟩ ⟨k1,U,k3,k4⟩
   simp only at k1 U k3 k4⊢;obtain rfl:=k4 trivial;refine⟨λq=>⟨by omega,by have:=of_decide_eq_true q;omega,λc I=> ?_⟩,λq=> ?_⟩
   ·have q:=of_decide_eq_true q
    have I:t.clauses[0]? =ae c:=I;have hm:=a0 c (aI I);have R:=a2 0 c I;have hl:=a1 (0+1);rw[R] at hl;have e0:cdCs (t.clauses.take 0) 0 0= []:=rfl;rw[e0] at R hl;have hl:(cdC c 0 0).length<=30025*64:=by simpa using hl
    refine⟨⟨⟨by omega,hm.1,?_,hm.2.2⟩,by omega⟩,λJ el=> .inr ⟨⟨1,t.clauses.length-1,J⟩,⟨by dsimp only;omega,by rw[el];exact R.symm,rfl,λe=>by cases e⟩,(by show t.clauses.length-1+1<=r;omega),?_⟩⟩
    ·show 0+(cdC c 0 0).length<=1000000000
     omega
    ·have w1:wr .i64 (1:Int)=1:=by decide
     simp[w1,fzO]
   ·have q:=of_decide_eq_false q
    have n0:t.clauses= []:=iN.1 (by omega);have e:av 1 (cj 0 [dq (16:Int) 0 0])=cdT t:=by unfold cdT;rw[n0];rfl
    have e':av 1 [dq (16:Int) 0 0]=cdT t:=e;rw[e,e'];exact⟨by omega,trivial,f1,λq=>⟨⟨by omega,(f2 q).1⟩,(f2 q).2,trivial⟩⟩
  ·rintro⟨k,r,L⟩ ⟨k1,U,k3,k4⟩
   simp only at k1 U k3 k4⊢;have a3:=a1 k;rw[<-U] at a3;refine⟨λq=>⟨by omega,by have:=of_decide_eq_true q;omega,λc I=> ?_⟩,λq=> ?_⟩
   ·have q:=of_decide_eq_true q
    have I:t.clauses[k]? =ae c:=I;have hm:=a0 c (aI I);have R:=a2 k c I;have hl:=a1 (k+1);rw[R,<-U,aC] at hl;rw[<-U] at R;have tk:ag (↑k:Int)=k:=by omega
    rw[tk];refine⟨⟨by simp,bb _,⟨by omega,hm.1,by omega,hm.2.2⟩,by omega⟩,λJ el=> .inr ⟨⟨k+1,t.clauses.length-(k+1),J⟩,⟨by dsimp only;omega,by rw[el];exact R.symm,rfl,λe=>by cases e⟩,(by show t.clauses.length-(k+1)+1<=r;omega),?_⟩⟩;have w1:wr .i64 ((↑k:Int)+1)=↑(k+1):=(wr64 (by omega) (by omega)).trans (by omega);simp[w1,fzO]
   ·have q:=of_decide_eq_false q
    obtain rfl:k=t.clauses.length:=by omega
    refine⟨⟨aw _,bb _,by omega⟩,λJ el=> ?_⟩;rw[aW] at el;have e:J=cdT t:=by rw[el,U,aW];rfl
    have nl:J.length=L.length+1:=by rw[el];simp
    have e2:av (L.length+1) (cj 0 J)=cdT t:=by rw[List.drop_zero,<-nl,aW,e]
    have e3:av (L.length+1) J=cdT t:=e2;rw[e2,e3];exact⟨by omega,trivial,f1,λq=>⟨⟨by omega,(f2 q).1⟩,(f2 q).2,trivial⟩⟩
end
section
open Go
theorem Yer{R:List Nat} {ts:List Tst} {l:List Tok} {e:Int} {c:Cls} {x:PX} (h:pPay R ts l e= .ok (c,x)):c.pay.sz<=2*l.length:=by
 unfold pPay at h;split at h
 ·rename_i I
  have U:=Z3 I;split at h
  ·cases h
  ·rename_i y z J
   have:=Zt2 _ _ _ _ J;split at h
   ·cases h
   ·split at h
    ·cases h
     show y.sz<=_;omega
    ·cases h
 ·cases h
theorem Z3l:∀{k:Nat} {more:Bool} {ts I:List Tst} {l:List Tok} {e:Int} {x:PX},pTs k more ts l e= .ok (I,x)->I.length<=ts.length+k
 |0,more,ts,I,l,e,x,h=>by cases h;exact aw _
 |k+1,more,ts,I,l,e,x,h=>by
  unfold pTs at h
  split at h
  ·split at h
   ·cases h
   ·have:=Z3l h
    rw[aC] at this
    exact bQ this (by simp;omega)
  ·cases h;omega
theorem Yes{I:List Nat} {ts:List Tst} {l:List Tok} {e:Int} {c:Cls} {x:PX} (h:pPay I ts l e= .ok (c,x)):c.when_=ts:=by
 unfold pPay at h;split at h
 ·split at h
  ·cases h
  ·split at h
   ·cases h
   ·split at h
    ·cases h;rfl
    ·cases h
 ·cases h
theorem Zyf{bs:List Cls} {l:List Tok} {e:Int} {c:Cls} {x:PX} (h:Xu bs l e= .ok (c,x)):c.pay.sz<=2*l.length/\c.when_.length<=10:=by
 unfold Xu at h;split at h
 ·cases h
 ·rename_i nm y R
  have U:=Zbg R;split at h
  ·cases h
  ·unfold pAft at h
   split at h
   ·cases h
   ·rename_i ts z I
    have h2:=Ztt I;have h3:=Yer h;have h4:=Zws (s:= [119,104,101,110]) (l:=y.1);have J:=Z3l I;rw[Yes h];exact⟨by omega,by simpa using J⟩
theorem Z3m{M:Nat}:∀{k:Nat} {cs I:List Cls} {l:List Tok} {e:Int} {x:PX},(∀c∈cs,c.pay.sz<=2*M/\c.when_.length<=10)->cs.length<=64->l.length<=M->pCls k cs l e= .ok (I,x)->(∀c∈I,c.pay.sz<=2*M/\c.when_.length<=10)/\I.length<=64
 |0,cs,I,l,e,x,J,R,_,h=>by cases h;exact⟨J,R⟩
 |k+1,cs,I,l,e,x,J,R,hl,h=>by
  unfold pCls at h
  split at h
  ·rename_i hw
   have a0:=Z3 hw
   split at h
   ·cases h
   ·rename_i hn
    split at h
    ·cases h
    ·rename_i c y U
     have h1:=Zyf U
     have h2:=Zdc U
     refine Z3m (cs:=cs++ [c]) (λd hd=> ?_) (by rw[aC];simp;omega) (by omega) h
     rcases bS.1 hd with hd|hd
     ·exact J d hd
     ·rw[bZ.1 hd];omega
  ·cases h;exact⟨J,R⟩
theorem Yet{l:List Tok} {e:Int} {t:Tar} {x:PX} (h:pTar l e= .ok (t,x)):(∀c∈t.clauses,c.pay.sz<=2*l.length/\c.when_.length<=10)/\t.clauses.length<=64:=by
 unfold pTar at h;split at h
 ·rename_i hw
  have h1:=Z3 hw;split at h
  ·cases h
  ·rename_i nm y hn
   have h2:=Zbg hn;split at h
   ·rename_i a0
    have h3:=Z3 a0;split at h
    ·cases h
    ·rename_i k z U
     have I:=Zbh U;split at h
     ·rename_i a1
      have h5:=Z3 a1;unfold pEnd at h;split at h
      ·cases h
      ·rename_i cs w R
       split at h
       ·split at h
        ·cases h
        ·cases h
         have h6:z.1.length<=y.1.length:=by rw[I.2.2];simp;omega
         exact Z3m (M:=l.length) (λc J=>by cases J) (bb _) (by omega) R
       ·cases h
     ·cases h
   ·cases h
 ·cases h
theorem Zvi(s:List Nat):SmT (Wd s).1:=by
 have I:SmT zT:=by
  refine aB (λc U=> ?_) ?_
  ·cases U
  ·decide
 unfold Wd;split
 ·exact I
 ·have hl:=Zjh s
  cases h:pTar (Xn s).1 (s.length:Int) with
  |error er=>exact I
  |ok y=>
   obtain⟨t,x⟩:=y;obtain⟨J,h2⟩:=Yet h;exact⟨λc R=>⟨by have:=(J c R).1;omega,by have:=(J c R).2;omega⟩,by show t.clauses.length<_;omega⟩
end
section
open Go
noncomputable def Z24:DcL E (Tar×Unit):= .cons (dR .tariffs) .nil
def SmE(t:Tar):Prop:=(∀c∈t.clauses,c.pay.sz<=10000/\c.when_.length<1000000000)/\t.clauses.length<1000000000
noncomputable def SprE:Sum thy:=Zca E (λ_=>au) 10 Z24 (λx=>SmE x.1) (λx=>U6 x.1) λy=> .tup [.str ab y.1,.int ab .i64 y.2]
theorem Yd7:SumOk E 23 SprE:=Xa E_ok (Zc (f:=23) rfl) λx h=>Zxj x.1 h
noncomputable def StyE:Sum thy:=Zca E (λ_=>au) 10 Z24 (λx=>SmE x.1) (λx=>chkP x.1) intV
theorem Yd8:SumOk E 24 StyE:=Xa E_ok (Zc (f:=24) rfl) λx h=>Yai x.1 ⟨λc I=>⟨by have:=(h.1 c I).1;omega,by have:=(h.1 c I).2;omega⟩,by have:=h.2;omega⟩
noncomputable def SbxE:Sum thy:=Zca E (λ_=>au) 10 Z24 (λx=>SmE x.1) (λx=>chkB x.1) λy=> .int ab .i64 y
theorem Yd9:SumOk E 26 SbxE:=Xa E_ok (Zc (f:=26) rfl) λx h=>Z8m x.1 (λc I=>(h.1 c I).2) h.2
noncomputable def ScpE:Sum thy:=Zca E (λ_=>au) 10 Z24 (λx=>SmE x.1) (λx=>Yc x.1) λy=> .tup [.psl dx y.1 ab,.int ab .i64 y.2]
theorem Z25:SumOk E 25 ScpE:=Xa E_ok (Zc (f:=25) rfl) λx h=>Zpe x.1 h
noncomputable def FckE:Fns thy:=addS (addS (addS (addS F0 23 SprE) 24 StyE) 26 SbxE) 25 ScpE
theorem Yea:FnsOk E FckE:=Zb (Zb (Zb (Zb F0_ok Yd7) Yd8) Yd9) Z25
theorem Z8y(t:Tar) (e:Int):Zk E FckE (vc E FckE 400) 36 [.agg (encF ab .tariffs t)] hp0 0 (λr=>ret E (patch hp0 0 r) r.v (.int ab .i64 e))=(
((∀(c:Cls),c∈ar t->Ex.sz (aA c)<=(10000:Nat)/\aa (aV c)+(1:Nat)<=(1000000000:Nat))/\aa (ar t)+(1:Nat)<=(1000000000:Nat))/\∀(y:List Nat×Int),y=U6 t->((aE y !=(0:Int))=ac->aE y=e)/\((aE y !=(0:Int))=ab->((∀(c:Cls),c∈ar t->Ex.sz (aA c)<=(10000:Nat)/\aa (aV c)+(1:Nat)<=(1000000000:Nat))/\aa (ar t)+(1:Nat)<=(1000000000:Nat))/\∀(y:Int×Int),y=chkP t->((aE y !=(0:Int))=ac->aE y=e)/\((aE y !=(0:Int))=ab->((∀(c:Cls),c∈ar t->Ex.sz (aA c)<=(10000:Nat)/\aa (aV c)+(1:Nat)<=(1000000000:Nat))/\aa (ar t)+(1:Nat)<=(1000000000:Nat))/\∀(y:Int),y=chkB t->((y !=(0:Int))=ac->y=e)/\((y !=(0:Int))=ab->((∀(c:Cls),c∈ar t->Ex.sz (aA c)<=(10000:Nat)/\aa (aV c)+(1:Nat)<=(1000000000:Nat))/\aa (ar t)+(1:Nat)<=(1000000000:Nat))/\∀(y:List Ins×Int),y=Yc t->((aE y !=(0:Int))=ac->aE y=e)/\((aE y !=(0:Int))=ab->(0:Int)=e))))):=by kernel_rfl
noncomputable def eckF(t:Tar):Int:=if(U6 t).2≠0 then(U6 t).2 else if(chkP t).2≠0 then(chkP t).2 else if chkB t≠0 then chkB t else(Yc t).2
theorem Z8z(t:Tar) (h:SmE t):PureC E 36 [.agg (encF ab .tariffs t)] (.int ab .i64 (eckF t)):=by
 refine Za E_ok (Zd E_ok Yea 400) ?_;rw[Z8y];simp only[bne_iff_ne,bne_eq_false_iff_eq];have U:(∀c:Cls,c∈t.clauses->c.pay.sz<=10000/\c.when_.length+1<=1000000000)/\t.clauses.length+1<=1000000000:=h;unfold eckF;refine⟨U,λy R=>aB (λI=> ?_) (λI=>⟨U,λy2 a0=>aB (λJ=> ?_) (λJ=>⟨U,λy3 a1=>aB (λh3=> ?_) (λh3=>⟨U,λy4 a2=>aB (λh4=> ?_) (λh4=> ?_)⟩)⟩)⟩)⟩
 ·rw[<-R,if_pos I]
 ·rw[<-R,if_neg (λh=>h I),<-a0,if_pos J]
 ·rw[<-R,if_neg (λh=>h I),<-a0,if_neg (λh=>h J),<-a1,if_pos h3]
 ·rw[<-R,if_neg (λh=>h I),<-a0,if_neg (λh=>h J),<-a1,if_neg (λh=>h h3),<-a2]
 ·rw[<-R,if_neg (λh=>h I),<-a0,if_neg (λh=>h J),<-a1,if_neg (λh=>h h3),<-a2,h4]
noncomputable def SekE:Sum thy:=Zca E (λ_=>au) 10 Z24 (λx=>SmE x.1) (λx=>eckF x.1) λy=> .int ab .i64 y
theorem Z26:SumOk E 36 SekE:=Xa E_ok (Zc (f:=36) rfl) λx h=>Z8z x.1 h
def tarE(t:Tar):SV thy:= .agg [.str ab t.name,.int ab .i64 t.for_,.psl bq t.clauses ab]
noncomputable def SpaE:Sum thy:=Wf (dA1 dS) (λ_=>True) (λx=>Wd x.1) λy=> .tup [tarE y.1,.int ab .i64 y.2.1,.int ab .i64 y.2.2]
theorem Yeb:SumOk E 22 SpaE:=Zy E_ok (Zc (f:=22) rfl) λx _=>Zzv x.1
noncomputable def Fgo:Fns thy:=Zsk (addS (addS F0 36 SekE) 22 SpaE)
theorem Yit:FnsOk E Fgo:=Zkt (Zb (Zb F0_ok Z26) Yeb)
abbrev qDJ1(I:Tar):=([]=bN I/\(0:Int)=bI I/\ar I= []/\True)
abbrev qDJ2(I:Tar×Int×Int) (J:Tar):=(bN (ao I)=bN J/\bI (ao I)=bI J/\(ar (ao I)=ar J/\(ab=ac->ab=ac))/\True)
abbrev qDJ3(I:Tar×Int×Int):=(aE (aE I)==(0:Int))
theorem Z27(s:List Nat) (k:Int) (t:Tar) (e:Int):Zk E Fgo (vc E Fgo 400) 21 [.str ab s,.int ab .i64 k] hp0 0 (λr=>ret E (patch hp0 0 r) r.v (.tup [tarE t,.int ab .i64 e]))=(
 ∃(Q:Bool->Prop),((decide (k<(1:Int))=ac->Q ac)/\(decide (k<(1:Int))=ab->(decide (k>(6:Int))=ac->Q ac)/\(decide (k>(6:Int))=ab->Q ab)))/\(Q ac->(qDJ1 t)/\(1:Int)=e/\True)/\(Q ab->True/\∀(y:Tar×Int×Int),y=Wd s->∃(Q:Bool->Prop),(((qDJ3 y)=ac->((bI (ao y) !=k)=ac->Q ac)/\((bI (ao y) !=k)=ab->Q ab))/\((qDJ3 y)=ab->Q ab))/\(Q ac->(qDJ1 t)/\(220:Int)=e/\True)/\(Q ab->((qDJ3 y)=ac->((∀(c:Cls),c∈ar (ao y)->Ex.sz (aA c)<=(10000:Nat)/\aa (aV c)+(1:Nat)<=(1000000000:Nat))/\aa (ar (ao y))+(1:Nat)<=(1000000000:Nat))/\∀(I:Int),I=eckF (ao y)->((I !=(0:Int))=ac->(qDJ1 t)/\I=e/\True)/\((I !=(0:Int))=ab->(qDJ2 y t)/\(0:Int)=e/\True))/\((qDJ3 y)=ab->((aE (aE y) !=(0:Int))=ac->(qDJ1 t)/\aE (aE y)=e/\True)/\((aE (aE y) !=(0:Int))=ab->(qDJ2 y t)/\(0:Int)=e/\True))))):=by kernel_rfl
noncomputable def Y6(s:List Nat) (k:Int):Tar×Int:=
 if k<1\/6<k then(zTE,1) else
 if(Wd s).2.2≠0 then(zTE,(Wd s).2.2) else
 if(Wd s).1.for_≠k then(zTE,220) else
 if eckF (Wd s).1≠0 then(zTE,eckF (Wd s).1) else((Wd s).1,0)
theorem Z28(s:List Nat) (k:Int):PureC E 21 [.str ab s,.int ab .i64 k] (.tup [tarE (Y6 s k).1,.int ab .i64 (Y6 s k).2]):=by
 refine Za E_ok (Zd E_ok Yit 400) ?_;rw[Z27];delta qDJ1 qDJ2 qDJ3;simp only[bne_iff_ne,bne_eq_false_iff_eq,beq_iff_eq,beq_eq_false_iff_ne,decide_eq_true_eq,decide_eq_false_iff_not,ne_eq];have U:∀(x:Tar×Int) (e:Int),x=(zTE,e)->([]=x.1.name/\(0:Int)=x.1.for_/\x.1.clauses= []/\True)/\e=x.2/\True:=λx e h=>by rw[h];exact⟨⟨rfl,rfl,rfl,trivial⟩,rfl,trivial⟩
 have gr:∀(x:Tar×Int) (t:Tar),x=(t,0)->(t.name=x.1.name/\t.for_=x.1.for_/\(t.clauses=x.1.clauses/\(ab=ac->ab=ac))/\True)/\(0:Int)=x.2/\True:=λx e h=>by rw[h];exact⟨⟨rfl,rfl,⟨rfl,id⟩,trivial⟩,rfl,trivial⟩
 unfold Y6;refine⟨λb=>b=ac↔(k<1\/6<k),⟨λh=>⟨λ_=>Or.inl h,λ_=>rfl⟩,λh=>⟨λJ=>⟨λ_=>Or.inr J,λ_=>rfl⟩,λJ=>⟨(λe=>by cases e),λe=>by omega⟩⟩⟩,λI=>U _ _ (by rw[if_pos (I.1 rfl)]),λI=>⟨trivial,λy hy=> ?_⟩⟩;rw[if_neg (λh=>by have:=I.2 h;cases this),<-hy];have a0:SmE y.1:=by rw[hy];exact Zvi s
 refine⟨λb=>b=ac↔(y.2.2=0/\y.1.for_≠k),⟨λh=>⟨λJ=>⟨λ_=>⟨h,J⟩,λ_=>rfl⟩,λJ=>⟨(λe=>by cases e),λe=>absurd J e.2⟩⟩,λh=>⟨(λe=>by cases e),λe=>absurd e.1 h⟩⟩,λI=> ?_,λI=> ?_⟩
 ·have h:=I.1 rfl
  exact U _ _ (by rw[if_neg (λx=>x h.1),if_pos h.2])
 ·have hn:¬(y.2.2=0/\y.1.for_≠k):=λh=>by have:=I.2 h;cases this
  refine aB (λh=>⟨a0,λz hz=>aB (λR=> ?_) (λR=> ?_)⟩) (λh=>aB (λR=> ?_) (λR=>absurd R h))
  ·have hf:y.1.for_=k:=bJ.1 λx=>hn ⟨h,x⟩
   exact U _ _ (by rw[if_neg (λx=>x h),if_neg (λx=>x hf),<-hz,if_pos R])
  ·have hf:y.1.for_=k:=bJ.1 λx=>hn ⟨h,x⟩
   exact gr _ _ (by rw[if_neg (λx=>x h),if_neg (λx=>x hf),<-hz,if_neg (λx=>x R)])
  ·exact U _ _ (by rw[if_pos h])
noncomputable def SgoE:Sum thy:=Wf (.cons dS (.cons (dInt (E:=E) .i64) .nil)) (λ_=>True) (λx=>Y6 x.1 x.2.1) λy=> .tup [tarE y.1,.int ab .i64 y.2]
theorem Zso:SumOk E 21 SgoE:=Zy E_ok (Zc (f:=21) rfl) λx _=>Z28 x.1 x.2.1
theorem Za0:SmE zTE:=⟨(λc I=>by cases I),by decide⟩
theorem Zsp(s:List Nat) (k:Int):SmE (Y6 s k).1:=by
 unfold Y6;split
 ·exact Za0
 ·split
  ·exact Za0
  ·split
   ·exact Za0
   ·split
    ·exact Za0
    ·exact Zvi s
end
section
open Go Go.RowKit
section
variable {Y:Thy} {E:Eng Y}
def oneR(th:Y.Th) (l:List (Y.dom th)):Hp Y:=λb=>match aK b 0 with|true=>ae (.rows th l 0)|false=>au
def FreshC(E:Eng Y) (f:FuncId) (args:List (SV Y)) (th:Y.Th) (wd:Nat) (l:List (Y.dom th)):Prop:=
 ∀(g:GH) (w:World) (R:Array Value),Inv E w.heap.size σ0 hp0 g w->DenL E σ0 g args R.toList->
  Calls E.P f R w λen U=>∃u,en= .returned u/\∃I J z,Stp 0 0 [] σ0 g w σ0 I U/\Inv E w.heap.size (σ1 (J,z)) (oneR th l) I U/\Den E (σ1 (J,z)) I (.sl 0 0 l.length wd au) u
def Zo9(i:Nat) (th:Y.Th) (I:Nat) (l:List (Y.dom th)):Res Y:=⟨.sl i 0 l.length I au,1,[],at1 i (ae (.rows th l 0)),au⟩
def Zu7(E:Eng Y) (th:Y.Th) (U:Nat) (l:List (Y.dom th)) (r:Res Y):Prop:=
 match r.v with
 | .sl b 0 n a0 _=>aK a0 U=ac/\(match patch hp0 0 r b with
  |some (.rows J R 0)=>Uw (th:=th) R λI=>n=I.length/\I=l
  |some (.raw cs 0 (ae J))=>(match E.dec J cs with
   |some x=>Uw (th:=th) [x] λI=>n=1/\I=l
   |none=>False)
  |_=>False)
 |_=>False
theorem Zdv{th:Y.Th} {l:List (Y.dom th)} {b:Nat} {x:Blk Y} (h:oneR th l b=ae x):b=0/\x= .rows th l 0:=by
 unfold oneR at h;split at h
 ·rename_i e
  cases h;exact⟨ax e,rfl⟩
 ·cases h
theorem Zu8(hE:EngOk E) {σ σ':Pl} {g:GH} {w:World} {r z:Nat} {th:Y.Th} {l:List (Y.dom th)} {fz:Nat} (hn:∀x∈l,nidL 0 (E.enc th x)=ac) (h:BlkOk E σ g w r z (.rows th l fz)):BlkOk E σ' g w r z (.rows th l fz):=by
 obtain⟨arr,e,R,U,h3,h4,h5⟩:=h;refine⟨arr,e,R,U,h3,λj J I=> ?_,h5⟩;obtain⟨v,h6,h7⟩:=h4 j J I;refine⟨v,h6,Zw hE (i:=0) h7 (λb p hb=>by omega) ?_⟩;have hm:J∈l.flatMap (E.enc th):=aI I;obtain⟨x,hx,hs⟩:=List.mem_flatMap.1 hm;obtain⟨k,hk⟩:=List.getElem?_of_mem hs;exact Zs (hn x hx) hk
theorem Z8o(hE:EngOk E) {σ:Pl} {g:GH} {w:World} {r z:Nat} {th:Y.Th} {cs:List (SV Y)} {x:Y.dom th} (hx:E.dec th cs=ae x) (hl:(E.enc th x).length=E.w th) (h:BlkOk E σ g w r z (.raw cs 0 (ae th))):BlkOk E σ g w r z (.rows th [x] 0):=by
 obtain⟨arr,e,h1,h2,R,h4,h5⟩:=h;obtain⟨k1,k2⟩:=hE.dec th cs x hx;have J:(Blk.rows th [x] 0).cells E=E.enc th x:=by
  show[x].flatMap (E.enc th)=_;simp
 have R:cs.length<=z:=R;refine⟨arr,e,h1,h2,by rw[J];omega,λj sv I=> ?_,h5⟩;rw[J] at I;have a0:=(ak.1 I).1;have U:cs[j]? =ae (cs[j]'(by omega)):=ai _;obtain⟨v,h6,h7⟩:=h4 j _ U;exact⟨v,h6,k2 σ g j _ sv v U I h7⟩
theorem Zx1(hE:EngOk E) {th:Y.Th} {wd:Nat} {l:List (Y.dom th)} {r:Res Y} (hl:∀x∈l,(E.enc th x).length=E.w th) (I:Zu7 E th wd l r):∃b cap x,r.v= .sl b 0 l.length wd cap/\patch hp0 0 r b=ae x/\x.fzc E=0/\∀σ g w q z,BlkOk E σ g w q z x->BlkOk E σ g w q z (.rows th l 0):=by
 unfold Zu7 at I;split at I
 case h_2=>exact I.elim
 rename_i b n a1 cap hv;obtain⟨hw,I⟩:=I;have hw:=ax hw;subst hw;split at I
 case h_3=>exact I.elim
 ·rename_i a0 l' U
  obtain⟨e,J,R⟩:=Yx I;subst e;have R:l'=l:=R;have J:n=l'.length:=J;subst R;subst J;exact⟨b,cap,_,hv,U,by show 0*E.w a0=0;omega,λ_ _ _ _ _ h=>h⟩
 ·rename_i cs a0 U
  split at I
  case h_2=>exact I.elim
  rename_i x hx;obtain⟨e,J,R⟩:=Yx I;subst e;have R: [x]=l:=R;have J:n=1:=J;subst R;subst J;exact⟨b,cap,_,hv,U,rfl,λ_ _ _ _ _ h=>Z8o hE hx (hl x (by simp)) h⟩
theorem Zmj(hE:EngOk E) {call:Nat->List (SV Y)->Hp Y->Nat->(Res Y->Prop)->Prop} (a4:Wy E call) {f:Nat} {args:List (SV Y)} {th:Y.Th} {wd:Nat} {l:List (Y.dom th)} (hn:∀x∈l,nidL 0 (E.enc th x)=ac) (hl:∀x∈l,(E.enc th x).length=E.w th) (hk:call f args hp0 0 (Zu7 E th wd l)):FreshC E f args th wd l:=by
 obtain⟨r,hr,hR,a7⟩:=a4 f args hp0 0 _ (λb hb=>absurd rfl hb) hk;obtain⟨b,cap,blk,hv,hb,a6,a5⟩:=Zx1 hE hl hr;have a8:=a7.tri (by rw[hv];rfl);intro g w a9 hI hd;refine(a8 w.heap.size σ0 g w a9 hp0 (λ_ _=>rfl) hI (aw _) (λ_ _ _=>rfl) hd).mono ?_;rintro en w' ⟨u,he,σ',g',J,U,a0⟩;rw[hv] at a0;obtain⟨rr,z,R,h2⟩:=U.blk b _ hb;obtain⟨b0,z2,c,hu,h3,h4,h5,h6,h7⟩:=W2 a0;rw[R] at h3;cases h3;have a3:=U.base b rr z R
 refine⟨u,he,g',rr,z,⟨.refl _,λb p h=> .inl h,J.gle,λq o v hv=> ?_,J.gmnew,λq hq _=>J.heap q hq (λb hb z h=>by cases h),J.size,J.os,J.tape,J.output,λb q z R h2=>by cases h2⟩,⟨U.gc,U.gm,λb' x I=> ?_,λb1 b2 r z z' R h2 _ _=> ?_,λb' r z' hs=> ?_,λb' x r z' o v I hs hg=> ?_,λb' x r z' I hs=> ?_,U.glob⟩,?_⟩
 ·rcases J.gcnew q o v hv with h|h|⟨b',h,z',h'⟩
  ·exact .inl h
  ·exact .inr (.inl h)
  ·cases h'
 ·obtain⟨rfl,rfl⟩:=Zdv I
  exact⟨rr,z,rfl,Zu8 hE hn (a5 _ _ _ _ _ h2)⟩
 ·have a1:b1=0:=by
   cases I:oneR th l b1 with
   |none=>exact absurd I R
   |some x=>exact(Zdv I).1
  have a2:b2=0:=by
   cases I:oneR th l b2 with
   |none=>exact absurd I h2
   |some x=>exact(Zdv I).1
  rw[a1,a2]
 ·obtain⟨_,e⟩:=σ1_some hs
  cases e;exact a3
 ·obtain⟨_,e⟩:=σ1_some hs
  cases e;obtain⟨_,rfl⟩:=Zdv I;have:=U.fz b _ rr z o v hb R hg;rw[a6] at this;exact absurd this (Nat.not_lt_zero _)
 ·obtain⟨_,e⟩:=σ1_some hs
  cases e;exact U.fm b _ rr z hb R
 ·rw[hu]
  exact .sl rfl h4 h5 h6 (λm h=>by cases h)
theorem FreshC.of_dec{f:Nat} {α:Type} {d:DcL E α} {th:Y.Th} {I:Nat} {l:List (Y.dom th)} {args:List (SV Y)} {x:α} (hx:d.dec args=ae x) (hp:FreshC E f (d.enc x) th I l):FreshC E f args th I l:=by
 intro g w a0 hI hd;obtain⟨k1,k2,k3⟩:=d.ok _ _ hx;refine hp g w a0 hI ⟨by rw[<-k2];exact hd.1,λj sv u J R=> ?_⟩;obtain⟨sv0,U,h4⟩:=k3 σ0 g j sv J;exact h4 u (hd.2 j sv0 u U R)
theorem Ua(h:Hp Y) (i:Nat) (th:Y.Th) (U:Nat) (l:List (Y.dom th)) (b:Nat):patch h i (Zo9 i th U l) b=if b=i then ae (.rows th l 0) else h b:=by
 show(match memB b []||(bL i b&&aR b (i+1)) with|true=>at1 i (ae (Blk.rows th l 0)) b|false=>h b)=_;by_cases e:b=i
 ·subst e
  have J:bL b b=true:=jo b;have I:aR b (b+1)=true:=by unfold aR;exact jo (b+1)
  rw[if_pos rfl,J,I];show at1 b (ae (Blk.rows th l 0)) b=_;unfold at1;rw[fG]
 ·have J:(bL i b&&aR b (i+1))=false:=by
   cases I:bL i b with
   |false=>rfl
   |true=>
    cases R:aR b (i+1) with
    |false=>rfl
    |true=>
     have I:=gO I;have R:b+1<=i+1:=gO R;omega
  rw[if_neg e,J];rfl
theorem FreshC.tri(hE:EngOk E) {f:FuncId} {args:List (SV Y)} {th:Y.Th} {wd:Nat} {l:List (Y.dom th)} (hp:FreshC E f args th wd l) (hn:∀x∈l,nidL 0 (E.enc th x)=ac) (ha:nidL 0 args=ac) (h:Hp Y) (i:Nat) (hD:DomLt h i):ROk h (Zo9 i th wd l)/\Va E f args h i (Zo9 i th wd l):=by
 refine⟨λb hb=>by simp[Zo9] at hb,?_⟩;intro B σ g w a6 hh b3 hI hB a9 hd;have a7:DenL E σ0 g args a6.toList:=⟨hd.1,λj sv u I U=>Zw hE (i:=0) (hd.2 j sv u I U) (λb p hb=>by omega) (Zs ha I)⟩;refine(hp g w a6 (Zuy hI) a7).mono ?_;rintro en w' ⟨u,he,g',rr,z,hS,a2,hv⟩;have a4:∀r,r<w.heap.size->w'.heap[r]? =w.heap[r]? :=λr hr=>hS.heap r hr (by simp);have a8:σ i=none:=a9 i (aw _) (by show i<i+1;omega);have a3:=a2.base 0 rr z rfl
 let σ2:Pl:=λb=>match aK b i with|true=>ae (rr,z)|false=>σ b
 have a1:σ2 i=ae (rr,z):=by show(match aK i i with|true=>ae (rr,z)|false=>σ i)=_;rw[fG]
 have a0:∀b,b≠i->σ2 b=σ b:=λb hb=>by
  show(match aK b i with|true=>ae (rr,z)|false=>σ b)=_;rw[show aK b i=ab from by cases J:aK b i with|false=>rfl|true=>exact absurd (ax J) hb]
 have a5:Pl.le σ σ2:=λb p hb=>by
  by_cases e:b=i
  ·subst e;rw[a8] at hb;cases hb
  ·rw[a0 b e];exact hb
 refine⟨u,he,σ2,g',⟨a5,λb p hb=> ?_,hS.gle,λr o v hv=> ?_,hS.gmnew,λr hr _=>a4 r hr,hS.size,hS.os,hS.tape,hS.output,λb r z' I U=> ?_⟩,⟨a2.gc,a2.gm,λb x J=> ?_,λb1 b2 r z1 z2 I U h3 h4=> ?_,λb r z' R=> ?_,λb x r z' o v J R hg=> ?_,λb x r z' J R=> ?_,a2.glob⟩,?_⟩
 ·by_cases e:b=i
  ·exact .inr ⟨by omega,by show b<i+1;omega⟩
  ·rw[a0 b e] at hb
   exact .inl hb
 ·rcases hS.gcnew r o v hv with I|I|⟨b,I,_⟩
  ·exact .inl I
  ·exact .inr (.inl I)
  ·simp at I
 ·by_cases e:b=i
  ·subst e
   rw[a1] at U;cases U;exact .inl a3.1
  ·rw[a0 b e,I] at U
   cases U
 ·rw[Ua] at J
  by_cases e:b=i
  ·subst e
   rw[if_pos rfl] at J;cases J;obtain⟨r0,z0,I,U⟩:=a2.blk 0 (.rows th l 0) rfl;have I:ae (rr,z)=ae (r0,z0):=I;cases I;exact⟨rr,z,a1,Zu8 hE hn U⟩
  ·rw[if_neg e] at J
   obtain⟨r,z0,I,U⟩:=hI.blk b x J;exact⟨r,z0,by rw[a0 b e];exact I,U.mono a5 hS.gle (a4 r (hI.base b r z0 I).2)⟩
 ·rw[Ua] at I U
  by_cases e1:b1=i
  ·by_cases e2:b2=i
   ·rw[e1,e2]
   ·rw[e1,a1] at h3
    rw[a0 b2 e2] at h4;cases h3;have:=(hI.base b2 rr z2 h4).2;have:=a3.1;omega
  ·by_cases e2:b2=i
   ·rw[e2,a1] at h4
    rw[a0 b1 e1] at h3;cases h4;have:=(hI.base b1 rr z1 h3).2;have:=a3.1;omega
   ·rw[if_neg e1] at I
    rw[if_neg e2] at U;rw[a0 b1 e1] at h3;rw[a0 b2 e2] at h4;exact hI.inj b1 b2 r z1 z2 I U h3 h4
 ·by_cases e:b=i
  ·rw[e,a1] at R
   cases R;exact⟨bQ hB a3.1,a3.2⟩
  ·rw[a0 b e] at R
   exact⟨(hI.base b r z' R).1,bY (hI.base b r z' R).2 hS.size⟩
 ·rw[Ua] at J
  by_cases e:b=i
  ·subst e
   rw[if_pos rfl] at J;cases J;rw[a1] at R;cases R;exact a2.fz 0 (.rows th l 0) rr z o v rfl rfl hg
  ·rw[if_neg e] at J
   rw[a0 b e] at R;rcases hS.gcnew r o v hg with I|I|⟨b',I,_⟩
   ·exact hI.fz b x r z' o v J R I
   ·have:=(hI.base b r z' R).2;omega
   ·simp at I
 ·rw[Ua] at J
  by_cases e:b=i
  ·subst e
   rw[if_pos rfl] at J;cases J;rw[a1] at R;cases R;exact a2.fm 0 (.rows th l 0) rr z rfl rfl
  ·rw[if_neg e] at J
   rw[a0 b e] at R;cases hg:g'.obj r with
   |none=>rfl
   |some es=>
    rcases hS.gmnew r es hg with I|I
    ·rw[hI.fm b x r z' J R] at I;cases I
    ·have:=(hI.base b r z' R).2;omega
 ·obtain⟨b0,z2,c,hu,h3,h4,h5,h6,h7⟩:=W2 hv
  have h3:ae (rr,z)=ae (b0,z2):=h3;cases h3;rw[hu];exact .sl a1 h4 h5 h6 h7
noncomputable def Yd2{α:Type} (d:DcL E α) (th:Y.Th) (I:Nat) (pre:α->Prop) (fn:α->List (Y.dom th)):Sum Y:=λargs h i k=>
 match d.dec args with
 |some x=>pre x/\∀y:List (Y.dom th),y=fn x->k (Zo9 i th I y)
 |none=>False
theorem Z8p(hE:EngOk E) {α:Type} {f:Nat} (hg:FnGood E.P f) {d:DcL E α} {th:Y.Th} {U:Nat} {pre:α->Prop} {fn:α->List (Y.dom th)} (hn:∀x:Y.dom th,nidL 0 (E.enc th x)=ac) (hp:∀x,pre x->FreshC E f (d.enc x) th U (fn x)):SumOk E f (Yd2 d th U pre fn):=by
 refine⟨hg,λargs h i k hD I=> ?_⟩;unfold Yd2 at I;split at I
 ·rename_i x R
  obtain⟨a0,I⟩:=I;have J:=(FreshC.of_dec R (hp x a0)).tri hE (λy _=>hn y) (d.ok _ _ R).1 h i hD;exact⟨_,I _ rfl,J.1,.inl J.2⟩
 ·exact I.elim
end
end
section
open Go
structure AmX where
 k:Nat
 r:Nat
 m:List (List Nat×Cls)
 L:List Cls
noncomputable def mapB(l:List (List Nat×Cls)):Blk thy:= .map (Zi (Zl E bq ac) l)
noncomputable def Aam1:Fr thy->Hp thy->Nat->Ann thy:=λT h i=>{X:=AmX,fr:=λx=> [(2,T 2),(3,T 3),(4,T 4),(5,T 5),(19,T 19),(20,T 20),(21,.int ab .i64 x.k)],bl:=λx=>(bOf (T 5),mapB x.m)::(blkP h (T 2)++(blkP h (T 3)++blkP h (T 4))),src:=λ_=> [],md:= [bOf (T 5)],ih:=i,M:=i+30,meas:=λx=>x.r}
noncomputable def Aam2:Fr thy->Hp thy->Nat->Ann thy:=λT h i=>{X:=AmX,fr:=λx=> [(2,T 2),(3,T 3),(4,T 4),(5,T 5),(8,T 8),(33,T 33),(34,T 34),(35,.int ab .i64 x.k)],bl:=λx=>(bOf (T 5),mapB x.m)::(bOf (T 8),.rows bq x.L 0)::(blkP h (T 2)++(blkP h (T 3)++blkP h (T 4))),src:=λ_=> [],md:= [bOf (T 5),bOf (T 8)],ih:=i,M:=i+30,meas:=λx=>x.r}
noncomputable def Aam3:Fr thy->Hp thy->Nat->Ann thy:=λT h i=>{X:=AmX,fr:=λx=> [(2,T 2),(4,T 4),(5,T 5),(8,.sl i 0 x.L.length 9 au),(57,T 57),(58,T 58),(59,.int ab .i64 x.k)],bl:=λx=>(bOf (T 5),mapB x.m)::(i,.rows bq x.L 0)::(blkP h (T 2)++blkP h (T 4)),src:=λ_=> [(i,8)],md:= [bOf (T 8)],ih:=i+1,M:=i+40,meas:=λx=>x.r}
def blk0:SV thy->List (Nat×Blk thy):=λv=>match v with| .sl b _ _ _ _=> [(b,.rows bq [] 0)]|_=> []
noncomputable def Aam0:Fr thy->Hp thy->Nat->Ann thy:=λT h i=>{X:=Bool×AmX,fr:=λx=> [(2,T 2),(4,T 4),(5,T 5),(8,match x.1 with|true=> .sl i 0 x.2.L.length 9 au|false=>T 8),(57,T 57),(58,T 58),(59,.int ab .i64 x.2.k)],bl:=λx=>(bOf (T 5),mapB x.2.m)::((match x.1 with|true=> [(i,.rows bq x.2.L 0)]|false=>blk0 (T 8))++(blkP h (T 2)++blkP h (T 4))),src:=λx=>(match x.1 with|true=> [(i,8)]|false=> []),md:= [],ih:=i+1,M:=i+40,meas:=λx=>x.2.r,ex:=ex2,al:=al2,exOk:=Ziy,alOk:=Ziz}
theorem Z8t(l v:List Cls):Zk E F0 (vc E F0 400) 69 [.psl bq l ab] hp0 0 (Zu7 E bq 9 v)=(
(l= []->False)/\(l= []->ac=ac/\False)/\(l≠ []->((0:Nat)+(1:Nat)<=(0:Nat)+aa l/\((0:Nat)+aa l)*(112:Nat)<=(140737488355328:Nat))/\ac=ac/\(0:Nat)+aa l=aa ([]++l)/\ []++l=v)):=by kernel_rfl
theorem Z2s(x:Cls):nidL 0 (E.enc bq x)=true:=rfl
theorem Z2t(l:List Cls) (I:l≠ []) (J:l.length<=1000000000):FreshC E 69 [.psl bq l ab] bq 9 l:=by
 refine Zmj E_ok (Zd E_ok F0_ok 400) (λx _=>Z2s x) (λx _=>rfl) ?_;rw[Z8t];have R:=List.length_pos_iff.2 I;exact⟨I,λh=>absurd h I,λ_=>⟨⟨by omega,by omega⟩,rfl,bk _,rfl⟩⟩
noncomputable def Scln:Sum thy:=Yd2 (.cons dCls .nil) bq 9 (λx=>x.1≠ []/\x.1.length<=1000000000) λx=>(x.1:List Cls)
theorem Yd4:SumOk E 69 Scln:=Z8p E_ok (Zc (f:=69) rfl) Z2s λx h=>Z2t x.1 h.1 h.2
noncomputable def Fam:Fns thy:=addL (addL (addL (addS F0 69 Scln) 35 3 Aam1 E) 35 9 Aam2 E) 35 17 Aam3 E
noncomputable def Fam0:Fns thy:=addL (addL F0 35 3 Aam1 E) 35 17 Aam0 E
theorem Yio:FnsOk E Fam:=Zm E_ok (Zm E_ok (Zm E_ok (Zb F0_ok Yd4) _ _ _) _ _ _) _ _ _
theorem Z2u:FnsOk E Fam0:=Zm E_ok (Zm E_ok F0_ok _ _ _) _ _ _
abbrev Vf:Prop:=
 ([]:List Nat)= []/\(0:Int)=(0:Int)/\aG au (0:Nat) (0:Nat)=aG au (0:Nat) (0:Nat)/\True
abbrev Vg(t:Tar):Prop:=
 bN t=bN t/\bI t=bI t/\(ar t=ar t/\(ab=ac->ab=ac))/\True
abbrev Uy(a:Tar):Prop:=
 ar a=ar a/\(ab=ac->ab=ac)
abbrev Zgd(I:Cls):=
 (bU (aJ (aA I)) (bW (aA I)) (bx (aA I)) (bA (aA I)) (bB (aA I)) (bC (aA I)) (bw (aA I)))
abbrev Zge(x:AmX) (I:AmX):Prop:=
 Zi (Zl E bq ac) (AmX.m x)=Zi (Zl E bq ac) (AmX.m I)/\nidE (0:Nat) (Zi (Zl E bq ac) (AmX.m x))=ac
abbrev Zbt(a:Tar):Prop:=
 bN a=bN a/\bI a=bI a/\(Uy a)/\True
abbrev Zdw(y:List Cls):Prop:=
 (0:Nat)=(0:Nat)/\aa y=aa y/\True
abbrev Zdx(l:List (List Nat×Cls)):Prop:=
 ∀(p:List Nat×Cls),p∈l->toL (mkS (ao p))=ao p
abbrev Zdy(x:AmX) (a:Tar):Prop:=
 (↑(AmX.k x):Int)<(↑(aa (ar a)):Int)
abbrev Zml(x:AmX) (I:AmX):Prop:=
 Zi (Zl E bq ac) (AmX.m x)=Zi (Zl E bq ac) (AmX.m I)/\nidE (0:Nat) (Zi (Zl E bq ac) (AmX.m x))=ac
noncomputable abbrev qDL8:=(1:Nat)
noncomputable abbrev qDL2:=(0:Nat)
noncomputable abbrev qDL1:=(Zl E bq (Zh (hJ #[fL "Name" (9:TypeId) qDL2 ab "" "" qDL2,fL "When" (61:TypeId) qDL8 ab "" "" (16:Nat),fL "Pay" (66:TypeId) (2:Nat) ab "" "" (40:Nat)])))
noncomputable abbrev qDL3(I:Tar):=(↑(aa (ar I)):Int)
noncomputable abbrev qDL4(I:AmX):=(↑(AmX.k I):Int)
noncomputable abbrev qDL5:=(Zl E bq ac)
noncomputable abbrev qDL6(I:List Cls):=(↑(aa I):Int)
noncomputable abbrev qDL7(I:List Cls) (J:AmX) (R:AmX):=(qDL2=qDL2/\qDL2=qDL2/\qDL2=qDL2/\True/\(Zdw I)/\(Zdw I)/\(qDL6 I)=(qDL6 I)/\wr af ((qDL4 J)+(1:Int))=(qDL4 R)/\True)
theorem Zx3(t a:Tar) (z:Tar):Zk E Fam (vc E Fam 400) 35 [.agg (encF ab .tariffs t),.agg (encF ab .tariffs a)] hp0 0 (λr=>ret E (patch hp0 0 r) r.v (tarE z))=(
 ∃(R:AmX->Prop),(∃(x:AmX),R x/\ac=ac/\(qDL2=qDL2/\qDL2=qDL2/\qDL2=qDL2/\True/\(Uy a)/\(qDL3 a)=(qDL3 a)/\(0:Int)=(qDL4 x)/\True)/\([]=Zi qDL5 (AmX.m x)/\ac=ac)/\(Vg t)/\(Zbt a)/\(Vf)/\True)/\∀(x:AmX),R x->(decide (Zdy x a)=ac->(0:Int)<=(qDL4 x)/\(qDL4 x)+(1:Int)<=(qDL3 a)/\∀(I:Cls),(ar a)[ag (qDL4 x)]? =ae I->∃(l:List (List Nat×Cls)),Zi qDL5 (AmX.m x)=Zi qDL1 l/\(Zdx l)/\toL (mkS (aP I))=aP I/\∃(J:AmX),R J/\J.2+qDL8<=x.2/\ac=ac/\(qDL2=qDL2/\qDL2=qDL2/\qDL2=qDL2/\True/\(Uy a)/\(qDL3 a)=(qDL3 a)/\wr af ((qDL4 x)+(1:Int))=(qDL4 J)/\True)/\(Zi qDL1 (putS l (aP I) (eP (aP I) (aV I) (Zgd I)))=Zi qDL5 (AmX.m J)/\nidE qDL2 (Zi qDL1 (putS l (aP I) (eP (aP I) (aV I) (Zgd I))))=ac)/\(Vg t)/\(Zbt a)/\(Vf)/\True)/\(decide (Zdy x a)=ab->((ar t= []->False)/\aa (ar t)<=(1000000000:Nat))/\∀(y:List Cls),y=ar t->∃(R:AmX->Prop),(∃(I:AmX),R I/\ac=ac/\(qDL2=qDL2/\qDL2=qDL2/\qDL2=qDL2/\True/\(Zdw y)/\(Zdw y)/\(qDL6 y)=(qDL6 y)/\(0:Int)=(qDL4 I)/\True)/\(Zml x I)/\(y=AmX.L I/\qDL2=qDL2)/\(Vg t)/\(Zbt a)/\(Vf)/\True)/\∀(x:AmX),R x->(decide ((qDL4 x)<(qDL6 y))=ac->((0:Int)<=(qDL4 x)/\(qDL4 x)+(1:Int)<=(qDL6 y))/\qDL2+ag (qDL4 x)+qDL8<=aa (AmX.L x)/\∀(I:Cls),(AmX.L x)[qDL2+ag (qDL4 x)]? =ae I->∃(l:List (List Nat×Cls)),Zi qDL5 (AmX.m x)=Zi qDL1 l/\(Zdx l)/\(∀(U:Cls),Z4 l (aP I)=ae U->((0:Int)<=(qDL4 x)/\(qDL4 x)+(1:Int)<=(qDL6 y))/\qDL2<=qDL2+ag (qDL4 x)/\qDL2+ag (qDL4 x)+qDL8<=aa (AmX.L x)/\∀(J:Cls),(AmX.L x)[qDL2+ag (qDL4 x)]? =ae J->∃(l:List (List Nat×Cls)),Zi qDL5 (AmX.m x)=Zi qDL1 l/\(Zdx l)/\∃(a0:AmX),R a0/\a0.2+qDL8<=x.2/\ac=ac/\(qDL7 y x a0)/\(Zi qDL1 (delS l (aP I))=Zi qDL5 (AmX.m a0)/\nidE qDL2 (Zi qDL1 (delS l (aP I)))=ac)/\(dp (AmX.L x) (qDL2+ag (qDL4 x)) (eP (aP U) (aV U) (bU (aJ (aA U)) (bW (aA U)) (bx (aA U)) (bA (aA U)) (bB (aA U)) (bC (aA U)) (bw (aA U))))=AmX.L a0/\qDL2=qDL2)/\(Vg t)/\(Zbt a)/\(Vf)/\True)/\(Z4 l (aP I)=au->∃(J:AmX),R J/\J.2+qDL8<=x.2/\ac=ac/\(qDL7 y x J)/\(Zge x J)/\(AmX.L x=AmX.L J/\qDL2=qDL2)/\(Vg t)/\(Zbt a)/\(Vf)/\True))/\(decide ((qDL4 x)<(qDL6 y))=ab->∃(R:AmX->Prop),(∃(I:AmX),R I/\ac=ac/\(qDL2=qDL2/\qDL2=qDL2/\True/\(qDL2=qDL2/\aa y=aa (AmX.L I)/\True)/\(Uy a)/\(qDL3 a)=(qDL3 a)/\(0:Int)=(qDL4 I)/\True)/\(Zml x I)/\(AmX.L x=AmX.L I/\qDL2=qDL2)/\(Vg t)/\(Vf)/\True)/\∀(x:AmX),R x->(decide (Zdy x a)=ac->(0:Int)<=(qDL4 x)/\(qDL4 x)+(1:Int)<=(qDL3 a)/\∀(I:Cls),(ar a)[ag (qDL4 x)]? =ae I->∃(l:List (List Nat×Cls)),Zi qDL5 (AmX.m x)=Zi qDL1 l/\(Zdx l)/\(∀(y:Cls),Z4 l (aP I)=ae y->(aa (AmX.L x)<=aa (AmX.L x)/\qDL2<=aa (AmX.L x)/\(aa (AmX.L x)+qDL8)*(112:Nat)<=(140737488355328:Nat))/\∃(J:AmX),R J/\J.2+qDL8<=x.2/\ac=ac/\(qDL2=qDL2/\qDL2=qDL2/\True/\(qDL2=qDL2/\aa (AmX.L x)+qDL8=aa (AmX.L J)/\True)/\(Uy a)/\(qDL3 a)=(qDL3 a)/\wr af ((qDL4 x)+(1:Int))=
(qDL4 J)/\True)/\(Zge x J)/\(av (aa (AmX.L x)) (AmX.L x)++ [eP (aP I) (aV I) (Zgd I)]=AmX.L J/\qDL2=qDL2)/\(Vg t)/\(Vf)/\True)/\(Z4 l (aP I)=au->∃(J:AmX),R J/\J.2+qDL8<=x.2/\ac=ac/\(qDL2=qDL2/\qDL2=qDL2/\True/\(qDL2=qDL2/\aa (AmX.L x)=aa (AmX.L J)/\True)/\(Uy a)/\(qDL3 a)=(qDL3 a)/\wr af ((qDL4 x)+(1:Int))=(qDL4 J)/\True)/\(Zge x J)/\(AmX.L x=AmX.L J/\qDL2=qDL2)/\(Vg t)/\(Vf)/\True))/\(decide (Zdy x a)=ab->bN t=bN z/\bI t=bI z/\(qDL2+aa (AmX.L x)<=aa (AmX.L x)/\av (aa (AmX.L x)) (AmX.L x)=ar z)/\True)))):=by kernel_rfl
abbrev Zh9:Prop:=
 ([]:List Nat)= []/\(0:Int)=(0:Int)/\aG au (0:Nat) (0:Nat)=aG au (0:Nat) (0:Nat)/\True
abbrev Xr(J:List Nat) (I:Int):Prop:=
 J=J/\I=I/\aG au (0:Nat) (0:Nat)=aG au (0:Nat) (0:Nat)/\True
abbrev Yz(a:Tar):Prop:=
 ar a=ar a/\(ab=ac->ab=ac)
abbrev Zia(R:Bool×AmX->Prop) (y:AmX) (a:Tar) (U:List Nat) (J:Int):Prop:=
 ∃(I:AmX),R (ab,I)/\I.2+(1:Nat)<=y.2/\ac=ac/\((0:Nat)=(0:Nat)/\(0:Nat)=(0:Nat)/\True/\False/\(Yz a)/\(↑(aa
 (ar a)):Int)=(↑(aa (ar a)):Int)/\wr af ((↑(AmX.k y):Int)+(1:Int))=(↑(AmX.k I):Int)/\True)/\(Zi (Zl E bq
 ac) (AmX.m y)=Zi (Zl E bq ac) (AmX.m I)/\nidE (0:Nat) (Zi (Zl E bq ac) (AmX.m y))=ac)/\(Xr U J)/\(Zh9)/\True
abbrev Zdz(y:AmX) (I:AmX):Prop:=
 Zi (Zl E bq ac) (AmX.m y)=Zi (Zl E bq ac) (AmX.m I)/\nidE (0:Nat) (Zi (Zl E bq ac) (AmX.m y))=ac
abbrev Zib(I:Cls):=
 (eP (aP I) (aV I) (bU (aJ (aA I)) (bW (aA I)) (bx (aA I)) (bA (aA I)) (bB (aA I)) (bC (aA I))
 (bw (aA I))))
abbrev Zic(x:Cls):=
 (bU (aJ (aA x)) (bW (aA x)) (bx (aA x)) (bA (aA x)) (bB (aA x)) (bC (aA x)) (bw (aA x)))
abbrev Zau(y:AmX) (a:Tar):Prop:=
 (↑(AmX.k y):Int)<(↑(aa (ar a)):Int)
abbrev Zid(y:AmX) (I:AmX):Prop:=
 Zi (Zl E bq ac) (AmX.m y)=Zi (Zl E bq ac) (AmX.m I)/\nidE (0:Nat) (Zi (Zl E bq ac) (AmX.m y))=ac
noncomputable abbrev qDLb:=(0:Nat)
noncomputable abbrev qDLg:=(1:Nat)
noncomputable abbrev qDL9:=(Zl E bq (Zh (hJ #[fL "Name" (9:TypeId) qDLb ab "" "" qDLb,fL "When" (61:TypeId) qDLg ab "" "" (16:Nat),fL "Pay" (66:TypeId) (2:Nat) ab "" "" (40:Nat)])))
noncomputable abbrev qDLa(I:Tar):=(↑(aa (ar I)):Int)
noncomputable abbrev qDLc(I:AmX):=(↑(AmX.k I):Int)
noncomputable abbrev qDLd:=(Zl E bq ac)
noncomputable abbrev qDLe(I:List (List Nat×Cls)):=(∀(p:List Nat×Cls),p∈I->toL (mkS (ao p))=ao p)
noncomputable abbrev qDLf(I:AmX):=((qDLc I)+(1:Int))
noncomputable abbrev qDLh:=(Zh9)
theorem Zsl(U:List Nat) (J:Int) (a:Tar) (z:Tar):Zk E Fam0 (vc E Fam0 400) 35 [.agg [.str ab U,.int ab .i64 J,.val (.slice au 0 0)],.agg (encF ab .tariffs a)] hp0 0 (λr=>ret E (patch hp0 0 r) r.v (tarE z))=(
 ∃(R:AmX->Prop),(∃(x:AmX),R x/\ac=ac/\(qDLb=qDLb/\qDLb=qDLb/\qDLb=qDLb/\True/\(Yz a)/\(qDLa a)=(qDLa a)/\(0:Int)=(qDLc x)/\True)/\([]=Zi qDLd (AmX.m x)/\ac=ac)/\(Xr U J)/\(bN a=bN a/\bI a=bI a/\(Yz a)/\True)/\qDLh/\True)/\∀(x:AmX),R x->(decide ((qDLc x)<(qDLa a))=ac->(0:Int)<=(qDLc x)/\(qDLc x)+(1:Int)<=(qDLa a)/\∀(a1:Cls),(ar a)[ag (qDLc x)]? =ae a1->∃(l:List (List Nat×Cls)),Zi qDLd (AmX.m x)=Zi qDL9 l/\(qDLe l)/\toL (mkS (aP a1))=aP a1/\∃(a2:AmX),R a2/\a2.2+qDLg<=x.2/\ac=ac/\(qDLb=qDLb/\qDLb=qDLb/\qDLb=qDLb/\True/\(Yz a)/\(qDLa a)=(qDLa a)/\wr af (qDLf x)=(qDLc a2)/\True)/\(Zi qDL9 (putS l (aP a1) (Zib a1))=Zi qDLd (AmX.m a2)/\nidE qDLb (Zi qDL9 (putS l (aP a1) (Zib a1)))=ac)/\(Xr U J)/\(bN a=bN a/\bI a=bI a/\(Yz a)/\True)/\qDLh/\True)/\(decide ((qDLc x)<(qDLa a))=ab->∃(R:Bool×AmX->Prop),((∃(y:AmX),R (ab,y)/\ac=ac/\(qDLb=qDLb/\qDLb=qDLb/\True/\aG au qDLb qDLb=aG au qDLb qDLb/\(Yz a)/\(qDLa a)=(qDLa a)/\(0:Int)=(qDLc y)/\True)/\(Zi qDLd (AmX.m x)=Zi qDLd (AmX.m y)/\nidE qDLb (Zi qDLd (AmX.m x))=ac)/\(Xr U J)/\qDLh/\True)\/∃(y:AmX),R (ac,y)/\ac=ac/\False)/\(∀(y:AmX),R (ab,y)->(decide (Zau y a)=ac->(0:Int)<=(qDLc y)/\(qDLc y)+(1:Int)<=(qDLa a)/\∀(x:Cls),(ar a)[ag (qDLc y)]? =ae x->∃(l:List (List Nat×Cls)),Zi qDLd (AmX.m y)=Zi qDL9 l/\(qDLe l)/\(∀(I:Cls),Z4 l (aP x)=ae I->(Zia R y a U J)\/∃(a0:AmX),R (ac,a0)/\a0.2+qDLg<=y.2/\ac=ac/\(qDLb=qDLb/\qDLb=qDLb/\True/\(qDLb=qDLb/\qDLg=aa (AmX.L a0)/\True)/\(Yz a)/\(qDLa a)=(qDLa a)/\wr af (qDLf y)=(qDLc a0)/\True)/\(Zid y a0)/\([eP (aP x) (aV x) (Zic x)]=AmX.L a0/\qDLb=qDLb)/\(Xr U J)/\qDLh/\True)/\(Z4 l (aP x)=au->(∃(I:AmX),R (ab,I)/\I.2+qDLg<=y.2/\ac=ac/\(qDLb=qDLb/\qDLb=qDLb/\True/\aG au qDLb qDLb=aG au qDLb qDLb/\(Yz a)/\(qDLa a)=(qDLa a)/\wr af (qDLf y)=(qDLc I)/\True)/\(Zdz y I)/\(Xr U J)/\qDLh/\True)\/∃(I:AmX),R (ac,I)/\I.2+qDLg<=y.2/\ac=ac/\False))/\(decide (Zau y a)=ab->U=bN z/\J=bI z/\ar z= []/\True))/\∀(y:AmX),R (ac,y)->(decide (Zau y a)=ac->(0:Int)<=(qDLc y)/\(qDLc y)+(1:Int)<=(qDLa a)/\∀(x:Cls),(ar a)[ag (qDLc y)]? =ae x->∃(l:List (List Nat×Cls)),Zi qDLd (AmX.m y)=Zi qDL9 l/\(qDLe l)/\(∀(I:Cls),Z4 l (aP x)=ae I->(aa (AmX.L y)<=aa (AmX.L y)/\qDLb<=aa (AmX.L y)/\(aa (AmX.L y)+qDLg)*(112:Nat)<=(140737488355328:Nat))/\((Zia R y a U J)\/∃(a0:AmX),R (ac,a0)/\a0.2+qDLg<=y.2/\ac=ac/\(qDLb=qDLb/\qDLb=qDLb/\True/\(qDLb=qDLb/\aa (AmX.L y)+qDLg=aa (AmX.L a0)/\True)/\(Yz a)/\(qDLa a)=(qDLa a)/\wr af (qDLf y)=(qDLc a0)/\True)/\(Zid y a0)/\(av (aa (AmX.L y)) (AmX.L y)++ [eP (aP x) (aV x) (Zic x)]=AmX.L a0/\qDLb=qDLb)/\(Xr U J)/\qDLh/\True))/\(Z4 l (aP x)=au->(∃(I:AmX),R (ab,I)/\I.2+qDLg<=y.2/\ac=ac/\(qDLb=qDLb/\qDLb=qDLb/\True/\False/\(Yz a)/\(qDLa a)=(qDLa a)/\wr af (qDLf y)=(qDLc I)/\True)/\(Zdz y I)/\(Xr U J)/\qDLh/\True)\/∃(I:AmX),R
(ac,I)/\I.2+qDLg<=y.2/\ac=ac/\(qDLb=qDLb/\qDLb=qDLb/\True/\(qDLb=qDLb/\aa (AmX.L y)=aa (AmX.L I)/\True)/\(Yz a)/\(qDLa a)=(qDLa a)/\wr af (qDLf y)=(qDLc I)/\True)/\(Zdz y I)/\(AmX.L y=AmX.L I/\qDLb=qDLb)/\(Xr U J)/\qDLh/\True))/\(decide (Zau y a)=ab->U=bN z/\J=bI z/\(qDLb+aa (AmX.L y)<=aa (AmX.L y)/\av (aa (AmX.L y)) (AmX.L y)=ar z)/\True))):=by kernel_rfl
abbrev Zpf:Prop:=
 ([]:List Nat)= []/\(0:Int)=(0:Int)/\aG au (0:Nat) (0:Nat)=aG au (0:Nat) (0:Nat)/\True
abbrev Xe(J:List Nat) (I:Int) (b:Addr) (c:Nat):Prop:=
 J=J/\I=I/\aG (ae b) (0:Nat) c=aG (ae b) (0:Nat) c/\True
abbrev Y0(a:Tar):Prop:=
 ar a=ar a/\(ab=ac->ab=ac)
abbrev Zav(y:AmX) (I:AmX):Prop:=
 Zi (Zl E bq ac) (AmX.m y)=Zi (Zl E bq ac) (AmX.m I)/\nidE (0:Nat) (Zi (Zl E bq ac) (AmX.m y))=ac
abbrev Zd0(y:AmX) (I:AmX):Prop:=
 Zi (Zl E bq ac) (AmX.m y)=Zi (Zl E bq ac) (AmX.m I)/\nidE (0:Nat) (Zi (Zl E bq ac) (AmX.m y))=ac
abbrev Zie(a:Tar) (y:AmX) (I:AmX):Prop:=
 (0:Nat)=(0:Nat)/\(0:Nat)=(0:Nat)/\True/\False/\(Y0 a)/\(↑(aa (ar a)):Int)=(↑(aa (ar a)):Int)/\wr af
 ((↑(AmX.k y):Int)+(1:Int))=(↑(AmX.k I):Int)/\True
abbrev Zif(I:Cls):=
 (eP (aP I) (aV I) (bU (aJ (aA I)) (bW (aA I)) (bx (aA I)) (bA (aA I)) (bB (aA I)) (bC (aA I))
 (bw (aA I))))
abbrev Zig(x:Cls):=
 (bU (aJ (aA x)) (bW (aA x)) (bx (aA x)) (bA (aA x)) (bB (aA x)) (bC (aA x)) (bw (aA x)))
abbrev Zaw(y:AmX) (a:Tar):Prop:=
 (↑(AmX.k y):Int)<(↑(aa (ar a)):Int)
noncomputable abbrev qDLp:=(1:Nat)
noncomputable abbrev qDLk:=(0:Nat)
noncomputable abbrev qDLi:=(Zl E bq (Zh (hJ #[fL "Name" (9:TypeId) qDLk ab "" "" qDLk,fL "When" (61:TypeId) qDLp ab "" "" (16:Nat),fL "Pay" (66:TypeId) (2:Nat) ab "" "" (40:Nat)])))
noncomputable abbrev qDLj(I:Tar):=(↑(aa (ar I)):Int)
noncomputable abbrev qDLl(I:AmX):=(↑(AmX.k I):Int)
noncomputable abbrev qDLm:=(Zl E bq ac)
noncomputable abbrev qDLn(I:List (List Nat×Cls)):=(∀(p:List Nat×Cls),p∈I->toL (mkS (ao p))=ao p)
noncomputable abbrev qDLo:=([]:List Cls)
noncomputable abbrev qDLq:=(Zpf)
noncomputable abbrev qDLr(I:AmX):=((qDLl I)+(1:Int))
theorem Zsm(a0:List Nat) (U:Int) (b:Addr) (c:Nat) (a:Tar) (z:Tar):Zk E Fam0 (vc E Fam0 400) 35 [.agg [.str ab a0,.int ab .i64 U,.val (.slice (ae b) 0 c)],.agg (encF ab .tariffs a)] hp0 0 (λr=>ret E (patch hp0 0 r) r.v (tarE z))=(
 ∃(R:AmX->Prop),(∃(x:AmX),R x/\ac=ac/\(qDLk=qDLk/\qDLk=qDLk/\qDLk=qDLk/\True/\(Y0 a)/\(qDLj a)=(qDLj a)/\(0:Int)=(qDLl x)/\True)/\([]=Zi qDLm (AmX.m x)/\ac=ac)/\(Xe a0 U b c)/\(bN a=bN a/\bI a=bI a/\(Y0 a)/\True)/\qDLq/\True)/\∀(x:AmX),R x->(decide ((qDLl x)<(qDLj a))=ac->(0:Int)<=(qDLl x)/\(qDLl x)+(1:Int)<=(qDLj a)/\∀(a1:Cls),(ar a)[ag (qDLl x)]? =ae a1->∃(l:List (List Nat×Cls)),Zi qDLm (AmX.m x)=Zi qDLi l/\(qDLn l)/\toL (mkS (aP a1))=aP a1/\∃(a2:AmX),R a2/\a2.2+qDLp<=x.2/\ac=ac/\(qDLk=qDLk/\qDLk=qDLk/\qDLk=qDLk/\True/\(Y0 a)/\(qDLj a)=(qDLj a)/\wr af (qDLr x)=(qDLl a2)/\True)/\(Zi qDLi (putS l (aP a1) (Zif a1))=Zi qDLm (AmX.m a2)/\nidE qDLk (Zi qDLi (putS l (aP a1) (Zif a1)))=ac)/\(Xe a0 U b c)/\(bN a=bN a/\bI a=bI a/\(Y0 a)/\True)/\qDLq/\True)/\(decide ((qDLl x)<(qDLj a))=ab->c<=maxLen/\∃(R:Bool×AmX->Prop),((∃(y:AmX),R (ab,y)/\ac=ac/\(qDLk=qDLk/\qDLk=qDLk/\True/\(qDLk=qDLk/\qDLk=qDLk/\qDLk=qDLk)/\(Y0 a)/\(qDLj a)=(qDLj a)/\(0:Int)=(qDLl y)/\True)/\(Zi qDLm (AmX.m x)=Zi qDLm (AmX.m y)/\nidE qDLk (Zi qDLm (AmX.m x))=ac)/\qDLo= []/\(Xe a0 U b c)/\qDLq/\True)\/∃(y:AmX),R (ac,y)/\ac=ac/\False)/\(∀(y:AmX),R (ab,y)->(decide (Zaw y a)=ac->(0:Int)<=(qDLl y)/\(qDLl y)+(1:Int)<=(qDLj a)/\∀(x:Cls),(ar a)[ag (qDLl y)]? =ae x->∃(l:List (List Nat×Cls)),Zi qDLm (AmX.m y)=Zi qDLi l/\(qDLn l)/\(∀(I:Cls),Z4 l (aP x)=ae I->qDLk+qDLk<=qDLk/\(qDLk+qDLp<=aa (av qDLk qDLo)+qDLp/\(aa (av qDLk qDLo)+qDLp)*(112:Nat)<=(140737488355328:Nat))/\((∃(J:AmX),R (ab,J)/\J.2+qDLp<=y.2/\ac=ac/\(Zie a y J)/\(Zav y J)/\(qDLo= []/\qDLk=qDLk)/\(Xe a0 U b c)/\qDLq/\True)\/∃(J:AmX),R (ac,J)/\J.2+qDLp<=y.2/\ac=ac/\(qDLk=qDLk/\qDLk=qDLk/\True/\(qDLk=qDLk/\aa (av qDLk qDLo)+qDLp=aa (AmX.L J)/\True)/\(Y0 a)/\(qDLj a)=(qDLj a)/\wr af (qDLr y)=(qDLl J)/\True)/\(Zav y J)/\(av qDLk qDLo++ [eP (aP x) (aV x) (Zig x)]=AmX.L J/\qDLk=qDLk)/\(Xe a0 U b c)/\qDLq/\True))/\(Z4 l (aP x)=au->(∃(I:AmX),R (ab,I)/\I.2+qDLp<=y.2/\ac=ac/\(qDLk=qDLk/\qDLk=qDLk/\True/\(qDLk=qDLk/\qDLk=qDLk/\qDLk=qDLk)/\(Y0 a)/\(qDLj a)=(qDLj a)/\wr af (qDLr y)=(qDLl I)/\True)/\(Zd0 y I)/\(qDLo= []/\qDLk=qDLk)/\(Xe a0 U b c)/\qDLq/\True)\/∃(I:AmX),R (ac,I)/\I.2+qDLp<=y.2/\ac=ac/\False))/\(decide (Zaw y a)=ab->a0=bN z/\U=bI z/\(qDLk+qDLk<=qDLk/\av qDLk qDLo=ar z)/\True))/\∀(y:AmX),R (ac,y)->(decide (Zaw y a)=ac->(0:Int)<=(qDLl y)/\(qDLl y)+(1:Int)<=(qDLj a)/\∀(x:Cls),(ar a)[ag (qDLl y)]? =ae x->∃(l:List (List Nat×Cls)),Zi qDLm (AmX.m y)=Zi qDLi l/\(qDLn l)/\(∀(I:Cls),Z4 l (aP x)=ae I->(aa (AmX.L y)<=aa (AmX.L y)/\qDLk<=aa (AmX.L y)/\(aa (AmX.L y)+qDLp)*(112:Nat)<=(140737488355328:Nat))/\((∃(J:AmX),R (ab,J)/\J.2+qDLp<=y.2/\ac=ac/\(Zie a y J)/\(Zav y J)/\False/\(Xe a0 U b c)/\qDLq/\True)\/∃(J:AmX),R (ac,J)/\J.2+qDLp<=y.2/\ac=ac/\(qDLk=qDLk/\qDLk=qDLk/\True/\(qDLk=qDLk/\aa (AmX.L y)+qDLp=
aa (AmX.L J)/\True)/\(Y0 a)/\(qDLj a)=(qDLj a)/\wr af (qDLr y)=(qDLl J)/\True)/\(Zav y J)/\(av (aa (AmX.L y)) (AmX.L y)++ [eP (aP x) (aV x) (Zig x)]=AmX.L J/\qDLk=qDLk)/\(Xe a0 U b c)/\qDLq/\True))/\(Z4 l (aP x)=au->(∃(I:AmX),R (ab,I)/\I.2+qDLp<=y.2/\ac=ac/\(qDLk=qDLk/\qDLk=qDLk/\True/\False/\(Y0 a)/\(qDLj a)=(qDLj a)/\wr af (qDLr y)=(qDLl I)/\True)/\(Zd0 y I)/\False/\(Xe a0 U b c)/\qDLq/\True)\/∃(I:AmX),R (ac,I)/\I.2+qDLp<=y.2/\ac=ac/\(qDLk=qDLk/\qDLk=qDLk/\True/\(qDLk=qDLk/\aa (AmX.L y)=aa (AmX.L I)/\True)/\(Y0 a)/\(qDLj a)=(qDLj a)/\wr af (qDLr y)=(qDLl I)/\True)/\(Zd0 y I)/\(AmX.L y=AmX.L I/\qDLk=qDLk)/\(Xe a0 U b c)/\qDLq/\True))/\(decide (Zaw y a)=ab->a0=bN z/\U=bI z/\(qDLk+aa (AmX.L y)<=aa (AmX.L y)/\av (aa (AmX.L y)) (AmX.L y)=ar z)/\True))):=by kernel_rfl
noncomputable def Zax(m:List (List Nat×Cls)) (l:List Cls):List (List Nat×Cls):=l.foldl (λm c=>putS m c.name c) m
noncomputable def Wz:List (List Nat×Cls)->List Cls->List Cls×List (List Nat×Cls)
 |m,[]=>([],m)
 |m,c::r=>match Z4 m c.name with
  |some d=>(d::(Wz (delS m c.name) r).1,(Wz (delS m c.name) r).2)
  |none=>(c::(Wz m r).1,(Wz m r).2)
noncomputable def Zb9(m:List (List Nat×Cls)) (l:List Cls):List Cls:=l.filter λc=>(Z4 m c.name).isSome
noncomputable def amF(t a:Tar):Tar:=⟨t.name,t.for_,(Wz (Zax [] a.clauses) t.clauses).1++Zb9 (Wz (Zax [] a.clauses) t.clauses).2 a.clauses⟩
theorem Zih:∀(l:List Cls) (m:List (List Nat×Cls)),(Wz m l).1.length=l.length
 | [],m=>rfl
 |c::r,m=>by
  unfold Wz
  cases Z4 m c.name with
  |none=>simp[Zih r]
  |some d=>simp[Zih r]
theorem Zmm{J:Type}:∀(m:List (List Nat×J)) (a:List Nat),∀p∈delS m a,p∈m
 | [],a,p,I=>by rw[delS] at I;exact I
 |q::m,a,p,I=>by
  rw[delS] at I
  split at I
  ·exact aX _ I
  ·rcases aL.1 I with rfl|I
   ·exact cB ..
   ·exact aX _ (Zmm m a p I)
theorem Y1{m:List (List Nat×Cls)} {l:List Cls} {k:Nat} {c:Cls} (h:l[k]? =ae c):Zb9 m (l.take (k+1))=Zb9 m (l.take k)++(if(Z4 m c.name).isSome then[c] else[]):=by
 unfold Zb9;rw[cz,h,fS,fJ]
 congr 1
 cases e:(Z4 m c.name).isSome<;>simp[e]
theorem Z2v{f:FuncId} {R:List Nat} {J:Int} {rest:List (SV thy)} {r:SV thy} (h1:PureC E f (.agg [.str ab R,.int ab .i64 J,.val (.slice au 0 0)]::rest) r) (h2:∀b c,c<=maxLen->PureC E f (.agg [.str ab R,.int ab .i64 J,.val (.slice (ae b) 0 c)]::rest) r):PureC E f (.agg [.str ab R,.int ab .i64 J,.psl bq [] ab]::rest) r:=by
 intro g w U hI hd;have a1:0<U.toList.length:=by rw[<-hd.1];exact Nat.succ_pos _
 have h0:=hd.2 0 _ _ rfl (ai a1);have key:∀v:Value,(∀u,Den E σ0 g (.psl bq [] ab) u->Den E σ0 g (.val v) u)->False->True:=λ_ _ _=>trivial;obtain⟨arr,c,he,hs,hc,a0⟩:=Ye h0;obtain⟨base,cc,cv,hv,a4,a3,_,hn,_⟩:=Vb (a0 2 _ rfl);have mk:∀v:Value,c 2=v->DenL E σ0 g (.agg [.str ab R,.int ab .i64 J,.val v]::rest) U.toList:=by
  intro v a2;refine⟨hd.1,λj sv u I hu=> ?_⟩;cases j with
  |zero=>
   rw[ai a1] at hu;cases hu;cases I;rw[he];refine .agg c hs (λj I=>hc j I) λj a5 I=> ?_
   match j,I with
   |0,I=>cases I;exact a0 0 _ rfl
   |1,I=>cases I;exact a0 1 _ rfl
   |2,I=>cases I;rw[a2];exact .val _
  |succ j=>exact hd.2 (j+1) sv u I hu
 cases base with
 |none=>exact h1 g w U hI (mk _ (by rw[hv,hn rfl];rfl))
 |some b=>exact h2 b cc a3 g w U hI (mk _ hv)
theorem Zii{l:List Cls} {k:Nat} {c:Cls} {m:List (List Nat×Cls)} (h:l[k]? =ae c):Zax m (l.drop k)=Zax (putS m c.name c) (l.drop (k+1)):=by rw[Z0 h];rfl
theorem Ze9{m:List (List Nat×Cls)} {c d:Cls} {r:List Cls} (h:Z4 m c.name=ae d):Wz m (c::r)=(d::(Wz (delS m c.name) r).1,(Wz (delS m c.name) r).2):=by rw[Wz,h]
theorem Zfa{m:List (List Nat×Cls)} {c:Cls} {r:List Cls} (h:Z4 m c.name=au):Wz m (c::r)=(c::(Wz m r).1,(Wz m r).2):=by rw[Wz,h]
theorem Z2w(t a:Tar) (h0:t.clauses≠ []) (hl:t.clauses.length<=100000) (a7:a.clauses.length<=100000):PureC E 35 [.agg (encF ab .tariffs t),.agg (encF ab .tariffs a)] (tarE (amF t a)):=by
 refine Zhz (j:=1) rfl (λg u h=>Zjd (t:=a) h) λa1=>Zhz (j:=0) rfl (λg u h=>Zjd (t:=t) h) λa5=>Za E_ok (Zd E_ok Yio 400) ?_;rw[Zx3];delta qDL8 qDL2 qDL1 qDL3 qDL4 qDL5 qDL6 qDL7;unfold Zml Zdy Zdx Zdw Zbt Zge Zgd Uy Vg Vf;simp only[Zji,bt,bk,decide_eq_true_eq,decide_eq_false_iff_not,true_and,and_true,imp_self,implies_true,Zh];refine⟨λx=>x.k<=a.clauses.length/\(∀p∈x.m,Byt p.1)/\Zax x.m (a.clauses.drop x.k)=Zax [] a.clauses/\x.r=a.clauses.length-x.k,⟨⟨0,a.clauses.length,[],[]⟩,⟨bb _,(λp hp=>by cases hp),rfl,rfl⟩,rfl,rfl⟩,?_⟩
 rintro x ⟨hk,J,hp,hr⟩;refine aB (λh=>⟨by omega,by omega,λc I=>⟨x.m,rfl,J,a1.2 c (aI I),⟨x.k+1,a.clauses.length-(x.k+1),putS x.m c.name c,[]⟩,⟨(by dsimp only;omega),Zbz J (a1.2 c (aI I)),(by rw[<-hp,Zii I]),rfl⟩,(by dsimp only;omega),wr64 (by omega) (by omega),rfl,Zo E_ok _⟩⟩) (λh=> ?_);have a4:x.m=Zax [] a.clauses:=by rw[<-hp,bF (by omega)];rfl
 generalize x.m=m1 at*;refine⟨⟨h0,by omega⟩,λy hy=> ?_⟩;subst hy;refine⟨λx=>x.k<=t.clauses.length/\(∀p∈x.m,Byt p.1)/\(∃done,x.L=done++t.clauses.drop x.k/\done.length=x.k/\done++(Wz x.m (t.clauses.drop x.k)).1=(Wz m1 t.clauses).1)/\(Wz x.m (t.clauses.drop x.k)).2=(Wz m1 t.clauses).2/\x.r=t.clauses.length-x.k,⟨⟨0,t.clauses.length,m1,t.clauses⟩,⟨bb _,J,⟨[],rfl,rfl,rfl⟩,rfl,rfl⟩,rfl,⟨rfl,Zo E_ok _⟩,rfl⟩,?_⟩;rintro x ⟨hk,J,⟨dn,R,h2,h3⟩,h4,hr⟩;have a3:x.L.length=t.clauses.length:=by rw[R,aC,List.length_drop];omega
 refine aB (λh=>⟨⟨by omega,by omega⟩,by omega,λc I=>⟨x.m,rfl,J,λd hd=> ?_,λhd=> ?_⟩⟩) (λh=> ?_)
 ·have U:t.clauses[x.k]? =ae c:=by rw[R,br (by omega),cE] at I;rw[<-I];congr 1;omega
  refine⟨⟨by omega,by omega⟩,bb _,by omega,λc2 a6=>⟨x.m,rfl,J,⟨x.k+1,t.clauses.length-(x.k+1),delS x.m c.name,x.L.set x.k d⟩,⟨(by dsimp only;omega),(λp hp=>J p (Zmm _ _ p hp)),⟨dn++ [d],?_,?_,?_⟩,?_,rfl⟩,(by dsimp only;omega),wr64 (by omega) (by omega),⟨rfl,Zo E_ok _⟩,rfl⟩⟩
  ·dsimp only
   rw[R,Z0 U,gF _ _ (by omega),h2,dY,List.set_cons_zero,bE];rfl
  ·rw[aC,h2];rfl
  ·dsimp only
   rw[<-h3,Z0 U,Ze9 hd,bE];rfl
  ·dsimp only
   rw[<-h4,Z0 U,Ze9 hd]
 ·have U:t.clauses[x.k]? =ae c:=by rw[R,br (by omega),cE] at I;rw[<-I];congr 1;omega
  refine⟨⟨x.k+1,t.clauses.length-(x.k+1),x.m,x.L⟩,⟨(by dsimp only;omega),J,⟨dn++ [c],?_,?_,?_⟩,?_,rfl⟩,(by dsimp only;omega),wr64 (by omega) (by omega),⟨rfl,Zo E_ok _⟩,rfl⟩
  ·dsimp only
   rw[R,Z0 U,bE];rfl
  ·rw[aC,h2];rfl
  ·dsimp only
   rw[<-h3,Z0 U,Zfa hd,bE];rfl
  ·dsimp only
   rw[<-h4,Z0 U,Zfa hd]
 have a2:t.clauses.drop x.k= []:=bF (by omega);rw[a2] at R h3 h4;have hL:x.L=(Wz m1 t.clauses).1:=by rw[R,<-h3];rfl
 have hM:x.m=(Wz m1 t.clauses).2:=h4;generalize x.m=m2 at*;generalize x.L=l2 at*;refine⟨λx=>x.k<=a.clauses.length/\x.m=m2/\x.L=l2++Zb9 m2 (a.clauses.take x.k)/\x.r=a.clauses.length-x.k,⟨⟨0,a.clauses.length,m2,l2⟩,⟨bb _,rfl,(du _).symm,rfl⟩,⟨a3.symm,rfl⟩,⟨rfl,Zo E_ok _⟩,rfl⟩,?_⟩;rintro x ⟨hk,a0,h5,hr⟩;have a8:x.L.length<=200000:=by
  have h6:(Zb9 m2 (a.clauses.take x.k)).length<=(a.clauses.take x.k).length:=dd ..;rw[be] at h6;rw[h5,aC];omega
 refine aB (λh=>⟨by omega,by omega,λc I=>⟨x.m,rfl,(by rw[a0];exact J),λd hd=> ?_,λhd=> ?_⟩⟩) (λh=> ?_)
 ·refine⟨⟨aw _,bb _,by omega⟩,⟨x.k+1,a.clauses.length-(x.k+1),x.m,x.L++ [c]⟩,⟨(by dsimp only;omega),a0,?_,rfl⟩,(by dsimp only;omega),⟨(by dsimp only;rw[aC];rfl),wr64 (by omega) (by omega)⟩,⟨rfl,Zo E_ok _⟩,by rw[aW]⟩
  dsimp only;rw[a0] at hd;rw[Y1 I,hd,h5,bE];rfl
 ·refine⟨⟨x.k+1,a.clauses.length-(x.k+1),x.m,x.L⟩,⟨(by dsimp only;omega),a0,?_,rfl⟩,(by dsimp only;omega),⟨rfl,wr64 (by omega) (by omega)⟩,⟨rfl,Zo E_ok _⟩,rfl⟩
  dsimp only;rw[a0] at hd;rw[Y1 I,hd,h5];exact congrArg (l2++ ·) (du _).symm
 ·refine⟨rfl,rfl,aw _,?_⟩
  rw[aW,h5,bg (by omega),hL,hM,a4];rfl
theorem Z2x(nm:List Nat) (fo:Int) (a:Tar) (a3:a.clauses.length<=100000):PureC E 35 [.agg [.str ab nm,.int ab .i64 fo,.val (.slice au 0 0)],.agg (encF ab .tariffs a)] (tarE (amF ⟨nm,fo,[]⟩ a)):=by
 refine Zhz (j:=1) rfl (λg u h=>Zjd (t:=a) h) λa0=>Za E_ok (Zd E_ok Z2u 400) ?_;rw[Zsl];delta qDLb qDLg qDL9 qDLa qDLc qDLd qDLe qDLf qDLh;unfold Zid Zau Zic Zib Zdz Zia Yz Xr Zh9;simp only[Zji,bt,bk,decide_eq_true_eq,decide_eq_false_iff_not,true_and,and_true,imp_self,implies_true,Zh,false_and,and_false,or_false,false_or,exists_false,dZ,eV,bh]
 refine⟨λx=>x.k<=a.clauses.length/\(∀p∈x.m,Byt p.1)/\Zax x.m (a.clauses.drop x.k)=Zax [] a.clauses/\x.r=a.clauses.length-x.k,⟨⟨0,a.clauses.length,[],[]⟩,⟨bb _,(λp hp=>by cases hp),rfl,rfl⟩,rfl,rfl⟩,?_⟩;rintro x ⟨hk,hm,hp,hr⟩;refine aB (λh=>⟨by omega,by omega,λc R=>⟨x.m,rfl,hm,a0.2 c (aI R),⟨x.k+1,a.clauses.length-(x.k+1),putS x.m c.name c,[]⟩,⟨(by dsimp only;omega),Zbz hm (a0.2 c (aI R)),(by rw[<-hp,Zii R]),rfl⟩,(by dsimp only;omega),wr64 (by omega) (by omega),rfl,Zo E_ok _⟩⟩) (λh=> ?_)
 have a2:x.m=Zax [] a.clauses:=by rw[<-hp,bF (by omega)];rfl
 generalize x.m=U at*;have a1:(amF ⟨nm,fo,[]⟩ a).clauses=Zb9 U a.clauses:=by rw[a2];rfl
 refine⟨λp=>p.2.k<=a.clauses.length/\p.2.m=U/\(match p.1 with|false=>Zb9 U (a.clauses.take p.2.k)= []|true=>p.2.L=Zb9 U (a.clauses.take p.2.k))/\p.2.r=a.clauses.length-p.2.k,⟨⟨0,a.clauses.length,U,[]⟩,⟨bb _,rfl,rfl,rfl⟩,rfl,rfl,Zo E_ok _⟩,?_,?_⟩
 ·rintro x ⟨hk,I,J,hr⟩
  dsimp only at hk I J hr;refine aB (λh=>⟨by omega,by omega,λc R=>⟨x.m,rfl,(by rw[I];exact hm),λd hd=>⟨⟨x.k+1,a.clauses.length-(x.k+1),x.m,[c]⟩,⟨(by dsimp only;omega),I,?_,rfl⟩,(by dsimp only;omega),⟨rfl,wr64 (by omega) (by omega)⟩,⟨rfl,Zo E_ok _⟩,rfl⟩,λhd=>⟨⟨x.k+1,a.clauses.length-(x.k+1),x.m,[]⟩,⟨(by dsimp only;omega),I,?_,rfl⟩,(by dsimp only;omega),wr64 (by omega) (by omega),rfl,Zo E_ok _⟩⟩⟩) (λh=>⟨rfl,rfl,?_⟩)
  ·dsimp only
   rw[I] at hd;rw[Y1 R,hd,J];rfl
  ·dsimp only
   rw[I] at hd;rw[Y1 R,hd,J];rfl
  ·rw[bg (by omega)] at J
   rw[a1,J]
 ·rintro x ⟨hk,I,J,hr⟩
  dsimp only at hk I J hr;have a4:x.L.length<=100000:=by
   have h6:(Zb9 U (a.clauses.take x.k)).length<=(a.clauses.take x.k).length:=dd ..;rw[be] at h6;rw[J];omega
  refine aB (λh=>⟨by omega,by omega,λc R=>⟨x.m,rfl,(by rw[I];exact hm),λd hd=> ?_,λhd=> ?_⟩⟩) (λh=> ?_)
  ·refine⟨⟨aw _,bb _,by omega⟩,⟨x.k+1,a.clauses.length-(x.k+1),x.m,x.L++ [c]⟩,⟨(by dsimp only;omega),I,?_,rfl⟩,(by dsimp only;omega),⟨(by dsimp only;rw[aC];rfl),wr64 (by omega) (by omega)⟩,⟨rfl,Zo E_ok _⟩,by rw[aW]⟩
   dsimp only;rw[I] at hd;rw[Y1 R,hd,J];rfl
  ·refine⟨⟨x.k+1,a.clauses.length-(x.k+1),x.m,x.L⟩,⟨(by dsimp only;omega),I,?_,rfl⟩,(by dsimp only;omega),⟨rfl,wr64 (by omega) (by omega)⟩,⟨rfl,Zo E_ok _⟩,rfl⟩
   dsimp only;rw[I] at hd;rw[Y1 R,hd,J];exact(du _).symm
  ·refine⟨rfl,rfl,aw _,?_⟩
   rw[aW,J,bg (by omega),a1]
theorem Z2y(nm:List Nat) (fo:Int) (a:Tar) (b:Addr) (c:Nat) (a2:c<=maxLen) (a4:a.clauses.length<=100000):PureC E 35 [.agg [.str ab nm,.int ab .i64 fo,.val (.slice (ae b) 0 c)],.agg (encF ab .tariffs a)] (tarE (amF ⟨nm,fo,[]⟩ a)):=by
 refine Zhz (j:=1) rfl (λg u h=>Zjd (t:=a) h) λa0=>Za E_ok (Zd E_ok Z2u 400) ?_;rw[Zsm];delta qDLp qDLk qDLi qDLj qDLl qDLm qDLn qDLo qDLq qDLr;unfold Zaw Zig Zif Zie Zd0 Zav Y0 Xe Zpf;simp only[Zji,bt,bk,decide_eq_true_eq,decide_eq_false_iff_not,true_and,and_true,imp_self,implies_true,Zh,false_and,and_false,or_false,false_or,exists_false,dZ,eV,bh]
 refine⟨λx=>x.k<=a.clauses.length/\(∀p∈x.m,Byt p.1)/\Zax x.m (a.clauses.drop x.k)=Zax [] a.clauses/\x.r=a.clauses.length-x.k,⟨⟨0,a.clauses.length,[],[]⟩,⟨bb _,(λp hp=>by cases hp),rfl,rfl⟩,rfl,rfl⟩,?_⟩;rintro x ⟨hk,hm,hp,hr⟩;refine aB (λh=>⟨by omega,by omega,λc R=>⟨x.m,rfl,hm,a0.2 c (aI R),⟨x.k+1,a.clauses.length-(x.k+1),putS x.m c.name c,[]⟩,⟨(by dsimp only;omega),Zbz hm (a0.2 c (aI R)),(by rw[<-hp,Zii R]),rfl⟩,(by dsimp only;omega),wr64 (by omega) (by omega),rfl,Zo E_ok _⟩⟩) (λh=> ?_)
 have a3:x.m=Zax [] a.clauses:=by rw[<-hp,bF (by omega)];rfl
 generalize x.m=U at*;have a1:(amF ⟨nm,fo,[]⟩ a).clauses=Zb9 U a.clauses:=by rw[a3];rfl
 refine⟨a2,⟨λp=>p.2.k<=a.clauses.length/\p.2.m=U/\(match p.1 with|false=>Zb9 U (a.clauses.take p.2.k)= []|true=>p.2.L=Zb9 U (a.clauses.take p.2.k))/\p.2.r=a.clauses.length-p.2.k,⟨⟨0,a.clauses.length,U,[]⟩,⟨bb _,rfl,rfl,rfl⟩,rfl,rfl,Zo E_ok _⟩,?_,?_⟩⟩
 ·rintro x ⟨hk,I,J,hr⟩
  dsimp only at hk I J hr;refine aB (λh=>⟨by omega,by omega,λc R=>⟨x.m,rfl,(by rw[I];exact hm),λd hd=>⟨aw _,⟨by decide,by decide⟩,⟨⟨x.k+1,a.clauses.length-(x.k+1),x.m,[c]⟩,⟨(by dsimp only;omega),I,?_,rfl⟩,(by dsimp only;omega),⟨rfl,wr64 (by omega) (by omega)⟩,⟨rfl,Zo E_ok _⟩,rfl⟩⟩,λhd=>⟨⟨x.k+1,a.clauses.length-(x.k+1),x.m,[]⟩,⟨(by dsimp only;omega),I,?_,rfl⟩,(by dsimp only;omega),wr64 (by omega) (by omega),rfl,Zo E_ok _⟩⟩⟩) (λh=>⟨rfl,rfl,aw _,?_⟩)
  ·dsimp only
   rw[I] at hd;rw[Y1 R,hd,J];rfl
  ·dsimp only
   rw[I] at hd;rw[Y1 R,hd,J];rfl
  ·rw[bg (by omega)] at J
   rw[a1,J]
 ·rintro x ⟨hk,I,J,hr⟩
  dsimp only at hk I J hr;have a5:x.L.length<=100000:=by
   have h6:(Zb9 U (a.clauses.take x.k)).length<=(a.clauses.take x.k).length:=dd ..;rw[be] at h6;rw[J];omega
  refine aB (λh=>⟨by omega,by omega,λc R=>⟨x.m,rfl,(by rw[I];exact hm),λd hd=> ?_,λhd=> ?_⟩⟩) (λh=> ?_)
  ·refine⟨⟨aw _,bb _,by omega⟩,⟨x.k+1,a.clauses.length-(x.k+1),x.m,x.L++ [c]⟩,⟨(by dsimp only;omega),I,?_,rfl⟩,(by dsimp only;omega),⟨(by dsimp only;rw[aC];rfl),wr64 (by omega) (by omega)⟩,⟨rfl,Zo E_ok _⟩,by rw[aW]⟩
   dsimp only;rw[I] at hd;rw[Y1 R,hd,J];rfl
  ·refine⟨⟨x.k+1,a.clauses.length-(x.k+1),x.m,x.L⟩,⟨(by dsimp only;omega),I,?_,rfl⟩,(by dsimp only;omega),⟨rfl,wr64 (by omega) (by omega)⟩,⟨rfl,Zo E_ok _⟩,rfl⟩
   dsimp only;rw[I] at hd;rw[Y1 R,hd,J];exact(du _).symm
  ·refine⟨rfl,rfl,aw _,?_⟩
   rw[aW,J,bg (by omega),a1]
theorem Zx4(t a:Tar) (hl:t.clauses.length<=100000) (J:a.clauses.length<=100000):PureC E 35 [.agg (encF ab .tariffs t),.agg (encF ab .tariffs a)] (tarE (amF t a)):=by
 obtain⟨R,I,U⟩:=t;cases U with
 |nil=>exact Z2v (Z2x R I a J) λb c hc=>Z2y R I a b c hc J
 |cons c r=>exact Z2w ⟨R,I,c::r⟩ a (λh=>by cases h) hl J
noncomputable def SamE:Sum thy:=Wf (.cons (dR .tariffs) (.cons (dR .tariffs) .nil)) (λx=>(ar x.1).length<=100000/\(ar x.2.1).length<=100000) (λx=>amF x.1 x.2.1) λy=>tarE y
end
section
open Go.RowKit
section
variable {Y:Thy} {E:Eng Y}
def inpR(th:Y.Th) (b:Nat) (I:List (Y.dom th)):Res Y:=⟨.tup [],0,[b],at1 b (ae (.rows th I 0)),ae [b]⟩
def InpC(E:Eng Y) (f:Nat) (th:Y.Th) (args:List (SV Y)) (l I:List (Y.dom th)):Prop:=
 ∀(b:Nat) (h:Hp Y) (i:Nat),h b=ae (.rows th l 0)->Va E f (.sl b 0 l.length (E.w th) au::args) h i (inpR th b I)
def inpK(th:Y.Th) (l J:List (Y.dom th)) (r:Res Y):Prop:=
 match r.v,patch (hp1 th l 0) 1 r 0 with
 | .tup [],ae (.rows R L I)=>Uw L λL=>L=J/\I=0
 |_,_=>False
theorem Zfr(hE:EngOk E) {call:Nat->List (SV Y)->Hp Y->Nat->(Res Y->Prop)->Prop} (b4:Wy E call) {f:Nat} {th:Y.Th} {args:List (SV Y)} {l l':List (Y.dom th)} (ha:nidL 0 args=ac)
 (hk:call f (.sl 0 0 l.length (E.w th) au::args) (hp1 th l 0) 1 (inpK th l l')):InpC E f th args l l':=by
 intro b h i hb
 have b6:DomLt (hp1 th l 0) 1:=by
  intro b hb
  cases b with
  |zero=>omega
  |succ b=>exact absurd rfl hb
 obtain⟨r,hr,hR,htri⟩:=b4 f _ _ _ _ b6 hk
 have a5:∀b∈r.mods,b=0:=by
  intro b hb
  cases b with
  |zero=>rfl
  |succ b=>exact absurd rfl (hR _ hb)
 unfold inpK at hr
 split at hr
 case h_2=>exact hr.elim
 rename_i a0 L b0 hv hp0
 obtain⟨e,hr⟩:=Yx hr
 subst e
 obtain⟨rfl,rfl⟩:L=l'/\b0=0:=hr
 replace htri:=htri.resolve_right (by rintro⟨p,hp,_⟩;rw[hv] at hp;cases hp)
 intro B σ g W a9 hh b9 hI hB c2 hd
 have a3:hh b=ae (.rows a0 l 0):=(b9 b (show b∈ [b] by simp)).trans hb
 obtain⟨q,z,a1,b3⟩:=hI.blk b _ a3
 have b1:Inv E B (λx=>match x with|0=>ae (q,z)|_=>au) (hp1 a0 l 0) g W:=by
  refine⟨hI.gc,hI.gm,λx y U=> ?_,λx x' r z R J h2 _ _=> ?_,λx r' R I=> ?_,λx y r' R o v U I hv=> ?_,λx y r' R U I=> ?_,hI.glob⟩
  ·cases x with
   |succ x=>cases U
   |zero=>
    cases U
    refine⟨q,z,rfl,?_⟩
    obtain⟨arr,e,k1,k2,k3,k4,k5⟩:=b3
    refine⟨arr,e,k1,k2,k3,λj sv hj=> ?_,k5⟩
    obtain⟨v,m1,m2⟩:=k4 j sv hj
    have hn:nid 0 sv=true:=by
     obtain⟨q,p,x,rfl,hp,hq,I⟩:=Yw hE a0 _ hj
     exact Zs (hE.encI _ _ _) I
    exact⟨v,m1,Zw hE m2 (λb p hb=>by omega) hn⟩
  ·cases x with
   |succ x=>exact absurd rfl J
   |zero=>cases x' with
    |zero=>rfl
    |succ x'=>exact absurd rfl h2
  ·cases x with
   |zero=>cases I;exact hI.base b _ _ a1
   |succ x=>cases I
  ·cases x with
   |zero=>cases I;cases U;exact hI.fz b _ _ _ o v a3 a1 hv
   |succ x=>cases U
  ·cases x with
   |zero=>cases I;cases U;exact hI.fm b _ _ _ a3 a1
   |succ x=>cases U
 have b5:DenL E (λx=>match x with|0=>ae (q,z)|_=>au) g (.sl 0 0 l.length (E.w a0) au::args) a9.toList:=by
  refine⟨by rw[<-hd.1];rfl,λj sv u J h2=> ?_⟩
  cases j with
  |zero=>
   simp at J;subst J
   have:=hd.2 0 _ u rfl h2
   obtain⟨r',R,c',rfl,k1,k2,k3,k4,k5⟩:=W2 this
   rw[a1] at k1;cases k1
   exact .sl (E:=E) (b:=0) rfl k2 k3 k4 k5
  |succ j=>
   have J:args[j]? =ae sv:=by simpa using J
   exact Zw hE (hd.2 (j+1) sv u (by simpa using J) h2) (λb p hb=>by omega) (Zs ha J)
 refine(htri B _ g W a9 _ (λ_ _=>rfl) b1 hB (λx J h2=>by cases x with|zero=>omega|succ x=>rfl) b5).mono ?_
 rintro en w' ⟨u,he,σ1,g',hS,a2,a8⟩
 rw[hv] at a8
 have k1:σ1 0=ae (q,z):=hS.sig 0 _ rfl
 have a7:∀p,p<W.heap.size->p≠q->w'.heap[p]? =W.heap[p]? :=by
  intro p hp a6
  refine hS.heap p hp λb' b2 R c1=> ?_
  obtain rfl:=a5 b' b2
  cases c1
  exact a6 rfl
 have b8:∀x,patch hh i (inpR (Y:=Y) a0 b L) x=match aK x b with|true=>ae (.rows a0 L 0)|false=>hh x:=by
  intro x
  show(match memB x [b]||(bL i x&&aR x (i+0)) with|true=>at1 b (ae (.rows a0 L 0)) x|false=>hh x)=_
  have e2:(bL i x&&aR x (i+0))=false:=by
   cases J:bL i x with
   |false=>rfl
   |true=>
    rw[Nat.ble_eq] at J
    cases h2:aR x (i+0) with
    |false=>rfl
    |true=>rw[Nat.blt_eq] at h2;omega
  rw[e2,Bool.or_false]
  unfold memB memB
  cases e3:aK x b with
  |true=>unfold at1;rw[e3]
  |false=>rfl
 have src:∀x y,patch hh i (inpR (Y:=Y) a0 b L) x=ae y->(x=b/\y= .rows a0 L 0)\/(x≠b/\hh x=ae y):=by
  intro x y hy
  rw[b8] at hy
  split at hy
  ·rename_i e
   cases hy
   exact .inl ⟨ax e,rfl⟩
  ·rename_i e
   exact .inr ⟨nb e,hy⟩
 have a4:∀x y p R,x≠b->hh x=ae y->σ x=ae (p,R)->p<W.heap.size/\p≠q:=by
  intro x y p R U hy I
  refine⟨(hI.base x p R I).2,?_⟩
  rintro rfl
  exact U (hI.inj x b _ _ _ (by rw[hy];simp) (by rw[a3];simp) I a1)
 refine⟨_,he,σ,g',⟨.refl _,λ_ _ h=> .inl h,hS.gle,λp o v hv=> ?_,hS.gmnew,λp hp a6=> ?_,hS.size,hS.os,hS.tape,hS.output,λ_ _ _ h k=>by rw[h] at k;cases k⟩,?_,?_⟩
 ·rcases hS.gcnew p o v hv with J|J|⟨b',J,R,h2⟩
  ·exact .inl J
  ·exact .inr (.inl J)
  ·obtain rfl:=a5 b' J
   cases h2
   exact .inr (.inr ⟨b,by show b∈ [b];simp,_,a1⟩)
 ·exact a7 p hp λe=>a6 b (by show b∈ [b];simp) z (by rw[a1,e])
 ·refine⟨a2.gc,a2.gm,λx y U=> ?_,λx x' p c3 c4 J h2 h3 h4=> ?_,λx p R I=>⟨(hI.base x p R I).1,bY (hI.base x p R I).2 hS.size⟩,λx y p R o v U I hv=> ?_,λx y p R U I=> ?_,a2.glob⟩
  ·rcases src x y U with⟨rfl,rfl⟩|⟨e1,e3⟩
   ·refine⟨q,z,a1,?_⟩
    obtain⟨r2,z2,m1,m2⟩:=a2.blk 0 _ hp0
    rw[k1] at m1;cases m1
    obtain⟨arr,e,m1,m3,m4,m5,m6⟩:=m2
    refine⟨arr,e,m1,m3,m4,λj sv hj=> ?_,m6⟩
    obtain⟨v,n1,n2⟩:=m5 j sv hj
    have hn:nid 0 sv=true:=by
     obtain⟨q,p,x,rfl,hp,hq,I⟩:=Yw hE a0 _ hj
     exact Zs (hE.encI _ _ _) I
    exact⟨v,n1,Zw hE n2 (λb p hb=>by omega) hn⟩
   ·obtain⟨p,R,m1,m2⟩:=hI.blk x y e3
    obtain⟨m3,m4⟩:=a4 x y p R e1 e3 m1
    exact⟨p,R,m1,m2.mono (λx p U=>U) hS.gle (a7 p m3 m4)⟩
  ·obtain⟨y,hy⟩:=aU.1 J
   obtain⟨y',c0⟩:=aU.1 h2
   have hn:∀x y,patch hh i (inpR (Y:=Y) a0 b L) x=ae y->hh x≠none:=by
    intro x y U
    rcases src x y U with⟨rfl,rfl⟩|⟨e1,e3⟩
    ·rw[a3];simp
    ·rw[e3];simp
   exact hI.inj x x' p _ _ (hn _ _ hy) (hn _ _ c0) h3 h4
  ·rcases src x y U with⟨rfl,rfl⟩|⟨e1,e3⟩
   ·rw[a1] at I;cases I
    exact a2.fz 0 _ _ _ o v hp0 k1 hv
   ·obtain⟨m3,m4⟩:=a4 x y p R e1 e3 I
    rcases hS.gcnew p o v hv with J|J|⟨b',J,z2,h2⟩
    ·exact hI.fz x y p R o v e3 I J
    ·omega
    ·obtain rfl:=a5 b' J
     cases h2
     exact absurd rfl m4
  ·rcases src x y U with⟨rfl,rfl⟩|⟨e1,e3⟩
   ·rw[a1] at I;cases I
    exact a2.fm 0 _ _ _ hp0 k1
   ·obtain⟨m3,m4⟩:=a4 x y p R e1 e3 I
    cases b7:g'.obj p with
    |none=>rfl
    |some es=>
     rcases hS.gmnew p es b7 with k|k
     ·rw[hI.fm x y p R e3 I] at k;cases k
     ·omega
 ·exact Zw hE a8 (λb p hb=>by omega) (i:=0) rfl
theorem Ydo{σ:Pl} {g:GH} {b off len w:Nat} {cap:Option Nat} {v:Value} (h:Den E σ g (.sl b off len w cap) v):Den E σ g (.sl b off len w au) v:=by
 cases h with
 |sl h R I J U=>exact .sl h R I J λ_ h=>by cases h
def Z8b(E:Eng Y) (th:Y.Th) {α:Type} (d:DcL E α) (pre:List (Y.dom th)->α->Prop) (f:List (Y.dom th)->α->List (Y.dom th)):Sum Y:=λargs h i k=>
 match args with
 | .sl b 0 len w _::rest=>
  (match h b,d.dec rest,aK w (E.w th) with
  |some (.rows J l 0),ae x,ac=>Uw l λl=>(len=l.length/\pre l x)/\∀I,I=f l x->k (inpR th b I)
  |_,_,_=>False)
 |_=>False
theorem InpC.of_dec{α:Type} {d:DcL E α} {f:Nat} {th:Y.Th} {args:List (SV Y)} {x:α} {l l':List (Y.dom th)} (hd:d.dec args=ae x) (h:InpC E f th (d.enc x) l l'):∀(cap:Option Nat) (b:Nat) (I:Hp Y) (i:Nat),I b=ae (.rows th l 0)->Va E f (.sl b 0 l.length (E.w th) cap::args) I i (inpR th b l'):=by
 obtain⟨k1,k2,k3⟩:=d.ok _ _ hd;intro cap b I i h1 B σ g w a3 hh a1 hI hB a0 J;refine h b I i h1 B σ g w a3 hh a1 hI hB a0 ⟨?_,λj a2 u R U=> ?_⟩
 ·rw[<-J.1,aD,aD,k2]
 ·cases j with
  |zero=>
   cases R;exact Ydo (J.2 0 _ u rfl U)
  |succ j=>
   obtain⟨sv,h7,h8⟩:=k3 σ g j a2 (by simpa using R);exact h8 u (J.2 (j+1) sv u (by simpa using h7) U)
theorem Zux(hE:EngOk E) {th:Y.Th} {α:Type} {f:Nat} (hg:FnGood E.P f) {d:DcL E α} {pre:List (Y.dom th)->α->Prop} {F:List (Y.dom th)->α->List (Y.dom th)} (hp:∀x l,pre l x->InpC E f th (d.enc x) l (F l x)):SumOk E f (Z8b E th d pre F):=by
 refine⟨hg,λargs h i k hD I=> ?_⟩;unfold Z8b at I;split at I
 ·rename_i b len w cap rest
  split at I
  ·rename_i a2 l x U hx R
   have R:=ax R;obtain⟨e,a0⟩:=Yx I;clear I;subst e;subst R;obtain⟨⟨rfl,h3⟩,a1⟩:=a0;refine⟨_,a1 _ rfl,λb' J=> ?_,.inl (InpC.of_dec hx (hp x l h3) cap b h i U)⟩;have J:b'∈ [b]:=J;rw[bZ] at J;rw[J,U];simp
  ·exact I.elim
 ·exact I.elim
end
end
section
open Go
--@cond cmpz | 68 | F0 | 400 | (a b : Int) | [.int ab .i64 a, .int ab .i64 b] | (v : Int) | .int ab .i64 v
theorem Z51(a b:Int) (v:Int):Zk E F0 (vc E F0 400) 68 [.int ab .i64 a,.int ab .i64 b] hp0 0 (λr=>ret E (patch hp0 0 r) r.v (.int ab .i64 v))=(
  ((a !=a)=ac->((b !=b)=ac->(0:Int)=v)/\((b !=b)=ab->(-1:Int)=v))/\((a !=a)=ab->((b !=b)=ac->(1:Int)=v)/\((b !=b)=ab->(decide (a
  <b)=ac->(-1:Int)=v)/\(decide (a<b)=ab->(decide (a>b)=ac->(1:Int)=v)/\(decide (a>b)=ab->(0:Int)=v))))
  ):=by kernel_rfl
--@end
theorem Z52(a b:Int):PureC E 68 [.int ab .i64 a,.int ab .i64 b] (.int ab .i64 (cmpZ a b)):=by
  refine Za E_ok (Zd E_ok F0_ok 400) ?_;rw[Z51];unfold cmpZ;refine⟨λh=>(by simp at h),λ_=>⟨λh=>(by simp at h),λ_=>⟨λh=> ?_,λh=>⟨λI=> ?_,λI=> ?_⟩⟩⟩⟩
  ·rw[if_pos (of_decide_eq_true h)]
  ·rw[if_neg (of_decide_eq_false h),if_pos (of_decide_eq_true I)]
  ·rw[if_neg (of_decide_eq_false h),if_neg (of_decide_eq_false I)]
noncomputable def Scmz:Sum thy:=Wf (.cons dN (.cons dN .nil)) (λ_=>True) (λx=>cmpZ x.1 x.2.1) λy=> .int ab .i64 y
theorem Ygu:SumOk E 68 Scmz:=Zy E_ok (Zc (f:=68) rfl) λx _=>Z52 x.1 x.2.1
noncomputable def Fcmz:Fns thy:=addS F0 68 Scmz
--@cond cmpr | 66 | Fcmz | 400 | (a b : Rep) | [.agg (encF ab .reps a), .agg (encF ab .reps b)] | (v : Int) | .int ab .i64 v
theorem Z53(a b:Rep) (v:Int):Zk E Fcmz (vc E Fcmz 400) 66 [.agg (encF ab .reps a),.agg (encF ab .reps b)] hp0 0 (λr=>ret E (patch hp0 0 r) r.v (.int ab .i64 v))=(
  True/\∀(y:Int),y=cmpZ (eD (cZ a)) (eD (cZ b))->True/\∀(I:Int),I=cmpZ (Rep.time a) (Rep.time b)->True/\∀(J:Int),J=cmpZ
  (RefD.no (jR a)) (RefD.no (jR b))->((y !=(0:Int))=ac->y=v)/\((y !=(0:Int))=ab->((I !=(0:Int))=ac->I=v)/\((I !=(0:Int))=ab->
  ((J !=(0:Int))=ac->J=v)/\((J !=(0:Int))=ab->(0:Int)=v)))
  ):=by kernel_rfl
--@end
theorem Ygv:FnsOk E Fcmz:=Zb F0_ok Ygu
theorem Z54(a b:Rep):PureC E 66 [.agg (encF ab .reps a),.agg (encF ab .reps b)] (.int ab .i64 (cmpE a b)):=by
  refine Za E_ok (Zd E_ok Ygv 400) ?_;rw[Z53];simp only[bne_iff_ne,bne_eq_false_iff_eq];unfold cmpE;refine⟨trivial,λy U=>⟨trivial,λz hz=>⟨trivial,λw R=> ?_⟩⟩⟩;subst U hz R;refine⟨λh=>(if_pos h).symm,λh=>⟨λI=> ?_,λI=>⟨λJ=> ?_,λJ=> ?_⟩⟩⟩
  ·rw[if_neg (λx=>x h),if_pos I]
  ·rw[if_neg (λx=>x h),if_neg (λx=>x I)]
  ·rw[if_neg (λx=>x h),if_neg (λx=>x I),J]
noncomputable def Scmr:Sum thy:=Wf (.cons (dR .reps) (.cons (dR .reps) .nil)) (λ_=>True) (λx=>cmpE x.1 x.2.1) λy=> .int ab .i64 y
theorem Ygw:SumOk E 66 Scmr:=Zy E_ok (Zc (f:=66) rfl) λx _=>Z54 x.1 x.2.1
structure SoE where
  L:List Rep
  i:Int
  j:Int
  r:Nat
def cmpR:SV thy:= .fn (.func 66) [] []
def blkR(v:SV thy) (L:List Rep):List (Nat×Blk thy):= [(bOf v,.rows cC L 0)]
def Ylk:Fr thy->Hp thy->Nat->Ann thy:=λT h i=>{X:=SoE,fr:=λx=> [(0,T 0),(1,T 1),(2,T 2),(3,T 3),(8,.int ab .i64 x.i)],bl:=λx=>blkR (T 0) x.L,src:=λ_=> [],md:= [bOf (T 0)],ih:=i,M:=i+30,meas:=λx=>x.r}
def Yll:Fr thy->Hp thy->Nat->Ann thy:=λT h i=>{X:=SoE,fr:=λx=> [(0,T 0),(1,T 1),(2,T 2),(3,T 3),(8,T 8),(9,.int ab .i64 x.j)],bl:=λx=>blkR (T 0) x.L,src:=λ_=> [],md:= [bOf (T 0)],ih:=i,M:=i+30,meas:=λx=>x.r}
noncomputable def FisE:Fns thy:=addL (addL (addS F0 66 Scmr) 169 1 Ylk E) 169 4 Yll E
theorem Ygx:FnsOk E FisE:=Zm E_ok (Zm E_ok (Zb F0_ok Ygw) _ _ _) _ _ _
--@condg isortE | (l l2 : List Rep) (a b : Int) | Zk E FisE (vc E FisE 400) 169 [.sl 0 0 (aa l) (E.w cC) au, .int ab .i64 a, .int ab .i64 b, cmpR] (hp1 cC l 0) 1 (inpK cC l l2)
theorem Ztr(l l2:List Rep) (a b:Int):Zk E FisE (vc E FisE 400) 169 [.sl 0 0 (aa l) (E.w cC) au,.int ab .i64 a,.int ab .i64 b,cmpR] (hp1 cC l 0) 1 (inpK cC l l2)=(
  ∃(R:SoE->Prop),(∃(x:SoE),R x/\ac=ac/\(((0:Nat)=(0:Nat)/\aa l=aa l/\True)/\a=a/\b=b/\(cA (66
  :FuncId)=cA (66:FuncId)/\True/\True)/\wr af (a+(1:Int))=SoE.i x/\True)/\(l=SoE.L x/\(0:Nat)=(0:Nat))/\True)
  /\∀(x:SoE),R x->(decide (SoE.i x<b)=ac->∃(a1:SoE->Prop),(∃(I:SoE),a1 I/\ac=ac/\(((0:Nat)=(0:Nat)/\aa l=aa l/\True)/\
  a=a/\b=b/\(cA (66:FuncId)=cA (66:FuncId)/\True/\True)/\SoE.i x=SoE.i x/\SoE.i x=SoE.j
  I/\True)/\(SoE.L x=SoE.L I/\(0:Nat)=(0:Nat))/\True)/\∀(I:SoE),a1 I->(decide (SoE.j I>a)=ac->((0:Int)<=SoE.j I/\SoE.j I+(1:Int)<=
  (↑(aa l):Int))/\(0:Nat)+ag (SoE.j I)+(1:Nat)<=aa (SoE.L I)/\∀(U:Rep),(SoE.L I)[(0:Nat)+ag (SoE.j I)]? =ae U->
  ((0:Int)<=wr af (SoE.j I-(1:Int))/\wr af (SoE.j I-(1:Int))+(1:Int)<=(↑(aa l):Int))/\(0:Nat)+ag (wr af (SoE.j
  I-(1:Int)))+(1:Nat)<=aa (SoE.L I)/\∀(a2:Rep),(SoE.L I)[(0:Nat)+ag (wr af (SoE.j I-(1:Int)))]? =ae a2->True/\∀(y:
  Int),y=cmpE U a2->(decide (y<(0:Int))=ac->((0:Int)<=wr af (SoE.j I-(1:Int))/\wr af (SoE.j I-(1:Int))+(1:Int)<=(↑(aa
  l):Int))/\(0:Nat)+ag (wr af (SoE.j I-(1:Int)))+(1:Nat)<=aa (SoE.L I)/\∀(J:Rep),(SoE.L I)[(0:Nat)+ag (wr af
  (SoE.j I-(1:Int)))]? =ae J->((0:Int)<=SoE.j I/\SoE.j I+(1:Int)<=(↑(aa l):Int))/\(0:Nat)+ag (SoE.j I)+(1:Nat)<=aa
  (SoE.L I)/\∀(a3:Rep),(SoE.L I)[(0:Nat)+ag (SoE.j I)]? =ae a3->((0:Int)<=SoE.j I/\SoE.j I+(1:Int)<=(↑(aa l):Int))/\(0:Nat)<=
  (0:Nat)+ag (SoE.j I)/\(0:Nat)+ag (SoE.j I)+(1:Nat)<=aa (SoE.L I)/\∀(a4:Rep),(SoE.L I)[(0:Nat)+ag (SoE.j I)]? =ae
  a4->((0:Int)<=wr af (SoE.j I-(1:Int))/\wr af (SoE.j I-(1:Int))+(1:Int)<=(↑(aa l):Int))/\(0:Nat)<=(0:Nat)+ag (wr
  af (SoE.j I-(1:Int)))/\(0:Nat)+ag (wr af (SoE.j I-(1:Int)))+(1:Nat)<=aa (dp (SoE.L I) ((0:Nat)+ag (SoE.j
  I)) J)/\∀(a5:Rep),(dp (SoE.L I) ((0:Nat)+ag (SoE.j I)) J)[(0:Nat)+ag (wr af (SoE.j I-(1:Int)))]? =ae a5->∃(a0:
  SoE),a1 a0/\a0.4+(1:Nat)<=I.4/\ac=ac/\(((0:Nat)=(0:Nat)/\aa l=aa l/\True)/\a=a/\b=b/\(cA (66:FuncId)=cA (66:
  FuncId)/\True/\True)/\SoE.i x=SoE.i x/\wr af (SoE.j I-(1:Int))=SoE.j a0/\True)/\(dp (dp (SoE.L I) ((0:Nat)+ag (SoE.j I)) J)
  ((0:Nat)+ag (wr af (SoE.j I-(1:Int)))) a3=SoE.L a0/\(0:Nat)=(0:Nat))/\True)/\(decide (y<(0:Int))=ab->∃(J:SoE),R J/\J.4+
  (1:Nat)<=x.4/\ac=ac/\(((0:Nat)=(0:Nat)/\aa l=aa l/\True)/\a=a/\b=b/\(cA (66:FuncId)=cA
  (66:FuncId)/\True/\True)/\wr af (SoE.i x+(1:Int))=SoE.i J/\True)/\(SoE.L I=SoE.L J/\(0:Nat)=(0:Nat))/\True))/\
  (decide (SoE.j I>a)=ab->∃(U:SoE),R U/\U.4+(1:Nat)<=x.4/\ac=ac/\(((0:Nat)=(0:Nat)/\aa l=aa l/\True)/\a=a/\b=b/\
  (cA (66:FuncId)=cA (66:FuncId)/\True/\True)/\wr af (SoE.i x+(1:Int))=SoE.i U/\
  True)/\(SoE.L I=SoE.L U/\(0:Nat)=(0:Nat))/\True))/\(decide (SoE.i x<b)=ab->SoE.L x=l2/\(0:Nat)=(0:Nat))
  ):=by kernel_rfl
--@end
noncomputable def dIsE:DcL E (Int×Int×Unit×Unit):= .cons dN (.cons dN (.cons (dFun 66) .nil))
def Yb6(l:List Rep) (x:Int×Int×Unit×Unit):Prop:=x.1=0/\x.2.1=l.length/\l.length<=1000
def zSum:Sum thy:=λ_ _ _ _=>False
theorem Ygy{f:Nat} (I:FnGood E.P f):SumOk E f zSum:=⟨I,λargs h i k R J=>J.elim⟩
noncomputable def SisE:Sum thy:=Z8b E cC dIsE Yb6 λl _=>srtE l
def Ylm:Fr thy->Hp thy->Nat->Ann thy:=λT h i=>{X:=SoE,fr:=λx=> [(0,T 0),(1,T 1),(2,T 2),(6,T 6),(7,.int ab .i64 x.i),(8,.int ab .i64 x.j)],bl:=λx=>blkR (T 0) x.L,src:=λ_=> [],md:= [bOf (T 0)],ih:=i,M:=i+30,meas:=λx=>x.r}
def Yln:Fr thy->Hp thy->Nat->Ann thy:=λT h i=>{X:=SoE,fr:=λx=> [(0,T 0),(1,T 1),(2,T 2),(6,.int ab .i64 x.i)],bl:=λx=>blkR (T 0) x.L,src:=λ_=> [],md:= [bOf (T 0)],ih:=i,M:=i+30,meas:=λx=>x.r}
def Ylo:Fr thy->Hp thy->Nat->Ann thy:=λT h i=>{X:=SoE,fr:=λx=> [(0,T 0),(1,T 1),(2,T 2),(6,T 6),(7,.int ab .i64 x.i),(8,.int ab .i64 x.j)],bl:=λx=>blkR (T 0) x.L,src:=λ_=> [],md:= [bOf (T 0)],ih:=i,M:=i+30,meas:=λx=>x.r}
noncomputable def FstE:Fns thy:=addL (addL (addL (addS (addS F0 169 SisE) 170 zSum) 120 2 Ylm E) 120 7 Yln E) 120 9 Ylo E
--@condg stbE | (l l2 : List Rep) | Zk E FstE (vc E FstE 400) 65 [.sl 0 0 (aa l) (E.w cC) au, cmpR] (hp1 cC l 0) 1 (inpK cC l l2)
theorem Z55(l l2:List Rep):Zk E FstE (vc E FstE 400) 65 [.sl 0 0 (aa l) (E.w cC) au,cmpR] (hp1 cC l 0) 1 (inpK cC l l2)=(
  ∃(R:SoE->Prop),(∃(x:SoE),R x/\ac=ac/\(((0:Nat)=(0:Nat)/\aa l=aa l/\True)/\(↑(aa l):Int)=(↑(aa l):Int)/\
  (cA (66:FuncId)=cA (66:FuncId)/\True/\True)/\(20:Int)=(20:Int)/\(0:Int)=SoE.i x/\(20
  :Int)=SoE.j x/\True)/\(l=SoE.L x/\(0:Nat)=(0:Nat))/\True)/\∀(x:SoE),R x->(decide (SoE.j x<=(↑(aa l):Int))=ac->(aa l=aa
  (SoE.L x)/\SoE.i x=(0:Int)/\SoE.j x=(↑(aa (SoE.L x)):Int)/\aa (SoE.L x)<=(1000:Nat))/\∀(J:List Rep),J=srtE (SoE.L x)->∃(I:SoE),R I
  /\I.4+(1:Nat)<=x.4/\ac=ac/\(((0:Nat)=(0:Nat)/\aa l=aa l/\True)/\(↑(aa l):Int)=(↑(aa l):Int)/\(cA
  (66:FuncId)=cA (66:FuncId)/\True/\True)/\(20:Int)=(20:Int)/\SoE.j x=SoE.i I/\wr
  af (SoE.j x+(20:Int))=SoE.j I/\True)/\(J=SoE.L I/\(0:Nat)=(0:Nat))/\True)/\(decide (SoE.j x<=(↑(aa l):Int))=ab->(aa l=
  aa (SoE.L x)/\SoE.i x=(0:Int)/\(↑(aa l):Int)=(↑(aa (SoE.L x)):Int)/\aa (SoE.L x)<=(1000:Nat))/\∀(J:List Rep),J=srtE
  (SoE.L x)->∃(R:SoE->Prop),(∃(x:SoE),R x/\ac=ac/\(((0:Nat)=(0:Nat)/\aa l=aa l/\True)/\(↑(aa l):Int)=(↑(aa l):
  Int)/\(cA (66:FuncId)=cA (66:FuncId)/\True/\True)/\(20:Int)=SoE.i x/\True)/\(J=SoE.L x
  /\(0:Nat)=(0:Nat))/\True)/\∀(x:SoE),R x->(decide (SoE.i x<(↑(aa l):Int))=ac->∃(a0:SoE->Prop),(∃(I:SoE),a0 I/\ac=ac/\(((0:
  Nat)=(0:Nat)/\aa l=aa l/\True)/\(↑(aa l):Int)=(↑(aa l):Int)/\(cA (66:FuncId)=cA
  (66:FuncId)/\True/\True)/\SoE.i x=SoE.i x/\(0:Int)=SoE.i I/\wr af ((2:Int)*SoE.i x)=SoE.j I/\True)/\(SoE.L x=
  SoE.L I/\(0:Nat)=(0:Nat))/\True)/\∀(I:SoE),a0 I->(decide (SoE.j I<=(↑(aa l):Int))=ac->False)/\(decide (SoE.j I<=(↑(aa l):
  Int))=ab->(decide (wr af (SoE.i I+SoE.i x)<(↑(aa l):Int))=ac->False)/\(decide (wr af (SoE.i I+SoE.i x)<(↑(aa l):
  Int))=ab->∃(U:SoE),R U/\U.4+(1:Nat)<=x.4/\ac=ac/\(((0:Nat)=(0:Nat)/\aa l=aa l/\True)/\(↑(aa l):Int)=
  (↑(aa l):Int)/\(cA (66:FuncId)=cA (66:FuncId)/\True/\True)/\wr af (SoE.i x*
  (2:Int))=SoE.i U/\True)/\(SoE.L I=SoE.L U/\(0:Nat)=(0:Nat))/\True)))/\(decide (SoE.i x<(↑(aa l):Int))=ab->SoE.L x=l2/\(0:Nat)=(0:
  Nat)))
  ):=by kernel_rfl
--@end
--@cond stbN | 65 | F0 | 400 | (u : Nat) | [.val (.slice au 0 0), cmpR] | (u2 : Nat) | .tup []
theorem Z56(u:Nat) (I:Nat):Zk E F0 (vc E F0 400) 65 [.val (.slice au 0 0),cmpR] hp0 0 (λr=>ret E (patch hp0 0 r) r.v (.tup []))=(
  True
  ):=by kernel_rfl
--@end
theorem Z57{x:Rep}:∀{p q:List Rep},(∀y∈p,ltE x y)->(∀y∈q.head?,¬ltE x y)->insR x (p++q)=p++x::q
  | [],[],_,_=>rfl
  | [],y::q,_,h=>if_neg (h y rfl)
  |y::p,q,I,J=>by
    rw[dc,insR,if_pos (I y (by simp)),Z57 (λz R=>I z (by simp[R])) J];rfl
theorem Ygz{A B:List Rep} {x y:Rep} {j:Nat} (h:A.length+1=j):((A++y::x::B).set j y).set (j-1) x=A++x::y::B:=by
  subst h;rw[gF _ _ (by omega),gF _ _ (by omega)];rw[show A.length+1-A.length=1 by omega,show A.length+1-1-A.length=0 by omega];rfl
theorem Z58{l:List Rep} {k:Nat} {x:Rep} (h:l[k]? =ae x):srtR (l.take (k+1))=insR x (srtR (l.take k)):=by
  unfold srtR;rw[cz,h,List.foldl_append];rfl
theorem Ya0(l:List Rep):(srtR l).length=l.length:=by
  have:=(Zbd l).length_eq;unfold srtE at this
  rwa[fE] at this
theorem wrs{n:Int} (I: -1000000<=n) (J:n<=1000000):wr .i64 n=n:=wr64 (by omega) (by omega)
theorem Yj1(l:List Rep) (x:Int×Int×Unit×Unit) (h:Yb6 l x):InpC E 169 cC (dIsE.enc x) l (srtE l):=by
  obtain⟨a,b,u1,u2⟩:=x;obtain⟨h1,h2,h3⟩:a=0/\b=l.length/\l.length<=1000:=h;refine Zfr E_ok (Zd E_ok Ygx 400) rfl ?_;refine Eq.mpr (Ztr l _ a b) ?_;subst h1 h2;simp only[bk,decide_eq_true_eq,decide_eq_false_iff_not,true_and,and_true,imp_self,implies_true];refine⟨λx=>∃i:Nat,x.i=i/\1<=i/\(i<=l.length\/i=1)/\x.L=(srtR (l.take i)).reverse++l.drop i/\x.r=l.length-i,⟨⟨l,1,0,l.length-1⟩,⟨1,rfl,aw _,.inr rfl,?_,rfl⟩,wrs (by omega) (by omega),rfl⟩,?_⟩
  ·cases l with
   |nil=>rfl
   |cons u r=>rfl
  rintro x ⟨i,hi,b5,b6,hL,hr⟩;refine aB (λh=> ?_) (λh=> ?_)
  ·have a9:i<l.length:=by omega
   obtain⟨y,hy⟩:∃y,l[i]? =ae y:=⟨_,ai a9⟩;have hs:(srtR (l.take i)).length=i:=by rw[Ya0,be];omega
   generalize hS:srtR (l.take i)=S at*;refine⟨λz=>∃p q,S=p++q/\z.L=q.reverse++y::(p.reverse++l.drop (i+1))/\z.j=(q.length:Int)/\(∀w∈p,ltE y w)/\z.r=q.length,⟨⟨x.L,0,x.i,i⟩,⟨[],S,rfl,?_,?_,(λw I=>by cases I),hs.symm⟩,rfl,rfl⟩,?_⟩
   ·show x.L=_
    rw[hL,Z0 hy];rfl
   ·show x.i=_
    omega
   rintro z ⟨p,q,a4,a5,a6,b1,b4⟩;have b2:p.length+q.length=i:=by rw[<-hs,a4,aC]
   have b9:z.L.length=l.length:=by rw[a5];simp;omega
   have done:∀(hq:∀w∈q.head?,¬ltE y w),∃J:SoE,(∃i:Nat,J.i=i/\1<=i/\(i<=l.length\/i=1)/\J.L=(srtR (l.take i)).reverse++l.drop i/\J.r=l.length-i)/\J.r+1<=x.r/\wr .i64 (x.i+1)=J.i/\z.L=J.L:=by
     intro hq;refine⟨⟨z.L,x.i+1,0,l.length-(i+1)⟩,⟨i+1,(by show x.i+1=_;omega),by omega,.inl a9,?_,rfl⟩,(by show l.length-(i+1)+1<=x.r;omega),wrs (by omega) (by omega),rfl⟩;show z.L=_;rw[Z58 hy,hS,a4,Z57 b1 hq,a5];simp
   refine aB (λhj=> ?_) (λhj=> ?_)
   ·cases q with
    |nil=>simp at a6;omega
    |cons a q=>
      have b8:z.j=(q.length:Int)+1:=by rw[a6,aD];omega
      have a1:z.L=q.reverse++a::y::(p.reverse++l.drop (i+1)):=by rw[a5,List.reverse_cons,bE];rfl
      have t1:z.j.toNat=q.length+1:=by omega
      have b7:q.length+1<=i:=by rw[aD] at b2;omega
      have w1:wr .i64 (z.j-1)=(q.length:Int):=by rw[wrs (by omega) (by omega)];omega
      have t2:(q.length:Int).toNat=q.length:=bt _;have g1:z.L[q.length+1]? =ae y:=by rw[a1,br (by simp),fE,Nat.add_sub_cancel_left];rfl
      have g2:z.L[q.length]? =ae a:=by rw[a1,br (by simp),fE,dY];rfl
      have b3:(z.L.set (q.length+1) a).set q.length y=q.reverse++y::a::(p.reverse++l.drop (i+1)):=by
        have:=Ygz (A:=q.reverse) (B:=p.reverse++l.drop (i+1)) (x:=y) (y:=a) (j:=q.length+1) (by rw[fE]);rw[jG] at this;rw[a1];exact this
      rw[w1,t1,t2];refine⟨⟨by omega,by omega⟩,by omega,λy2 a0=>⟨⟨by omega,by omega⟩,by omega,λa2 U=>λv hv=>aB (λR=>⟨⟨by omega,by omega⟩,by omega,λa3 a7=>⟨⟨by omega,by omega⟩,by omega,λy3 b0=>⟨⟨by omega,by omega⟩,bb _,by omega,λ_ _=>⟨⟨by omega,by omega⟩,bb _,(by rw[cD];omega),λ_ _=> ?_⟩⟩⟩⟩) (λR=> ?_)⟩⟩
      ·rw[g1] at a0 b0;rw[g2] at U a7
       cases a0;cases b0;cases U;cases a7;rw[hv,Zwe] at R;refine⟨⟨(z.L.set (q.length+1) a).set q.length y,0,(q.length:Int),q.length⟩,⟨p++ [a],q,by rw[a4,bE];rfl,?_,rfl,?_,rfl⟩,(by rw[b4,aD];exact aw _),rfl,rfl⟩
       ·show(z.L.set (q.length+1) a).set q.length y=_
        rw[b3];simp
       ·intro w I
        rcases bS.1 I with I|I
        ·exact b1 w I
        ·rw[bZ.1 I];exact R
      ·rw[g1] at a0;rw[g2] at U
       cases a0;cases U;rw[hv,Zwe] at R;exact done λw I=>by cases I;exact R
   ·exact done λw I=>by
      cases q with
      |nil=>cases I
      |cons a q=>simp at a6;omega
  ·have a8:l.length<=i:=by omega
   rw[bg a8,bF a8,du] at hL;exact hL
theorem Yg0:SumOk E 169 SisE:=Zux E_ok (Zc (f:=169) rfl) λx l h=>Yj1 l x h
theorem Yg1:FnsOk E FstE:=Zm E_ok (Zm E_ok (Zm E_ok (Zb (Zb F0_ok Yg0) (Ygy (Zc (f:=170) rfl))) _ _ _) _ _ _) _ _ _
theorem Yg2(l:List Rep) (h:l.length<=8):InpC E 65 cC [cmpR] l (srtE l):=by
  refine Zfr E_ok (Zd E_ok Yg1 400) rfl ?_;refine Eq.mpr (Z55 l _) ?_;simp only[bk,decide_eq_true_eq,decide_eq_false_iff_not,true_and,and_true,imp_self,implies_true];refine⟨λx=>x.L=l/\x.i=0/\x.j=20,⟨⟨l,0,20,0⟩,⟨rfl,rfl,rfl⟩,⟨rfl,rfl⟩,rfl⟩,?_⟩;rintro x ⟨I,hi,U⟩;refine aB (λh=>by omega) (λ_=> ?_);rw[I];refine⟨⟨rfl,hi,rfl,by omega⟩,λJ R=>⟨λx=>x.L=J/\x.i=20,⟨⟨J,20,0,0⟩,⟨rfl,rfl⟩,rfl,rfl⟩,?_⟩⟩;rintro x ⟨I,hi⟩;exact⟨λh=>by omega,λ_=>I.trans R⟩
theorem stbN_pure:PureC E 65 [.val (.slice au 0 0),cmpR] (.tup []):=by
  refine Za E_ok (Zd E_ok F0_ok 400) ?_;rw[Z56 0 0];trivial
/-- the library's stable sort of a list, or of nil -/
noncomputable def SsoE:Sum thy:=λargs h i k=>match args with
  | [.val (.slice au 0 0),.fn (.func 66) [] []]=>k (quiet [] (.tup []))
  |_=>Z8b E cC (.cons (dFun 66) .nil) (λ(l:List Rep) _=>l.length<=8) (λ(l:List Rep) _=>srtE l) args h i k
theorem Yg3:SumOk E 65 SsoE:=by
  have J:=Zc (f:=65) rfl;refine⟨J,λargs h i k U I=> ?_⟩;unfold SsoE at I;split at I
  ·have R:=stbN_pure.tri E_ok rfl h i
   exact⟨_,I,R.1,.inl R.2⟩
  ·exact(Zux (th:=cC) E_ok J (d:= .cons (dFun 66) .nil) (pre:=λ(l:List Rep) _=>l.length<=8) (F:=λ(l:List Rep) _=>srtE l) λx l h=>Yg2 l h).2 args h i k U I
end
section
open Go
structure EdX where
 k:Nat
 r:Nat
 L:List Rep
noncomputable def AedE:Fr thy->Hp thy->Nat->Ann thy:=λT h i=>{X:=Bool×EdX,fr:=λx=> [(1,T 1),(2,T 2),(6,match x.1 with|true=> .sl i 0 x.2.L.length 21 au|false=> .val (.slice au 0 0)),(10,T 10),(11,T 11),(12,.int ab .i64 x.2.k)],bl:=λx=>(match x.1 with|true=> [(i,.rows cC x.2.L 0)]|false=> []),src:=λx=>(match x.1 with|true=> [(i,6)]|false=> []),md:= [],ih:=i+1,M:=i+40,meas:=λx=>x.2.r,ex:=ex2,al:=al2,exOk:=Ziy,alOk:=Ziz}
noncomputable def FedE:Fns thy:=addL (addS F0 65 SsoE) 34 2 AedE E
theorem Ye6:FnsOk E FedE:=Zm E_ok (Zb F0_ok Yg3) _ _ _
abbrev Zp1(R:Bool×EdX->Prop) (y:EdX) (J:Int) (kd:Int) (l:List Rep):Prop:=
 ∃(I:EdX),R (ab,I)/\I.2+(1:Nat)<=y.2/\ac=ac/\(J=J/\kd=kd/\False/\(l=l/\(ab=ac->ab=ac))/\(↑(aa l):Int)=
 (↑(aa l):Int)/\wr af ((↑(EdX.k y):Int)+(1:Int))=(↑(EdX.k I):Int)/\True)/\True
abbrev Z33(x:Rep) (Q:Bool->Prop):Prop:=
 ((fw (cZ x)==(11:Int))=ac->Q ac)/\((fw (cZ x)==(11:Int))=ab->((fw (cZ x)==(12:Int))=ac->Q ac)/\((fw
 (cZ x)==(12:Int))=ab->((fw (cZ x)==(13:Int))=ac->Q ac)/\((fw (cZ x)==(13:Int))=ab->Q ab)))
abbrev Z34(R:Bool×EdX->Prop) (y:EdX) (J:Int) (kd:Int) (l:List Rep):Prop:=
 ∃(I:EdX),R (ab,I)/\I.2+(1:Nat)<=y.2/\ac=ac/\(J=J/\kd=kd/\aG au (0:Nat) (0:Nat)=aG au (0:Nat) (0:Nat)/\(l=
 l/\(ab=ac->ab=ac))/\(↑(aa l):Int)=(↑(aa l):Int)/\wr af ((↑(EdX.k y):Int)+(1:Int))=(↑(EdX.k I):Int)/\True)/\True
abbrev Z35(I:Int) (kd:Int) (y:EdX) (J:EdX) (l:List Rep):Prop:=
 I=I/\kd=kd/\((0:Nat)=(0:Nat)/\aa (EdX.L y)=aa (EdX.L J)/\True)/\(l=l/\(ab=ac->ab=ac))/\(↑(aa l):Int)=
 (↑(aa l):Int)/\wr af ((↑(EdX.k y):Int)+(1:Int))=(↑(EdX.k J):Int)/\True
abbrev Z36(x:Rep) (I:Int) (Q:Bool->Prop) (kd:Int):Prop:=
 ((RefD.rw_ (jR x) !=I)=ac->Q ac)/\((RefD.rw_ (jR x) !=I)=ab->((kU (cZ x) !=kd)=ac->Q ac)/\((kU (cZ x) !=kd)=
 ab->Q ab))
abbrev qDO1(I:List Rep):=(↑(aa I):Int)
abbrev qDO2(I:EdX):=(↑(EdX.k I):Int)
abbrev qDO3:=(0:Nat)
abbrev qDO4:=(ab=ac->ab=ac)
theorem Z9y(l:List Rep) (J kd:Int) (v:List Rep):Zk E FedE (vc E FedE 400) 34 [.psl cC l ab,.int ab .i64 J,.int ab .i64 kd] hp0 0 (λr=>ret E (patch hp0 0 r) r.v (.psl cC v ab))=(
 ∃(R:Bool×EdX->Prop),((∃(y:EdX),R (ab,y)/\ac=ac/\(J=J/\kd=kd/\aG au qDO3 qDO3=aG au qDO3 qDO3/\(l=l/\qDO4)/\(qDO1 l)=(qDO1 l)/\(0:Int)=(qDO2 y)/\True)/\True)\/∃(y:EdX),R (ac,y)/\ac=ac/\False)/\(∀(y:EdX),R (ab,y)->(decide ((qDO2 y)<(qDO1 l))=ac->(0:Int)<=(qDO2 y)/\(qDO2 y)+(1:Int)<=(qDO1 l)/\∀(x:Rep),l[ag (qDO2 y)]? =ae x->∃(Q:Bool->Prop),(Z36 x J Q kd)/\(Q ac->(Z34 R y J kd l)\/∃(I:EdX),R (ac,I)/\I.2+(1:Nat)<=y.2/\ac=ac/\False)/\(Q ab->∃(Q:Bool->Prop),(Z33 x Q)/\(Q ac->(Zp1 R y J kd l)\/∃(I:EdX),R (ac,I)/\I.2+(1:Nat)<=y.2/\ac=ac/\(J=J/\kd=kd/\(qDO3=qDO3/\(1:Nat)=aa (EdX.L I)/\True)/\(l=l/\qDO4)/\(qDO1 l)=(qDO1 l)/\wr af ((qDO2 y)+(1:Int))=(qDO2 I)/\True)/\([x]=EdX.L I/\qDO3=qDO3)/\True)/\(Q ab->(Z34 R y J kd l)\/∃(I:EdX),R (ac,I)/\I.2+(1:Nat)<=y.2/\ac=ac/\False)))/\(decide ((qDO2 y)<(qDO1 l))=ab->v= []))/\∀(y:EdX),R (ac,y)->(decide ((qDO2 y)<(qDO1 l))=ac->(0:Int)<=(qDO2 y)/\(qDO2 y)+(1:Int)<=(qDO1 l)/\∀(x:Rep),l[ag (qDO2 y)]? =ae x->∃(Q:Bool->Prop),(Z36 x J Q kd)/\(Q ac->(Zp1 R y J kd l)\/∃(I:EdX),R (ac,I)/\I.2+(1:Nat)<=y.2/\ac=ac/\(Z35 J kd y I l)/\(EdX.L y=EdX.L I/\qDO3=qDO3)/\True)/\(Q ab->∃(Q:Bool->Prop),(Z33 x Q)/\(Q ac->(aa (EdX.L y)<=aa (EdX.L y)/\qDO3<=aa (EdX.L y)/\(aa (EdX.L y)+(1:Nat))*(192:Nat)<=(140737488355328:Nat))/\((Zp1 R y J kd l)\/∃(I:EdX),R (ac,I)/\I.2+(1:Nat)<=y.2/\ac=ac/\(J=J/\kd=kd/\(qDO3=qDO3/\aa (EdX.L y)+(1:Nat)=aa (EdX.L I)/\True)/\(l=l/\qDO4)/\(qDO1 l)=(qDO1 l)/\wr af ((qDO2 y)+(1:Int))=(qDO2 I)/\True)/\(av (aa (EdX.L y)) (EdX.L y)++ [x]=EdX.L I/\qDO3=qDO3)/\True))/\(Q ab->(Zp1 R y J kd l)\/∃(I:EdX),R (ac,I)/\I.2+(1:Nat)<=y.2/\ac=ac/\(Z35 J kd y I l)/\(EdX.L y=EdX.L I/\qDO3=qDO3)/\True)))/\(decide ((qDO2 y)<(qDO1 l))=ab->(aa (EdX.L y)=aa (EdX.L y)/\aa (EdX.L y)<=(8:Nat))/\∀(U:List Rep),U=srtE (EdX.L y)->qDO3+aa (EdX.L y)<=aa U/\av (aa (EdX.L y)) U=v)):=by kernel_rfl
theorem Uq{f:Rep->Bool} {l:List Rep} {k:Nat} {x:Rep} (h:l[k]? =ae x):(l.take (k+1)).filter f=(l.take k).filter f++(if f x=ac then[x] else[]):=by
 rw[cz,h,fS,fJ]
 congr 1
 cases e:f x<;>simp[e]
theorem qB{P:Prop} {J I:Prop} {A:(Bool->Prop)->Prop} (R:A λb=>b=ac↔P) (ht:P->J) (U:¬P->I):∃Q:Bool->Prop,A Q/\(Q ac->J)/\(Q ab->I):=
 ⟨_,R,λh=>ht (h.1 rfl),λh=>U λp=>by have:=h.2 p;cases this⟩
theorem edO_t{r k:Int} {x:Rep}:edO r k x=ac↔((x.ref.rw_=r/\x.item.number=k)/\(x.item.kind=11\/x.item.kind=12\/x.item.kind=13)):=by
 unfold edO;simp[or_assoc]
theorem Z37{r k:Int} {x:Rep} (h:¬((x.ref.rw_=r/\x.item.number=k)/\(x.item.kind=11\/x.item.kind=12\/x.item.kind=13))):edO r k x=false:=by
 cases e:edO r k x with
 |false=>rfl
 |true=>exact absurd (edO_t.1 e) h
theorem Z9z(l:List Rep) (a0 kd:Int) (h8:l.length<=8):PureC E 34 [.psl cC l ab,.int ab .i64 a0,.int ab .i64 kd] (.psl cC (edsF l a0 kd) ab):=by
 refine Za E_ok (Zd E_ok Ye6 400) ?_;rw[Z9y];delta qDO1 qDO2 qDO3 qDO4;unfold Z36 Z35 Z34 Z33 Zp1;simp only[bt,decide_eq_true_eq,decide_eq_false_iff_not,true_and,and_true,imp_self,implies_true,false_and,and_false,or_false,false_or,exists_false,bne_iff_ne,bne_eq_false_iff_eq,beq_iff_eq,beq_eq_false_iff_ne,aw,bb,bk,aW];refine⟨λp=>p.2.k<=l.length/\(match p.1 with|false=>(l.take p.2.k).filter (edO a0 kd)= []|true=>p.2.L=(l.take p.2.k).filter (edO a0 kd))/\p.2.r=l.length-p.2.k,⟨⟨0,l.length,[]⟩,⟨bb _,rfl,rfl⟩,rfl⟩,?_,?_⟩
 ·rintro y ⟨hk,J,hr⟩
  dsimp only at hk J hr;refine aB (λh=>⟨by omega,by omega,λx hx=> ?_⟩) (λh=> ?_)
  ·have U:y.k+1<=l.length:=by omega
   refine qB (P:=¬(x.ref.rw_=a0/\x.item.number=kd)) ⟨λh=>⟨λ_ I=>h I.1,λ_=>rfl⟩,λh=>⟨λI=>⟨λ_ R=>I R.2,λ_=>rfl⟩,λI=>⟨(λe=>by cases e),λR=>absurd ⟨h,I⟩ R⟩⟩⟩ (λhp=> ?_) (λhp=> ?_)
   ·refine⟨⟨y.k+1,l.length-(y.k+1),[]⟩,⟨U,?_,rfl⟩,(by dsimp only;omega),wr64 (by omega) (by omega)⟩
    dsimp only;rw[Uq hx,J,Z37 λh=>hp h.1];rfl
   ·refine qB (P:=x.item.kind=11\/x.item.kind=12\/x.item.kind=13) ⟨λh=>⟨λ_=> .inl h,λ_=>rfl⟩,λh=>⟨λI=>⟨λ_=> .inr (.inl I),λ_=>rfl⟩,λI=>⟨λR=>⟨λ_=> .inr (.inr R),λ_=>rfl⟩,λR=>⟨(λe=>by cases e),λh4=>by omega⟩⟩⟩⟩ (λhq=> ?_) (λhq=> ?_)
    ·refine⟨⟨y.k+1,l.length-(y.k+1),[x]⟩,⟨U,?_,rfl⟩,(by dsimp only;omega),⟨rfl,wr64 (by omega) (by omega)⟩,rfl⟩
     dsimp only;rw[Uq hx,J,edO_t.2 ⟨bJ.1 hp,hq⟩];rfl
    ·refine⟨⟨y.k+1,l.length-(y.k+1),[]⟩,⟨U,?_,rfl⟩,(by dsimp only;omega),wr64 (by omega) (by omega)⟩
     dsimp only;rw[Uq hx,J,Z37 λh=>hq h.2];rfl
  ·rw[bg (by omega)] at J
   unfold edsF;rw[J];rfl
 ·rintro y ⟨hk,J,hr⟩
  dsimp only at hk J hr;have hl:y.L.length<=8:=by
   have h1:=dd (edO a0 kd) (l.take y.k);rw[be] at h1;rw[J];omega
  refine aB (λh=>⟨by omega,by omega,λx hx=> ?_⟩) (λh=> ?_)
  ·have U:y.k+1<=l.length:=by omega
   refine qB (P:=¬(x.ref.rw_=a0/\x.item.number=kd)) ⟨λh=>⟨λ_ I=>h I.1,λ_=>rfl⟩,λh=>⟨λI=>⟨λ_ R=>I R.2,λ_=>rfl⟩,λI=>⟨(λe=>by cases e),λR=>absurd ⟨h,I⟩ R⟩⟩⟩ (λhp=> ?_) (λhp=> ?_)
   ·refine⟨⟨y.k+1,l.length-(y.k+1),y.L⟩,⟨U,?_,rfl⟩,(by dsimp only;omega),⟨rfl,wr64 (by omega) (by omega)⟩,rfl⟩
    dsimp only;rw[Uq hx,J,Z37 λh=>hp h.1];exact(du _).symm
   ·refine qB (P:=x.item.kind=11\/x.item.kind=12\/x.item.kind=13) ⟨λh=>⟨λ_=> .inl h,λ_=>rfl⟩,λh=>⟨λI=>⟨λ_=> .inr (.inl I),λ_=>rfl⟩,λI=>⟨λR=>⟨λ_=> .inr (.inr R),λ_=>rfl⟩,λR=>⟨(λe=>by cases e),λh4=>by omega⟩⟩⟩⟩ (λhq=> ?_) (λhq=> ?_)
    ·refine⟨by omega,⟨y.k+1,l.length-(y.k+1),y.L++ [x]⟩,⟨U,?_,rfl⟩,(by dsimp only;omega),⟨(by dsimp only;rw[aC];rfl),wr64 (by omega) (by omega)⟩,rfl⟩
     dsimp only;rw[Uq hx,J,edO_t.2 ⟨bJ.1 hp,hq⟩];rfl
    ·refine⟨⟨y.k+1,l.length-(y.k+1),y.L⟩,⟨U,?_,rfl⟩,(by dsimp only;omega),⟨rfl,wr64 (by omega) (by omega)⟩,rfl⟩
     dsimp only;rw[Uq hx,J,Z37 λh=>hq h.2];exact(du _).symm
  ·rw[bg (by omega)] at J
   refine⟨hl,λl' a1=> ?_⟩;have e:l'.length=y.L.length:=by rw[a1];exact(Zbd _).length_eq
   refine⟨by omega,?_⟩;rw[<-e,aW,a1,J];rfl
noncomputable def SedE:Sum thy:=Wf (.cons (Ze4 (E:=E) cC:Dc E (List (thy.dom cC))) (.cons dN (.cons dN .nil))) (λx=>(show List Rep from x.1).length<=8) (λx=>edsF x.1 x.2.1 x.2.2.1) λy=> .psl cC y ab
theorem Z38:SumOk E 34 SedE:=Zy E_ok (Zc (f:=34) rfl) λx h=>Z9z x.1 x.2.1 x.2.2.1 h
end
section
open Go
structure InX where
 k:Nat
 r:Nat
 t:Tar
 b:Bool
theorem Yef:SumOk E 35 SamE:=Zy E_ok (Zc (f:=35) rfl) λx h=>Zx4 x.1 x.2.1 h.1 h.2
noncomputable def AinE:Fr thy->Hp thy->Nat->Ann thy:=λT h i=>{X:=InX,fr:=λx=> [(2,T 2),(3,T 3),(8,T 8),(10,T 10),(11,.bool ab x.b),(33,T 33),(34,T 34),(35,.int ab .i64 x.k)],bl:=λx=>(bOf (T 10),.raw [.str ab x.t.name,.int ab .i64 x.t.for_,.psl bq x.t.clauses ab] 0 au)::blkP h (T 8),src:=λ_=> [],md:= [bOf (T 10)],ih:=i,M:=i+60,meas:=λx=>x.r}
noncomputable def FinE:Fns thy:=addL (addS (addS (addS (addS F0 34 SedE) 21 SgoE) 35 SamE) 36 SekE) 12 6 AinE E
theorem Yeg:FnsOk E FinE:=Zm E_ok (Zb (Zb (Zb (Zb F0_ok Z38) Zso) Yef) Z26) _ _ _
abbrev Zft:Prop:=
 ([]:List Nat)= []/\(0:Int)=(0:Int)/\aG au (0:Nat) (0:Nat)=aG au (0:Nat) (0:Nat)/\True
abbrev Zpp(kd:Int) (at_:Int) (x:InX) (I:InX) (y:List Rep):Prop:=
 kd=kd/\at_=at_/\(0:Nat)=(0:Nat)/\(0:Nat)=(0:Nat)/\InX.b x=InX.b I/\(y=y/\(ab=ac->ab=ac))/\(↑(aa y):Int)=(↑(aa y)
 :Int)/\wr af ((↑(InX.k x):Int)+(1:Int))=(↑(InX.k I):Int)/\True
abbrev Zd4(t:Tar):Prop:=
 []=bN t/\(0:Int)=bI t/\ar t= []/\True
abbrev Zvc(x:InX) (I:InX):Prop:=
 bN (InX.t x)=bN (InX.t I)/\bI (InX.t x)=bI (InX.t I)/\(ar (InX.t x)=ar (InX.t I)/\(ab=ac->ab=ac))/\True
abbrev Z3b(x:InX) (t:Tar) (e:Int):Prop:=
 (!InX.b x)=ab->(bN (InX.t x)=bN t/\bI (InX.t x)=bI t/\(ar (InX.t x)=ar t/\(ab=ac->ab=ac))/\True)/\(0:
 Int)=e/\True
abbrev qDP1(I:List Rep):=(↑(aa I):Int)
abbrev qDP2:=(ab=ac->ab=ac)
abbrev qDP3(I:InX):=(↑(InX.k I):Int)
abbrev qDP6:=(0:Int)
abbrev qDP4(I:InX):=([]=bN (InX.t I)/\qDP6=bI (InX.t I)/\ar (InX.t I)= []/\True)
abbrev qDP5:=(0:Nat)
abbrev qDP7:=(1:Int)
theorem Z81(l:List Rep) (a1 kd at_:Int) (t:Tar) (e:Int):Zk E FinE (vc E FinE 400) 12 [.psl cC l ab,.int ab .i64 a1,.int ab .i64 kd,.int ab .i64 at_] hp0 0 (λr=>ret E (patch hp0 0 r) r.v (.tup [tarE t,.int ab .i64 e]))=(
 (decide (a1>=qDP6)=ac->(decide (a1<(16:Int))=ac->(decide (kd>=qDP7)=ac->(decide (kd<=(6:Int))=ac->(decide (at_<qDP6)=ac->(Zd4 t)/\qDP7=e/\True)/\(decide (at_<qDP6)=ab->(decide (at_>(1073741824:Int))=ac->(Zd4 t)/\qDP7=e/\True)/\(decide (at_>(1073741824:Int))=ab->aa (have this:=l;this)<=(8:Nat)/\∀(y:List Rep),y=edsF l a1 kd->∃(R:InX->Prop),(∃(x:InX),R x/\ac=ac/\(kd=kd/\at_=at_/\qDP5=qDP5/\qDP5=qDP5/\ab=InX.b x/\(y=y/\qDP2)/\(qDP1 y)=(qDP1 y)/\qDP6=(qDP3 x)/\True)/\(qDP4 x)/\(Zft)/\True)/\∀(x:InX),R x->(decide ((qDP3 x)<(qDP1 y))=ac->qDP6<=(qDP3 x)/\(qDP3 x)+qDP7<=(qDP1 y)/\∀(J:Rep),y[ag (qDP3 x)]? =ae J->(decide (eD (cZ J)>at_)=ac->((!InX.b x)=ac->(Zd4 t)/\(220:Int)=e/\True)/\(Z3b x t e))/\(decide (eD (cZ J)>at_)=ab->((fw (cZ J)==(13:Int))=ac->∃(I:InX),R I/\I.2+(1:Nat)<=x.2/\ac=ac/\(kd=kd/\at_=at_/\qDP5=qDP5/\qDP5=qDP5/\ab=InX.b I/\(y=y/\qDP2)/\(qDP1 y)=(qDP1 y)/\wr af ((qDP3 x)+qDP7)=(qDP3 I)/\True)/\(qDP4 I)/\(Zft)/\True)/\((fw (cZ J)==(13:Int))=ab->True/\∀(U:Tar×Int),U=Y6 (ItD.text (cZ J)) kd->((aE U !=qDP6)=ac->∃(I:InX),R I/\I.2+(1:Nat)<=x.2/\ac=ac/\(Zpp kd at_ x I y)/\(Zvc x I)/\(Zft)/\True)/\((aE U !=qDP6)=ab->((fw (cZ J)==(11:Int))=ac->∃(I:InX),R I/\I.2+(1:Nat)<=x.2/\ac=ac/\(kd=kd/\at_=at_/\qDP5=qDP5/\qDP5=qDP5/\ac=InX.b I/\(y=y/\qDP2)/\(qDP1 y)=(qDP1 y)/\wr af ((qDP3 x)+qDP7)=(qDP3 I)/\True)/\(bN (ao U)=bN (InX.t I)/\bI (ao U)=bI (InX.t I)/\(ar (ao U)=ar (InX.t I)/\qDP2)/\True)/\(Zft)/\True)/\((fw (cZ J)==(11:Int))=ab->(InX.b x=ac->(aa (ar (InX.t x))<=(100000:Nat)/\aa (ar (ao U))<=(100000:Nat))/\∀(a0:Tar),a0=amF (InX.t x) (ao U)->((∀(c:Cls),c∈ar a0->Ex.sz (aA c)<=(10000:Nat)/\aa (aV c)+(1:Nat)<=(1000000000:Nat))/\aa (ar a0)+(1:Nat)<=(1000000000:Nat))/\∀(a2:Int),a2=eckF a0->((a2==qDP6)=ac->∃(I:InX),R I/\I.2+(1:Nat)<=x.2/\ac=ac/\(Zpp kd at_ x I y)/\(bN a0=bN (InX.t I)/\bI a0=bI (InX.t I)/\(ar a0=ar (InX.t I)/\qDP2)/\True)/\(Zft)/\True)/\((a2==qDP6)=ab->∃(I:InX),R I/\I.2+(1:Nat)<=x.2/\ac=ac/\(Zpp kd at_ x I y)/\(Zvc x I)/\(Zft)/\True))/\(InX.b x=ab->∃(I:InX),R I/\I.2+(1:Nat)<=x.2/\ac=ac/\(Zpp kd at_ x I y)/\(Zvc x I)/\(Zft)/\True))))))/\(decide ((qDP3 x)<(qDP1 y))=ab->((!InX.b x)=ac->(Zd4 t)/\(220:Int)=e/\True)/\(Z3b x t e)))))/\(decide (kd<=(6:Int))=ab->(Zd4 t)/\qDP7=e/\True))/\(decide (kd>=qDP7)=ab->(Zd4 t)/\qDP7=e/\True))/\(decide (a1<(16:Int))=ab->(Zd4 t)/\qDP7=e/\True))/\(decide (a1>=qDP6)=ab->(Zd4 t)/\qDP7=e/\True)):=by kernel_rfl
theorem Z3c:∀(l:List Cls) (a:Bool) (m:List (List Nat×Bool)),goC a ac m l≠0
 | [],a,m=>by
  rw[goC]
  cases a<;>simp
 |c::r,a,m=>by
  rw[Zen]
  split
  ·rw[dK,dK];exact Z3c r _ _
  ·decide
theorem Uo{t:Tar} (h:Z9 t=0):t.clauses.length<=64:=by
 unfold Z9 at h;split at h
 ·rename_i I
  apply ik;intro J;rw[decide_eq_true (by omega:64<t.clauses.length)] at h;exact Z3c _ _ _ h
 ·cases h
theorem Vq{t:Tar} (h:eckF t=0):Z9 t=0:=by
 unfold eckF at h;split at h
 ·rename_i I;exact absurd h I
 ·rename_i I
  apply ik;intro J;unfold U6 at I;rw[if_pos J] at I;exact I J
theorem Zmn{s:List Nat} {k:Int} (h:(Y6 s k).2=0):eckF (Y6 s k).1=0:=by
 unfold Y6 at h⊢;split at h
 ·cases h
 ·rename_i R
  split at h
  ·rename_i J;exact absurd h J
  ·rename_i J
   split at h
   ·cases h
   ·rename_i U
    split at h
    ·rename_i I;exact absurd h I
    ·rename_i I
     rw[if_neg R,if_neg J,if_neg U,if_neg I];exact bJ.1 I
theorem Zvd{I:Type}:∀{m:List (List Nat×I)} {a:List Nat} {v:I} {p:List Nat×I},p∈putS m a v->p.2=v\/p∈m
 | [],a,v,p,h=>by
  rw[putS] at h
  rw[bZ.1 h]
  exact .inl rfl
 |q::m,a,v,p,h=>by
  rw[putS] at h
  split at h
  ·rcases aL.1 h with rfl|h
   ·exact .inl rfl
   ·exact .inr (aX _ h)
  ·rcases aL.1 h with rfl|h
   ·exact .inr (cB ..)
   ·exact(Zvd h).imp id (aX _)
theorem Zpq:∀{l:List Cls} {m:List (List Nat×Cls)} {p:List Nat×Cls},p∈Zax m l->p.2∈l\/p∈m
 | [],m,p,h=> .inr h
 |c::r,m,p,h=>by
  rcases Zpq (l:=r) (m:=putS m c.name c) h with h|h
  ·exact .inl (aX _ h)
  ·rcases Zvd h with h|h
   ·rw[h];exact .inl (cB ..)
   ·exact .inr h
theorem Zkv{I:Type}:∀{m:List (List Nat×I)} {a:List Nat} {v:I},Z4 m a=ae v->∃p∈m,p.2=v
 |q::m,a,v,h=>by
  rw[Z4] at h
  split at h
  ·cases h;exact⟨q,cB ..,rfl⟩
  ·obtain⟨p,J,e⟩:=Zkv h
   exact⟨p,aX _ J,e⟩
theorem Zip:∀{l:List Cls} {m:List (List Nat×Cls)} {c:Cls},c∈(Wz m l).1->c∈l\/∃p∈m,p.2=c
 |d::r,m,c,h=>by
  cases I:Z4 m d.name with
  |none=>
   rw[Zfa I] at h
   rcases aL.1 h with rfl|h
   ·exact .inl (cB ..)
   ·exact(Zip h).imp (aX _) id
  |some e=>
   rw[Ze9 I] at h
   rcases aL.1 h with rfl|h
   ·exact .inr (Zkv I)
   ·rcases Zip h with h|⟨p,J,e⟩
    ·exact .inl (aX _ h)
    ·exact .inr ⟨p,Zmm _ _ p J,e⟩
theorem Zsr{t a:Tar} {c:Cls} (h:c∈(amF t a).clauses):c∈t.clauses\/c∈a.clauses:=by
 rcases bS.1 (show c∈_++_ from h) with h|h
 ·rcases Zip h with h|⟨p,I,e⟩
  ·exact .inl h
  ·rcases Zpq I with h|h
   ·exact .inr (e▸h)
   ·cases h
 ·exact .inr (List.mem_filter.1 h).1
theorem Yeh(t a:Tar):(amF t a).clauses.length<=t.clauses.length+a.clauses.length:=by
 show(_++_:List Cls).length<=_;rw[aC,Zih];have:=dd (λc:Cls=>(Z4 (Wz (Zax [] a.clauses) t.clauses).2 c.name).isSome) a.clauses;unfold Zb9;omega
noncomputable def inF(l:List Rep) (I kd at_:Int):Tar×Int:=
 if(0<=I/\I<16/\1<=kd/\kd<=6)/\0<=at_/\at_<=1073741824 then
  (if(rnE Y6 eckF amF kd at_ (edsF l I kd) (zTE,ab)).2=ac then((rnE Y6 eckF amF kd at_ (edsF l I kd) (zTE,ab)).1,0) else(zTE,220))
 else(zTE,1)
theorem Z82(l:List Rep) (J kd at_:Int) (h8:l.length<=8):PureC E 12 [.psl cC l ab,.int ab .i64 J,.int ab .i64 kd,.int ab .i64 at_] (.tup [tarE (inF l J kd at_).1,.int ab .i64 (inF l J kd at_).2]):=by
 refine Za E_ok (Zd E_ok Yeg 400) ?_;rw[Z81];delta qDP1 qDP2 qDP3 qDP6 qDP4 qDP5 qDP7;unfold Z3b Zvc Zd4 Zpp Zft;simp only[bt,decide_eq_true_eq,decide_eq_false_iff_not,true_and,and_true,imp_self,implies_true,false_and,and_false,or_false,false_or,exists_false,bne_iff_ne,bne_eq_false_iff_eq,beq_iff_eq,beq_eq_false_iff_ne,bi,cd];have a0:¬((0<=J/\J<16/\1<=kd/\kd<=6)/\0<=at_/\at_<=1073741824)->([]=(inF l J kd at_).1.name/\0=(inF l J kd at_).1.for_/\(inF l J kd at_).1.clauses= [])/\1=(inF l J kd at_).2:=λh=>by
  unfold inF;rw[if_neg h];exact⟨⟨rfl,rfl,rfl⟩,rfl⟩
 refine aB (λh1=>aB (λh2=>aB (λh3=>aB (λh4=>aB (λh5=>a0 (by omega)) (λh5=>aB (λh6=>a0 (by omega)) (λh6=> ?_))) (λh4=>a0 (by omega))) (λh3=>a0 (by omega))) (λh2=>a0 (by omega))) (λh1=>a0 (by omega));refine⟨h8,λy hy=> ?_⟩;have a8:inF l J kd at_=if(rnE Y6 eckF amF kd at_ y (zTE,ab)).2=ac then((rnE Y6 eckF amF kd at_ y (zTE,ab)).1,0) else(zTE,220):=by
  unfold inF;rw[if_pos (by omega),hy]
 have b3:y.length<=8:=by
  rw[hy];exact bQ (iy (Zbd _).length_eq) (bQ (dd ..) h8)
 generalize inF l J kd at_=z at*;have b0:∀(t:Tar) (b:Bool),rnE Y6 eckF amF kd at_ y (zTE,ab)=(t,b)->(b=ab->([]=z.1.name/\0=z.1.for_/\z.1.clauses= [])/\220=z.2)/\(b=ac->(t.name=z.1.name/\t.for_=z.1.for_/\t.clauses=z.1.clauses)/\0=z.2):=by
  intro t b e;rw[e] at a8;refine⟨λR=> ?_,λR=> ?_⟩
  ·rw[a8,R];exact⟨⟨rfl,rfl,rfl⟩,rfl⟩
  ·rw[a8,R];exact⟨⟨rfl,rfl,rfl⟩,rfl⟩
 refine⟨λx=>x.k<=y.length/\rnE Y6 eckF amF kd at_ (y.drop x.k) (x.t,x.b)=rnE Y6 eckF amF kd at_ y (zTE,ab)/\(∀c∈x.t.clauses,c.pay.sz<=10000/\c.when_.length+1<=1000000000)/\x.t.clauses.length<=64/\x.r=y.length-x.k,⟨⟨0,y.length,zTE,ab⟩,⟨bb _,rfl,(λc U=>by cases U),bb _,rfl⟩,⟨rfl,rfl⟩,rfl,rfl,rfl⟩,?_⟩;rintro x ⟨hk,I,a3,a9,hr⟩;refine aB (λh=>⟨by omega,by omega,λw hw=> ?_⟩) (λh=> ?_)
 ·rw[Z0 hw,rnE] at I
  have a1:x.k+1<=y.length:=by omega
  refine aB (λb2=> ?_) (λb2=> ?_)
  ·rw[if_pos (by omega)] at I
   exact b0 x.t x.b I.symm
  ·rw[if_neg (by omega)] at I
   unfold stE at I;refine aB (λa7=> ?_) (λa7=> ?_)
   ·rw[if_pos a7] at I
    exact⟨⟨x.k+1,y.length-(x.k+1),zTE,ab⟩,⟨a1,I,(λc U=>by cases U),bb _,rfl⟩,(by dsimp only;omega),⟨rfl,wr64 (by omega) (by omega)⟩,rfl,rfl,rfl⟩
   ·rw[if_neg a7] at I
    intro g hg;rw[<-hg] at I;refine aB (λa2=> ?_) (λa2=> ?_)
    ·rw[if_pos a2] at I
     exact⟨⟨x.k+1,y.length-(x.k+1),x.t,x.b⟩,⟨a1,I,a3,a9,rfl⟩,(by dsimp only;omega),⟨rfl,wr64 (by omega) (by omega)⟩,rfl,rfl,rfl⟩
    ·rw[if_neg (λh=>h a2)] at I
     have a5:SmE g.1:=by rw[hg];exact Zsp _ _
     have b1:g.1.clauses.length<=64:=by rw[hg] at a2⊢;exact Uo (Vq (Zmn a2))
     refine aB (λa6=> ?_) (λa6=> ?_)
     ·rw[if_pos a6] at I
      exact⟨⟨x.k+1,y.length-(x.k+1),g.1,ac⟩,⟨a1,I,a5.1,b1,rfl⟩,(by dsimp only;omega),⟨rfl,wr64 (by omega) (by omega)⟩,rfl,rfl,rfl⟩
     ·rw[if_neg a6] at I
      refine aB (λR=> ?_) (λR=> ?_)
      ·rw[R] at I
       dsimp only at I;rw[if_pos rfl] at I;refine⟨⟨by omega,by omega⟩,λm hm=>⟨⟨λc U=> ?_,?_⟩,λq hq=> ?_⟩⟩
       ·rw[hm] at U
        rcases Zsr U with h|h
        ·exact a3 c h
        ·exact a5.1 c h
       ·have:=Yeh x.t g.1
        rw[hm];omega
       ·rw[<-hm] at I
        rw[<-hq] at I;refine aB (λa4=> ?_) (λa4=> ?_)
        ·rw[if_pos a4] at I
         refine⟨⟨x.k+1,y.length-(x.k+1),m,x.b⟩,⟨a1,(by dsimp only;rw[R];exact I),(λc U=> ?_),Uo (Vq (by rw[<-hq];exact a4)),rfl⟩,(by dsimp only;omega),⟨rfl,wr64 (by omega) (by omega)⟩,rfl,rfl,rfl⟩;rw[hm] at U;rcases Zsr U with h|h
         ·exact a3 c h
         ·exact a5.1 c h
        ·rw[if_neg a4] at I
         exact⟨⟨x.k+1,y.length-(x.k+1),x.t,x.b⟩,⟨a1,(by dsimp only;rw[R];exact I),a3,a9,rfl⟩,(by dsimp only;omega),⟨rfl,wr64 (by omega) (by omega)⟩,rfl,rfl,rfl⟩
      ·rw[R] at I
       dsimp only at I;rw[if_neg (by decide)] at I;exact⟨⟨x.k+1,y.length-(x.k+1),x.t,x.b⟩,⟨a1,(by dsimp only;rw[R];exact I),a3,a9,rfl⟩,(by dsimp only;omega),⟨rfl,wr64 (by omega) (by omega)⟩,rfl,rfl,rfl⟩
 ·rw[bF (by omega)] at I
  exact b0 x.t x.b I.symm
theorem Z3d{s:List Nat} {k:Int} (h:(Y6 s k).2=0):(Y6 s k).1.for_=k:=by
 unfold Y6 at h⊢;split at h
 ·cases h
 ·rename_i U
  split at h
  ·rename_i I;exact absurd h I
  ·rename_i I
   split at h
   ·cases h
   ·rename_i R
    split at h
    ·rename_i J;exact absurd h J
    ·rename_i J
     rw[if_neg U,if_neg I,if_neg R,if_neg J];exact bJ.1 R
def GdT(k:Int) (s:Tar×Bool):Prop:=SmE s.1/\s.1.clauses.length<=64/\(s.2=ac->eckF s.1=0/\s.1.for_=k)
theorem Yk6{k:Int} {s:Tar×Bool} {x:Rep} (h:GdT k s):GdT k (stE Y6 eckF amF k s x):=by
 unfold stE;split
 ·exact⟨Za0,bb _,(λe=>by cases e)⟩
 ·split
  ·exact h
  ·rename_i J
   have J:=bJ.1 J;split
   ·exact⟨Zsp _ _,Uo (Vq (Zmn J)),λ_=>⟨Zmn J,Z3d J⟩⟩
   ·split
    ·rename_i U
     split
     ·rename_i R
      refine⟨⟨λc I=> ?_,?_⟩,Uo (Vq R),λ_=>⟨R,(h.2.2 U).2⟩⟩
      ·rcases Zsr I with I|I
       ·exact h.1.1 c I
       ·exact(Zsp _ _).1 c I
      ·have:=Uo (Vq R)
       exact Nat.lt_of_le_of_lt this (by decide)
     ·exact h
    ·exact h
theorem Yiu{k t:Int}:∀{l:List Rep} {s:Tar×Bool},GdT k s->GdT k (rnE Y6 eckF amF k t l s)
 | [],s,h=>h
 |x::r,s,h=>by
  rw[rnE]
  split
  ·exact h
  ·exact Yiu (Yk6 h)
theorem Zkw(l:List Rep) (I kd at_:Int):SmE (inF l I kd at_).1/\(inF l I kd at_).1.clauses.length<=64/\((inF l I kd at_).2=0->eckF (inF l I kd at_).1=0/\(inF l I kd at_).1.for_=kd)/\((inF l I kd at_).2≠0->(inF l I kd at_).1=zTE):=by
 have h:GdT kd (rnE Y6 eckF amF kd at_ (edsF l I kd) (zTE,ab)):=Yiu ⟨Za0,bb _,(λe=>by cases e)⟩;unfold inF;split
 ·split
  ·rename_i J
   exact⟨h.1,h.2.1,λ_=>h.2.2 J,λe=>absurd rfl e⟩
  ·exact⟨Za0,bb _,(λe=>by cases e),λ_=>rfl⟩
 ·exact⟨Za0,bb _,(λe=>by cases e),λ_=>rfl⟩
noncomputable def dInE:DcL E (List Rep×Int×Int×Int×Unit):= .cons (Ze4 (E:=E) cC:Dc E (List (thy.dom cC))) (.cons dN (.cons dN (.cons dN .nil)))
end
section
open Go
structure CpE where
 L:List Int
 i:Int
 j:Int
 r:Nat
def blkI(v:SV thy) (L:List Int):List (Nat×Blk thy):= [(bOf v,.rows gJ L 0)]
def Ykj:Fr thy->Hp thy->Nat->Ann thy:=λT h i=>{X:=CpE,fr:=λx=> [(0,T 0),(3,.int ab .i64 x.i)],bl:=λx=>blkI (T 0) x.L,src:=λ_=> [],md:= [bOf (T 0)],ih:=i,M:=i+30,meas:=λx=>x.r}
def Ykk:Fr thy->Hp thy->Nat->Ann thy:=λT h i=>{X:=CpE,fr:=λx=> [(0,T 0),(3,.int ab .i64 x.i),(4,T 4),(5,.int ab .i64 x.j)],bl:=λx=>blkI (T 0) x.L,src:=λ_=> [],md:= [bOf (T 0)],ih:=i,M:=i+30,meas:=λx=>x.r}
def AchE:Fr thy->Hp thy->Nat->Ann thy:=λT h i=>{X:=Bool×CpE,fr:=λx=> [(6,match x.1 with|true=> .sl i 0 x.2.L.length 1 au|false=> .val (.slice au 0 0)),(17,T 17),(18,T 18),(19,.int ab .i64 x.2.i)],bl:=λx=>(match x.1 with|true=> [(i,.rows gJ x.2.L 0)]|false=> []),src:=λx=>(match x.1 with|true=> [(i,6)]|false=> []),md:= [],ih:=i+1,M:=i+40,meas:=λx=>x.2.r,ex:=ex2,al:=al2,exOk:=Ziy,alOk:=Ziz}
noncomputable def FchE:Fns thy:=addL (addL (addL (addS F0 34 SedE) 43 4 Ykj E) 43 9 Ykk E) 19 4 AchE E
theorem Yco:FnsOk E FchE:=Zm E_ok (Zm E_ok (Zm E_ok (Zb F0_ok Z38) _ _ _) _ _ _) _ _ _
abbrev qDQ2:=(0:Nat)
abbrev qDQ1(I:CpE):=(qDQ2=qDQ2/\aa (CpE.L I)=aa (CpE.L I)/\True)
abbrev qDQ3(I:CpE):=(↑(aa (CpE.L I)):Int)
abbrev qDQe:=(1:Nat)
abbrev qDQ9:=(ab=ac->ab=ac)
abbrev qDQa:=(1:Int)
abbrev qDQ7(I:List Rep):=(↑(aa I):Int)
abbrev qDQ4(U:Bool×CpE->Prop) (R:CpE) (I:List Rep):=(∃(J:CpE),U (ab,J)/\J.4+qDQe<=R.4/\ac=ac/\(False/\(I=I/\qDQ9)/\(qDQ7 I)=(qDQ7 I)/\wr af (CpE.i R+qDQa)=CpE.i J/\True)/\True)
abbrev qDQh(I:CpE):=(qDQ2+ag (CpE.i I))
abbrev qDQd:=(0:Int)
abbrev qDQg(I:CpE) (J:CpE):=(qDQd<=CpE.i I/\CpE.i I<=(qDQ3 J))
abbrev qDQ5(I:CpE) (J:CpE) (R:List Int):=(decide (CpE.i I<(qDQ3 J))=ac->(qDQ2<=qDQ2+ag (CpE.i I)/\qDQ2+ag (CpE.i I)<=aa (CpE.L I))/\(qDQg I J)/\qDQ2+ag (CpE.i I)<=aa (av (qDQh I) (CpE.L I))/\av (ag (CpE.i I)) (av (qDQh I) (CpE.L I))=R)
abbrev qDQ6(I:CpE) (J:CpE):=(qDQ2+ag (CpE.i I)=qDQ2+ag (CpE.i I)/\aa (CpE.L J)-ag (CpE.i I)=aa (CpE.L J)-ag (CpE.i I)/\True)
abbrev qDQ8(I:Rep) (J:Bool->Prop):=((decide (eD (cZ I)>=qDQd)=ac->(decide (eD (cZ I)<=(1073741824:Int))=ac->J ac)/\(decide (eD (cZ I)<=(1073741824:Int))=ab->J ab))/\(decide (eD (cZ I)>=qDQd)=ab->J ab))
abbrev qDQb(I:CpE) (J:CpE):=(↑(aa (CpE.L I)-ag (CpE.i J)):Int)
abbrev qDQc(I:CpE) (J:CpE):=(CpE.L I=CpE.L J/\qDQ2=qDQ2)
abbrev qDQf:=([]:List Int)
theorem Z7c(l:List Rep) (a4 kd:Int) (v:List Int):Zk E FchE (vc E FchE 400) 19 [.psl cC l ab,.int ab .i64 a4,.int ab .i64 kd] hp0 0 (λr=>ret E (patch hp0 0 r) r.v (.psl gJ v ab))=(
 (decide (a4>=qDQd)=ac->(decide (a4<(16:Int))=ac->(decide (kd>=qDQa)=ac->(decide (kd<=(6:Int))=ac->aa (have this:=l;this)<=(8:Nat)/\∀(y:List Rep),y=edsF l a4 kd->∃(R:Bool×CpE->Prop),((∃(I:CpE),R (ab,I)/\ac=ac/\(aG au qDQ2 qDQ2=aG au qDQ2 qDQ2/\(y=y/\qDQ9)/\(qDQ7 y)=(qDQ7 y)/\qDQd=CpE.i I/\True)/\True)\/∃(y:CpE),R (ac,y)/\ac=ac/\False)/\(∀(I:CpE),R (ab,I)->(decide (CpE.i I<(qDQ7 y))=ac->qDQd<=CpE.i I/\CpE.i I+qDQa<=(qDQ7 y)/\∀(x:Rep),y[ag (CpE.i I)]? =ae x->∃(Q:Bool->Prop),(qDQ8 x Q)/\(Q ac->(qDQ4 R I y)\/∃(U:CpE),R (ac,U)/\U.4+qDQe<=I.4/\ac=ac/\((qDQ2=qDQ2/\qDQe=aa (CpE.L U)/\True)/\(y=y/\qDQ9)/\(qDQ7 y)=(qDQ7 y)/\wr af (CpE.i I+qDQa)=CpE.i U/\True)/\([eD (cZ x)]=CpE.L U/\qDQ2=qDQ2)/\True)/\(Q ab->(∃(U:CpE),R (ab,U)/\U.4+qDQe<=I.4/\ac=ac/\(aG au qDQ2 qDQ2=aG au qDQ2 qDQ2/\(y=y/\qDQ9)/\(qDQ7 y)=(qDQ7 y)/\wr af (CpE.i I+qDQa)=CpE.i U/\True)/\True)\/∃(y:CpE),R (ac,y)/\y.4+qDQe<=I.4/\ac=ac/\False))/\(decide (CpE.i I<(qDQ7 y))=ab->v= []))/\∀(I:CpE),R (ac,I)->(decide (CpE.i I<(qDQ7 y))=ac->qDQd<=CpE.i I/\CpE.i I+qDQa<=(qDQ7 y)/\∀(x:Rep),y[ag (CpE.i I)]? =ae x->∃(Q:Bool->Prop),(qDQ8 x Q)/\(Q ac->(aa (CpE.L I)<=aa (CpE.L I)/\qDQ2<=aa (CpE.L I)/\(aa (CpE.L I)+qDQe)*(8:Nat)<=(140737488355328:Nat))/\((qDQ4 R I y)\/∃(U:CpE),R (ac,U)/\U.4+qDQe<=I.4/\ac=ac/\((qDQ2=qDQ2/\aa (CpE.L I)+qDQe=aa (CpE.L U)/\True)/\(y=y/\qDQ9)/\(qDQ7 y)=(qDQ7 y)/\wr af (CpE.i I+qDQa)=CpE.i U/\True)/\(av (aa (CpE.L I)) (CpE.L I)++ [eD (cZ x)]=CpE.L U/\qDQ2=qDQ2)/\True))/\(Q ab->(qDQ4 R I y)\/∃(U:CpE),R (ac,U)/\U.4+qDQe<=I.4/\ac=ac/\((qDQ2=qDQ2/\aa (CpE.L I)=aa (CpE.L U)/\True)/\(y=y/\qDQ9)/\(qDQ7 y)=(qDQ7 y)/\wr af (CpE.i I+qDQa)=CpE.i U/\True)/\(qDQc I U)/\True))/\(decide (CpE.i I<(qDQ7 y))=ab->(decide ((qDQ3 I)<(2:Int))=ac->qDQ2+aa (CpE.L I)<=aa (CpE.L I)/\av (aa (CpE.L I)) (CpE.L I)=v)/\(decide ((qDQ3 I)<(2:Int))=ab->∃(R:CpE->Prop),(∃(x:CpE),R x/\ac=ac/\((qDQ1 I)/\qDQa=CpE.i x/\True)/\(qDQc I x)/\True)/\∀(x:CpE),R x->(decide (CpE.i x<(qDQ3 I))=ac->(qDQd<=CpE.i x/\CpE.i x+qDQa<=(qDQ3 I))/\qDQ2+ag (CpE.i x)+qDQe<=aa (CpE.L x)/\∀(a6:Int),(CpE.L x)[qDQ2+ag (CpE.i x)]? =ae a6->(qDQd<=wr af (CpE.i x-qDQa)/\wr af (CpE.i x-qDQa)+qDQa<=(qDQ3 I))/\qDQ2+ag (wr af (CpE.i x-qDQa))+qDQe<=aa (CpE.L x)/\∀(a7:Int),(CpE.L x)[qDQ2+ag (wr af (CpE.i x-qDQa))]? =ae a7->((a6==a7)=ac->(qDQg x I)/\(decide (CpE.i x<(qDQ3 I))=ac->∃(R:CpE->Prop),(∃(J:CpE),R J/\ac=ac/\((qDQ1 I)/\CpE.i x=CpE.i J/\(qDQ6 x I)/\qDQa=CpE.j J/\True)/\(qDQc x J)/\True)/\∀(J:CpE),R J->(decide (CpE.j J<(qDQb I x))=ac->(qDQd<=CpE.j J/\CpE.j J+qDQa<=(qDQb I x))/\qDQ2+ag (CpE.i x)+ag (CpE.j J)+qDQe<=aa (CpE.L J)/\∀(a2:Int),(CpE.L J)[qDQ2+ag (CpE.i x)+ag (CpE.j J)]? =ae a2->(qDQd<=wr af (CpE.j J-qDQa)/\wr af (CpE.j J-qDQa)+qDQa<=(qDQb I x))/\qDQ2+ag (CpE.i x)+ag (wr af (CpE.j J-qDQa))+qDQe<=
aa (CpE.L J)/\∀(a0:Int),(CpE.L J)[qDQ2+ag (CpE.i x)+ag (wr af (CpE.j J-qDQa))]? =ae a0->((a2 !=a0)=ac->(qDQd<=CpE.j J/\CpE.j J+qDQa<=(qDQb I x))/\qDQ2+ag (CpE.i x)+ag (CpE.j J)+qDQe<=aa (CpE.L J)/\∀(a1:Int),(CpE.L J)[qDQ2+ag (CpE.i x)+ag (CpE.j J)]? =ae a1->(qDQd<=CpE.i J/\CpE.i J+qDQa<=(qDQ3 I))/\qDQ2<=qDQ2+ag (CpE.i J)/\qDQ2+ag (CpE.i J)+qDQe<=aa (CpE.L J)/\∀(a3:Int),(CpE.L J)[qDQ2+ag (CpE.i J)]? =ae a3->∃(a5:CpE),R a5/\a5.4+qDQe<=J.4/\ac=ac/\((qDQ1 I)/\wr af (CpE.i J+qDQa)=CpE.i a5/\(qDQ6 x I)/\wr af (CpE.j J+qDQa)=CpE.j a5/\True)/\(dp (CpE.L J) (qDQh J) a1=CpE.L a5/\qDQ2=qDQ2)/\True)/\((a2 !=a0)=ab->∃(a1:CpE),R a1/\a1.4+qDQe<=J.4/\ac=ac/\((qDQ1 I)/\CpE.i J=CpE.i a1/\(qDQ6 x I)/\wr af (CpE.j J+qDQa)=CpE.j a1/\True)/\(qDQc J a1)/\True))/\(decide (CpE.j J<(qDQb I x))=ab->(qDQg J I)/\(qDQ5 J I v)/\(decide (CpE.i J<(qDQ3 I))=ab->False)))/\(decide (CpE.i x<(qDQ3 I))=ab->∃(R:CpE->Prop),(∃(J:CpE),R J/\ac=ac/\((qDQ1 I)/\CpE.i x=CpE.i J/\(qDQf= []/\qDQ9)/\qDQa=CpE.j J/\True)/\(qDQc x J)/\True)/\∀(x:CpE),R x->(decide (CpE.j x<(↑qDQ2:Int))=ac->qDQd<=CpE.j x/\CpE.j x+qDQa<=(↑qDQ2:Int)/\∀(J:Int),qDQf[ag (CpE.j x)]? =ae J->qDQd<=wr af (CpE.j x-qDQa)/\wr af (CpE.j x-qDQa)+qDQa<=(↑qDQ2:Int)/\∀(a2:Int),qDQf[ag (wr af (CpE.j x-qDQa))]? =ae a2->((J !=a2)=ac->qDQd<=CpE.j x/\CpE.j x+qDQa<=(↑qDQ2:Int)/\∀(a0:Int),qDQf[ag (CpE.j x)]? =ae a0->(qDQd<=CpE.i x/\CpE.i x+qDQa<=(qDQ3 I))/\qDQ2<=qDQ2+ag (CpE.i x)/\qDQ2+ag (CpE.i x)+qDQe<=aa (CpE.L x)/\∀(a1:Int),(CpE.L x)[qDQ2+ag (CpE.i x)]? =ae a1->∃(a3:CpE),R a3/\a3.4+qDQe<=x.4/\ac=ac/\((qDQ1 I)/\wr af (CpE.i x+qDQa)=CpE.i a3/\(qDQf= []/\qDQ9)/\wr af (CpE.j x+qDQa)=CpE.j a3/\True)/\(dp (CpE.L x) (qDQh x) a0=CpE.L a3/\qDQ2=qDQ2)/\True)/\((J !=a2)=ab->∃(a0:CpE),R a0/\a0.4+qDQe<=x.4/\ac=ac/\((qDQ1 I)/\CpE.i x=CpE.i a0/\(qDQf= []/\qDQ9)/\wr af (CpE.j x+qDQa)=CpE.j a0/\True)/\(qDQc x a0)/\True))/\(decide (CpE.j x<(↑qDQ2:Int))=ab->(qDQg x I)/\(qDQ5 x I v)/\(decide (CpE.i x<(qDQ3 I))=ab->False))))/\((a6==a7)=ab->∃(J:CpE),R J/\J.4+qDQe<=x.4/\ac=ac/\((qDQ1 I)/\wr af (CpE.i x+qDQa)=CpE.i J/\True)/\(qDQc x J)/\True))/\(decide (CpE.i x<(qDQ3 I))=ab->qDQ2+aa (CpE.L I)<=aa (CpE.L x)/\av (aa (CpE.L I)) (CpE.L x)=v))))/\(decide (kd<=(6:Int))=ab->v= []))/\(decide (kd>=qDQa)=ab->v= []))/\(decide (a4<(16:Int))=ab->v= []))/\(decide (a4>=qDQd)=ab->v= [])):=by kernel_rfl
def Wx:List Int->List Int
 | []=> []
 | [a]=> [a]
 |a::b::r=>if a=b then Wx (b::r) else a::Wx (b::r)
theorem Zew:∀(a:Int) (r:List Int),Wx (a::r)=a::(Wx (a::r)).tail
 |a,[]=>rfl
 |a,b::r=>by
  rw[Wx]
  split
  ·rename_i h;subst h;exact Zew a r
  ·rfl
theorem Zt8{a:Int} {r:List Int}:Wx (a::a::r)=Wx (a::r):=by rw[Wx,if_pos rfl]
theorem Zt9{a b:Int} {r:List Int} (h:a≠b):Wx (a::b::r)=a::Wx (b::r):=by rw[Wx,if_neg h]
theorem Zrf{l:List Int} (h:l.length<2):Wx l=l:=by
 match l,h with
 | [],_=>rfl
 | [a],_=>rfl
 |a::b::r,h=>simp at h;omega
theorem Z05{α:Type} {l m:List α} {d k:Nat} (h:l.drop d=m.drop d) (I:d<=k):l[k]? =m[k]? :=by
 have:=congrArg (λx:List α=>x[k-d]?) h;simp only[cE] at this
 rwa[show d+(k-d)=k by omega] at this
theorem Zn8{α:Type} {l m:List α} {d k:Nat} (h:l.drop d=m.drop d) (I:d<=k):l.drop k=m.drop k:=by
 have:=congrArg (cj (k-d)) h
 rwa[kj,kj,show d+(k-d)=k by omega] at this
def rngB(n:Int):Bool:=decide (0<=n)&&decide (n<=1073741824)
def frmF(y:List Rep):List Int:=(y.map λx=>x.item.from_).filter rngB
theorem Zf9{y:List Rep} {k:Nat} {x:Rep} (h:y[k]? =ae x):frmF (y.take (k+1))=frmF (y.take k)++(if rngB x.item.from_=ac then[x.item.from_] else[]):=by
 unfold frmF;rw[cz,h,List.map_append,fS,fJ]
 congr 1
 cases e:rngB x.item.from_<;>simp[e]
theorem rngB_t{n:Int}:rngB n=ac↔(0<=n/\n<=1073741824):=by unfold rngB;simp
theorem Yba{n:Int} (h:¬(0<=n/\n<=1073741824)):rngB n=false:=by
 cases e:rngB n with
 |false=>rfl
 |true=>exact absurd (rngB_t.1 e) h
noncomputable def chgF(l:List Rep) (I kd:Int):List Int:=if 0<=I/\I<16/\1<=kd/\kd<=6 then Wx (frmF (edsF l I kd)) else[]
theorem Z7d(y:List Rep):(frmF y).length<=y.length:=by
 have:=dd rngB (y.map λx=>x.item.from_);rw[List.length_map] at this;exact this
theorem Z7e(l:List Rep) (a2 kd:Int) (h8:l.length<=8):PureC E 19 [.psl cC l ab,.int ab .i64 a2,.int ab .i64 kd] (.psl gJ (chgF l a2 kd) ab):=by
 refine Za E_ok (Zd E_ok Yco 400) ?_;rw[Z7c];delta qDQ2 qDQ1 qDQ3 qDQe qDQ9 qDQa qDQ7 qDQ4 qDQh qDQd qDQg qDQ5 qDQ6 qDQ8 qDQb qDQc qDQf;simp only[bt,decide_eq_true_eq,decide_eq_false_iff_not,true_and,and_true,imp_self,implies_true,false_and,and_false,or_false,false_or,exists_false,bne_iff_ne,bne_eq_false_iff_eq,beq_iff_eq,beq_eq_false_iff_ne,aw,bb,bk,aW];have a4:¬(0<=a2/\a2<16/\1<=kd/\kd<=6)->chgF l a2 kd= []:=λh=>if_neg h
 refine aB (λh1=>aB (λJ=>aB (λh3=>aB (λh4=> ?_) (λh4=>a4 (by omega))) (λh3=>a4 (by omega))) (λJ=>a4 (by omega))) (λh1=>a4 (by omega));refine⟨h8,λy hy=> ?_⟩;have a9:chgF l a2 kd=Wx (frmF y):=by rw[hy];exact if_pos (by omega)
 have b9:y.length<=8:=by
  rw[hy];exact bQ (iy (Zbd _).length_eq) (bQ (dd ..) h8)
 rw[a9];refine⟨λp=>∃k:Nat,p.2.i=k/\k<=y.length/\(match p.1 with|false=>frmF (y.take k)= []|true=>p.2.L=frmF (y.take k))/\p.2.r=y.length-k,⟨⟨[],0,0,y.length⟩,⟨0,rfl,bb _,rfl,rfl⟩,rfl⟩,?_,?_⟩
 ·rintro x ⟨k,hi,hk,I,hr⟩
  dsimp only at hi hk I hr;refine aB (λh=>⟨by omega,by omega,λw U=> ?_⟩) (λh=> ?_)
  ·have a1:k+1<=y.length:=by omega
   rw[hi,bt] at U;refine qB (P:=0<=w.item.from_/\w.item.from_<=1073741824) ⟨λh=>⟨λJ=>⟨λ_=>⟨by omega,by omega⟩,λ_=>rfl⟩,λJ=>⟨(λe=>by cases e),λh3=>by omega⟩⟩,λh=>⟨(λe=>by cases e),λh3=>by omega⟩⟩ (λR=> ?_) (λR=> ?_)
   ·refine⟨⟨[w.item.from_],k+1,0,y.length-(k+1)⟩,⟨k+1,rfl,a1,?_,rfl⟩,(by dsimp only;omega),⟨rfl,(by rw[hi];exact wrs (by omega) (by omega))⟩,rfl⟩
    dsimp only;rw[Zf9 U,I,rngB_t.2 R];rfl
   ·refine⟨⟨[],k+1,0,y.length-(k+1)⟩,⟨k+1,rfl,a1,?_,rfl⟩,(by dsimp only;omega),(by rw[hi];exact wrs (by omega) (by omega))⟩
    dsimp only;rw[Zf9 U,I,Yba R];rfl
  ·rw[bg (by omega)] at I
   rw[I];rfl
 ·rintro x ⟨k,hi,hk,I,hr⟩
  dsimp only at hi hk I hr;have b1:x.L.length<=8:=by
   have:=Z7d (y.take k);rw[be] at this;rw[I];omega
  refine aB (λh=>⟨by omega,by omega,λw U=> ?_⟩) (λh=> ?_)
  ·have a1:k+1<=y.length:=by omega
   rw[hi,bt] at U;refine qB (P:=0<=w.item.from_/\w.item.from_<=1073741824) ⟨λh=>⟨λJ=>⟨λ_=>⟨by omega,by omega⟩,λ_=>rfl⟩,λJ=>⟨(λe=>by cases e),λh3=>by omega⟩⟩,λh=>⟨(λe=>by cases e),λh3=>by omega⟩⟩ (λR=> ?_) (λR=> ?_)
   ·refine⟨by omega,⟨x.L++ [w.item.from_],k+1,0,y.length-(k+1)⟩,⟨k+1,rfl,a1,?_,rfl⟩,(by dsimp only;omega),⟨(by dsimp only;rw[aC];rfl),(by rw[hi];exact wrs (by omega) (by omega))⟩,rfl⟩
    dsimp only;rw[Zf9 U,I,rngB_t.2 R];rfl
   ·refine⟨⟨x.L,k+1,0,y.length-(k+1)⟩,⟨k+1,rfl,a1,?_,rfl⟩,(by dsimp only;omega),⟨rfl,(by rw[hi];exact wrs (by omega) (by omega))⟩,rfl⟩
    dsimp only;rw[Zf9 U,I,Yba R];exact(du _).symm
  ·rw[bg (by omega)] at I
   rw[<-I];generalize x.L=M at*;refine aB (λh=>(Zrf (by omega)).symm) (λh=> ?_);refine⟨λx=>x.L=M/\∃k:Nat,x.i=k/\1<=k/\k<=M.length/\Wx M=M.take (k-1)++Wx (M.drop (k-1))/\x.r=M.length-k,⟨⟨M,1,0,M.length-1⟩,⟨rfl,1,rfl,aw _,by omega,rfl,rfl⟩,rfl,rfl⟩,?_⟩;rintro x ⟨b5,k,hi,a1,b8,hc,hr⟩;have b7:M.length<=8:=b1;have t1:x.i.toNat=k:=by rw[hi,bt]
   have w1:wr .i64 (x.i-1)=((k-1:Nat):Int):=by rw[hi,wrs (by omega) (by omega)];omega
   have t2:(((k-1:Nat):Int)).toNat=k-1:=bt _;rw[b5,w1,t1,t2];refine aB (λh=> ?_) (λh=> ?_)
   ·have b0:k<M.length:=by omega
    refine⟨⟨by omega,by omega⟩,by omega,λb hb=>⟨⟨by omega,by omega⟩,by omega,λa ha=>aB (λa5=>⟨⟨by omega,by omega⟩,aB (λ_=> ?_) (λJ=>absurd h J)⟩) (λa5=> ?_)⟩⟩
    ·--an equal one is there:c1 is b6 it c0
     have a3:M.drop (k-1)=a::M.drop k:=by have:=Z0 ha;rwa[show k-1+1=k by omega] at this
     have a0:M.drop k=b::M.drop (k+1):=Z0 hb;have a7:Wx M=M.take k++(Wx (M.drop k)).tail:=by
      have hh:Wx (M.drop k)=a::(Wx (M.drop k)).tail:=by
       conv=>lhs;rw[a0]
       rw[Zew,a0,a5]
      rw[hc,a3,show Wx (a::M.drop k)=Wx (M.drop k) by rw[a0,a5];exact Zt8,hh];rw[show M.take k=M.take (k-1)++ [a] by have:=cz (l:=M) (i:=k-1);rw[ha,show k-1+1=k by omega] at this;exact this];simp
     refine⟨λz=>∃k2 q:Nat,z.j=k2/\1<=k2/\k+k2<=M.length/\z.i=q/\k<=q/\q+1<=k+k2/\z.L.length=M.length/\z.L.drop (k+k2-1)=M.drop (k+k2-1)/\Wx M=z.L.take q++(Wx (M.drop (k+k2-1))).tail/\z.r=M.length-(k+k2),⟨⟨M,k,1,M.length-(k+1)⟩,⟨1,k,rfl,aw _,b0,rfl,aw _,aw _,rfl,rfl,a7,rfl⟩,⟨hi,rfl⟩,rfl⟩,?_⟩;rintro z ⟨k2,q,zj,z1,z2,zi,z3,z4,z5,z6,z7,zr⟩;have s1:z.j.toNat=k2:=by rw[zj,bt]
     have s2:z.i.toNat=q:=by rw[zi,bt]
     have w2:wr .i64 (z.j-1)=((k2-1:Nat):Int):=by rw[zj,wrs (by omega) (by omega)];omega
     have s3:(((k2-1:Nat):Int)).toNat=k2-1:=bt _;rw[w2,s1,s2,s3];refine aB (λg=> ?_) (λg=> ?_)
     ·have g':k+k2<M.length:=by omega
      refine⟨⟨by omega,by omega⟩,by omega,λv hv=>⟨⟨by omega,by omega⟩,by omega,λu hu=> ?_⟩⟩;have b4:M[k+k2]? =ae v:=by rw[<-Z05 z6 (by omega)];exact hv
      have b3:M[k+k2-1]? =ae u:=by rw[<-Z05 z6 (aw _)];rw[show k+k2-1=k+(k2-1) by omega];exact hu
      have e1:M.drop (k+k2-1)=u::M.drop (k+k2):=by have:=Z0 b3;rwa[show k+k2-1+1=k+k2 by omega] at this
      have e2:M.drop (k+k2)=v::M.drop (k+k2+1):=Z0 b4;have e3:k+(k2+1)-1=k+k2:=by omega
      refine aB (λb2=>⟨⟨by omega,by omega⟩,by omega,λv2 a6=>⟨⟨by omega,by omega⟩,by omega,λ_ _=> ?_⟩⟩) (λheq=> ?_)
      ·rw[hv] at a6;cases a6
       refine⟨⟨z.L.set q v,q+1,k2+1,M.length-(k+(k2+1))⟩,⟨k2+1,q+1,rfl,by omega,by omega,rfl,by omega,by omega,(by dsimp only;rw[cD];exact z5),?_,?_,rfl⟩,(by dsimp only;omega),⟨(by rw[zi];exact wrs (by omega) (by omega)),(by rw[zj];exact wrs (by omega) (by omega))⟩,rfl⟩
       ·dsimp only
        rw[e3,List.drop_set_of_lt (by omega)];exact Zn8 z6 (by omega)
       ·dsimp only
        have hq:q<z.L.length:=by omega
        rw[e3,z7,e1,e2,Zt9 λh=>b2 h.symm,kk,cz,List.getElem?_set_self hq,List.take_set_of_le (aw _)];rw[Zew v,kk,bE];rfl
      ·refine⟨⟨z.L,q,k2+1,M.length-(k+(k2+1))⟩,⟨k2+1,q,rfl,by omega,by omega,rfl,z3,by omega,z5,?_,?_,rfl⟩,(by dsimp only;omega),⟨zi,(by rw[zj];exact wrs (by omega) (by omega))⟩,rfl⟩
       ·dsimp only
        rw[e3];exact Zn8 z6 (by omega)
       ·dsimp only
        rw[e3,z7,e1,e2,heq,Zt8]
     ·have a8:M.drop (k+k2-1)= [M[k+k2-1]'(by omega)]:=by
       have:=Z0 (ai (show k+k2-1<M.length by omega));rw[this,bF (by omega)]
      rw[a8] at z7;have z8:Wx M=z.L.take q:=by rw[z7];exact du _
      refine⟨⟨by omega,by omega⟩,aB (λ_=>⟨by omega,⟨by omega,by omega⟩,by rw[be];omega,?_⟩) (λg2=>by omega)⟩;rw[List.take_take,Nat.min_self,z8]
    ·refine⟨⟨M,k+1,0,M.length-(k+1)⟩,⟨rfl,k+1,rfl,by omega,by omega,?_,rfl⟩,(by dsimp only;omega),(by rw[hi];exact wrs (by omega) (by omega)),rfl⟩
     have a3:M.drop (k-1)=a::M.drop k:=by have:=Z0 ha;rwa[show k-1+1=k by omega] at this
     have a0:M.drop k=b::M.drop (k+1):=Z0 hb;rw[hc,a3,a0,Zt9 λh=>a5 h.symm,<-a0,jG];rw[show M.take k=M.take (k-1)++ [a] by have:=cz (l:=M) (i:=k-1);rw[ha,show k-1+1=k by omega] at this;exact this];simp
   ·have hk:k=M.length:=by omega
    have a3:M.drop (k-1)= [M[k-1]'(by omega)]:=by
     have:=Z0 (ai (show k-1<M.length by omega));rw[this,bF (by omega)]
    refine⟨aw _,?_⟩;rw[aW];refine(hc.trans ?_).symm;rw[show Wx (M.drop (k-1))=M.drop (k-1) by rw[a3];rfl,List.take_append_drop]
end
end Go.Proofs.YtpmhbnameoklkaaGreatDoor
