/- Merged texts: EdG, EdH, EdI, TpV, TcH, EdJ, EdL, EdK, EdM, EdV, RowEditionsGoodA, RowEditionsGoodB. -/
import Derived.Test.YtbkgpcknakidkaaGreatDoorMf
open And renaming intro->aD
open Bool renaming and_eq_false_iff->bi,and_eq_true->aq,and_false->iL,and_true->cH,false->ab,false_and->eH,false_eq_true->aL,not_eq_false'->cj,not_eq_true'->bn,or_eq_false_iff->bB,or_eq_true->be,true->ac,true_and->cx,true_eq_false->aR,true_or->dW
open ByteArray renaming mk->ej
open Decidable renaming byContradiction->iq,not_not->bv
open Go.IntKind renaming i64->af
open Go.Proofs.YtbkgpcknakidkaaGreatDoor.Cls renaming name->aP,pay->aE,when_->aY
open Go.Proofs.YtbkgpcknakidkaaGreatDoor.Ex renaming d0->bC,d1->bD,d2->bE,d3->bF,eta->ia,l->bx,n->cd,op->aJ,sz->cZ
open Go.Proofs.YtbkgpcknakidkaaGreatDoor.ItD renaming from_->fI,kind->fF,number->li
open Go.Proofs.YtbkgpcknakidkaaGreatDoor.Rep renaming item->dm
open Go.Proofs.YtbkgpcknakidkaaGreatDoor.Tar renaming clauses->au,for_->bG,name->bP
open Go.Proofs.YtbkgpcknakidkaaGreatDoor.Th renaming ins->dC,ints->fX,reps->cL
open Go.Value renaming slice->aH
open Int renaming ofNat_eq_natCast->bV,toNat->ag,toNat_natCast->bA
open List renaming append_nil->cK,drop_drop->eO,drop_eq_nil_of_le->bJ,filter_append->jI,getElem?_eq_getElem->ak,getElem?_eq_none->eC,length->aa,length_append->aB,length_filter_le->dy,length_take->bj,map_append->eY,mem_cons->aM,mem_cons_of_mem->aW,mem_cons_self->cF,mem_of_getElem?->aI,set->du,tail_cons->cu,take->aw,take_add_one->cD,take_length->aU,take_of_length_le->bg
open Nat renaming le_of_eq->iC,le_refl->av,le_trans->bT,lt_of_le_of_lt->jP,zero_add->bm,zero_le->aX
open Option renaming none->ar,some->ae,toList_some->fO
open Prod renaming fst->ao,snd->ay
namespace Go.Proofs.YtbkgpcknakidkaaGreatDoor
set_option linter.unusedVariables false
set_option linter.unusedSimpArgs false
set_option linter.unnecessarySimpa false
set_option maxRecDepth 100000
section
open Go
structure EdX where
 k:Nat
 r:Nat
 L:List Rep
noncomputable def AedE:Fr thy->Hp thy->Nat->Ann thy:=λT h i=>{X:=Bool×EdX,fr:=λx=> [(1,T 1),(2,T 2),(6,match x.1 with|true=> .sl i 0 x.2.L.length 21 ar|false=> .val (.slice ar 0 0)),(10,T 10),(11,T 11),(12,.int ab .i64 x.2.k)],bl:=λx=>(match x.1 with|true=> [(i,.rows cL x.2.L 0)]|false=> []),src:=λx=>(match x.1 with|true=> [(i,6)]|false=> []),md:= [],ih:=i+1,M:=i+40,meas:=λx=>x.2.r,ex:=ex2,al:=al2,exOk:=Zij,alOk:=Zik}
noncomputable def FedE:Fns thy:=addL (addS F0 90 SsoE) 47 2 AedE E
theorem Ygz:FnsOk E FedE:=Zm E_ok (Zb F0_ok Ygu) _ _ _
abbrev Zp1(R:Bool×EdX->Prop) (y:EdX) (J:Int) (kd:Int) (l:List Rep):Prop:=
 ∃(I:EdX),R (ab,I)/\I.2+1<=y.2/\ac=ac/\(J=J/\kd=kd/\False/\(l=l/\(ab=ac->ab=ac))/\(↑(aa l):Int)=
 (↑(aa l):Int)/\wr af ((↑(EdX.k y):Int)+1)=(↑(EdX.k I):Int)/\True)/\True
abbrev Z4d(x:Rep) (Q:Bool->Prop):Prop:=
 ((fF (dm x)==11)=ac->Q ac)/\((fF (dm x)==11)=ab->((fF (dm x)==12)=ac->Q ac)/\((fF
 (dm x)==12)=ab->((fF (dm x)==13)=ac->Q ac)/\((fF (dm x)==13)=ab->Q ab)))
abbrev Z4e(R:Bool×EdX->Prop) (y:EdX) (J:Int) (kd:Int) (l:List Rep):Prop:=
 ∃(I:EdX),R (ab,I)/\I.2+1<=y.2/\ac=ac/\(J=J/\kd=kd/\aH ar 0 0=aH ar 0 0/\(l=
 l/\(ab=ac->ab=ac))/\(↑(aa l):Int)=(↑(aa l):Int)/\wr af ((↑(EdX.k y):Int)+1)=(↑(EdX.k I):Int)/\True)/\True
abbrev Z4f(I:Int) (kd:Int) (y:EdX) (J:EdX) (l:List Rep):Prop:=
 I=I/\kd=kd/\(0=0/\aa (EdX.L y)=aa (EdX.L J)/\True)/\(l=l/\(ab=ac->ab=ac))/\(↑(aa l):Int)=
 (↑(aa l):Int)/\wr af ((↑(EdX.k y):Int)+1)=(↑(EdX.k J):Int)/\True
abbrev Z4g(x:Rep) (I:Int) (Q:Bool->Prop) (kd:Int):Prop:=
 ((RefD.rw_ (Rep.ref x) !=I)=ac->Q ac)/\((RefD.rw_ (Rep.ref x) !=I)=ab->((li (dm x) !=kd)=ac->Q ac)/\((li (dm x) !=kd)=
 ab->Q ab))
abbrev qDV1(I:List Rep):=(↑(aa I):Int)
abbrev qDV2(I:EdX):=(↑(EdX.k I):Int)
abbrev qDV3:=0
abbrev qDV4:=(ab=ac->ab=ac)
theorem Z92(l:List Rep) (J kd:Int) (v:List Rep):Zk E FedE (vc E FedE 400) 47 [.psl cL l ab,.int ab .i64 J,.int ab .i64 kd] hp0 0 (λr=>ret E (patch hp0 0 r) r.v (.psl cL v ab))=(
 ∃(R:Bool×EdX->Prop),((∃(y:EdX),R (ab,y)/\ac=ac/\(J=J/\kd=kd/\aH ar qDV3 qDV3=aH ar qDV3 qDV3/\(l=l/\qDV4)/\(qDV1 l)=(qDV1 l)/\0=(qDV2 y)/\True)/\True)\/∃(y:EdX),R (ac,y)/\ac=ac/\False)/\(∀(y:EdX),R (ab,y)->(decide ((qDV2 y)<(qDV1 l))=ac->0<=(qDV2 y)/\(qDV2 y)+1<=(qDV1 l)/\∀(x:Rep),l[ag (qDV2 y)]? =ae x->∃(Q:Bool->Prop),(Z4g x J Q kd)/\(Q ac->(Z4e R y J kd l)\/∃(I:EdX),R (ac,I)/\I.2+1<=y.2/\ac=ac/\False)/\(Q ab->∃(Q:Bool->Prop),(Z4d x Q)/\(Q ac->(Zp1 R y J kd l)\/∃(I:EdX),R (ac,I)/\I.2+1<=y.2/\ac=ac/\(J=J/\kd=kd/\(qDV3=qDV3/\1=aa (EdX.L I)/\True)/\(l=l/\qDV4)/\(qDV1 l)=(qDV1 l)/\wr af ((qDV2 y)+1)=(qDV2 I)/\True)/\([x]=EdX.L I/\qDV3=qDV3)/\True)/\(Q ab->(Z4e R y J kd l)\/∃(I:EdX),R (ac,I)/\I.2+1<=y.2/\ac=ac/\False)))/\(decide ((qDV2 y)<(qDV1 l))=ab->v= []))/\∀(y:EdX),R (ac,y)->(decide ((qDV2 y)<(qDV1 l))=ac->0<=(qDV2 y)/\(qDV2 y)+1<=(qDV1 l)/\∀(x:Rep),l[ag (qDV2 y)]? =ae x->∃(Q:Bool->Prop),(Z4g x J Q kd)/\(Q ac->(Zp1 R y J kd l)\/∃(I:EdX),R (ac,I)/\I.2+1<=y.2/\ac=ac/\(Z4f J kd y I l)/\(EdX.L y=EdX.L I/\qDV3=qDV3)/\True)/\(Q ab->∃(Q:Bool->Prop),(Z4d x Q)/\(Q ac->(aa (EdX.L y)<=aa (EdX.L y)/\qDV3<=aa (EdX.L y)/\(aa (EdX.L y)+1)*192<=140737488355328)/\((Zp1 R y J kd l)\/∃(I:EdX),R (ac,I)/\I.2+1<=y.2/\ac=ac/\(J=J/\kd=kd/\(qDV3=qDV3/\aa (EdX.L y)+1=aa (EdX.L I)/\True)/\(l=l/\qDV4)/\(qDV1 l)=(qDV1 l)/\wr af ((qDV2 y)+1)=(qDV2 I)/\True)/\(aw (aa (EdX.L y)) (EdX.L y)++ [x]=EdX.L I/\qDV3=qDV3)/\True))/\(Q ab->(Zp1 R y J kd l)\/∃(I:EdX),R (ac,I)/\I.2+1<=y.2/\ac=ac/\(Z4f J kd y I l)/\(EdX.L y=EdX.L I/\qDV3=qDV3)/\True)))/\(decide ((qDV2 y)<(qDV1 l))=ab->(aa (EdX.L y)=aa (EdX.L y)/\aa (EdX.L y)<=8)/\∀(U:List Rep),U=srtE (EdX.L y)->qDV3+aa (EdX.L y)<=aa U/\aw (aa (EdX.L y)) U=v)):=by kernel_rfl
theorem Uy{f:Rep->Bool} {l:List Rep} {k:Nat} {x:Rep} (h:l[k]? =ae x):(l.take (k+1)).filter f=(l.take k).filter f++(if f x=ac then[x] else[]):=by
 rw[cD,h,jI,fO]
 congr 1
 cases e:f x<;>simp[e]
theorem qB{P:Prop} {J I:Prop} {A:(Bool->Prop)->Prop} (R:A λb=>b=ac↔P) (ht:P->J) (U:¬P->I):∃Q:Bool->Prop,A Q/\(Q ac->J)/\(Q ab->I):=
 ⟨_,R,λh=>ht (h.1 rfl),λh=>U λp=>by have:=h.2 p;cases this⟩
theorem edO_t{r k:Int} {x:Rep}:edO r k x=ac↔((x.ref.rw_=r/\x.item.number=k)/\(x.item.kind=11\/x.item.kind=12\/x.item.kind=13)):=by
 unfold edO;simp[or_assoc]
theorem Z93{r k:Int} {x:Rep} (h:¬((x.ref.rw_=r/\x.item.number=k)/\(x.item.kind=11\/x.item.kind=12\/x.item.kind=13))):edO r k x=false:=by
 cases e:edO r k x with
 |false=>rfl
 |true=>exact kc (edO_t.1 e) h
theorem Z94(l:List Rep) (a0 kd:Int) (h8:l.length<=8):PureC E 47 [.psl cL l ab,.int ab .i64 a0,.int ab .i64 kd] (.psl cL (edsF l a0 kd) ab):=by
 refine Za E_ok (Zd E_ok Ygz 400) ?_;rw[Z92];delta qDV1 qDV2 qDV3 qDV4;unfold Z4g Z4f Z4e Z4d Zp1;simp only[bA,fK,fC,true_and,and_true,ko,kF,false_and,and_false,or_false,false_or,exists_false,ir,gg,hJ,fR,av,aX,bm,aU];refine⟨λp=>p.2.k<=l.length/\(match p.1 with|false=>(l.take p.2.k).filter (edO a0 kd)= []|true=>p.2.L=(l.take p.2.k).filter (edO a0 kd))/\p.2.r=l.length-p.2.k,⟨⟨0,l.length,[]⟩,⟨aX _,rfl,rfl⟩,rfl⟩,?_,?_⟩
 ·rintro y ⟨hk,J,hr⟩
  dsimp only at hk J hr;refine aD (λh=>⟨by omega,by omega,λx hx=> ?_⟩) (λh=> ?_)
  ·have U:y.k+1<=l.length:=by omega
   refine qB (P:=¬(x.ref.rw_=a0/\x.item.number=kd)) ⟨λh=>⟨λ_ I=>h I.1,λ_=>rfl⟩,λh=>⟨λI=>⟨λ_ R=>I R.2,λ_=>rfl⟩,λI=>⟨(λe=>by cases e),λR=>kc ⟨h,I⟩ R⟩⟩⟩ (λhp=> ?_) (λhp=> ?_)
   ·refine⟨⟨y.k+1,l.length-(y.k+1),[]⟩,⟨U,?_,rfl⟩,(by dsimp only;omega),wr64 (by omega) (by omega)⟩
    dsimp only;rw[Uy hx,J,Z93 λh=>hp h.1];rfl
   ·refine qB (P:=x.item.kind=11\/x.item.kind=12\/x.item.kind=13) ⟨λh=>⟨λ_=> .inl h,λ_=>rfl⟩,λh=>⟨λI=>⟨λ_=> .inr (.inl I),λ_=>rfl⟩,λI=>⟨λR=>⟨λ_=> .inr (.inr R),λ_=>rfl⟩,λR=>⟨(λe=>by cases e),λh4=>by omega⟩⟩⟩⟩ (λhq=> ?_) (λhq=> ?_)
    ·refine⟨⟨y.k+1,l.length-(y.k+1),[x]⟩,⟨U,?_,rfl⟩,(by dsimp only;omega),⟨rfl,wr64 (by omega) (by omega)⟩,rfl⟩
     dsimp only;rw[Uy hx,J,edO_t.2 ⟨bv.1 hp,hq⟩];rfl
    ·refine⟨⟨y.k+1,l.length-(y.k+1),[]⟩,⟨U,?_,rfl⟩,(by dsimp only;omega),wr64 (by omega) (by omega)⟩
     dsimp only;rw[Uy hx,J,Z93 λh=>hq h.2];rfl
  ·rw[bg (by omega)] at J
   unfold edsF;rw[J];rfl
 ·rintro y ⟨hk,J,hr⟩
  dsimp only at hk J hr;have hl:y.L.length<=8:=by
   have h1:=dy (edO a0 kd) (l.take y.k);rw[bj] at h1;rw[J];omega
  refine aD (λh=>⟨by omega,by omega,λx hx=> ?_⟩) (λh=> ?_)
  ·have U:y.k+1<=l.length:=by omega
   refine qB (P:=¬(x.ref.rw_=a0/\x.item.number=kd)) ⟨λh=>⟨λ_ I=>h I.1,λ_=>rfl⟩,λh=>⟨λI=>⟨λ_ R=>I R.2,λ_=>rfl⟩,λI=>⟨(λe=>by cases e),λR=>kc ⟨h,I⟩ R⟩⟩⟩ (λhp=> ?_) (λhp=> ?_)
   ·refine⟨⟨y.k+1,l.length-(y.k+1),y.L⟩,⟨U,?_,rfl⟩,(by dsimp only;omega),⟨rfl,wr64 (by omega) (by omega)⟩,rfl⟩
    dsimp only;rw[Uy hx,J,Z93 λh=>hp h.1];exact(cK _).symm
   ·refine qB (P:=x.item.kind=11\/x.item.kind=12\/x.item.kind=13) ⟨λh=>⟨λ_=> .inl h,λ_=>rfl⟩,λh=>⟨λI=>⟨λ_=> .inr (.inl I),λ_=>rfl⟩,λI=>⟨λR=>⟨λ_=> .inr (.inr R),λ_=>rfl⟩,λR=>⟨(λe=>by cases e),λh4=>by omega⟩⟩⟩⟩ (λhq=> ?_) (λhq=> ?_)
    ·refine⟨by omega,⟨y.k+1,l.length-(y.k+1),y.L++ [x]⟩,⟨U,?_,rfl⟩,(by dsimp only;omega),⟨(by dsimp only;rw[aB];rfl),wr64 (by omega) (by omega)⟩,rfl⟩
     dsimp only;rw[Uy hx,J,edO_t.2 ⟨bv.1 hp,hq⟩];rfl
    ·refine⟨⟨y.k+1,l.length-(y.k+1),y.L⟩,⟨U,?_,rfl⟩,(by dsimp only;omega),⟨rfl,wr64 (by omega) (by omega)⟩,rfl⟩
     dsimp only;rw[Uy hx,J,Z93 λh=>hq h.2];exact(cK _).symm
  ·rw[bg (by omega)] at J
   refine⟨hl,λl' a1=> ?_⟩;have e:l'.length=y.L.length:=by rw[a1];exact(Zfb _).length_eq
   refine⟨by omega,?_⟩;rw[<-e,aU,a1,J];rfl
noncomputable def SedE:Sum thy:=Wn (.cons (Zfi (E:=E) cL:Dc E (List (thy.dom cL))) (.cons dN (.cons dN .nil))) (λx=>(show List Rep from x.1).length<=8) (λx=>edsF x.1 x.2.1 x.2.2.1) λy=> .psl cL y ab
theorem Z4h:SumOk E 47 SedE:=Zz E_ok (Zc (f:=47) rfl) λx h=>Z94 x.1 x.2.1 x.2.2.1 h
end
section
open Go
structure InX where
 k:Nat
 r:Nat
 t:Tar
 b:Bool
theorem Yiq:SumOk E 48 SamE:=Zz E_ok (Zc (f:=48) rfl) λx h=>Zzi x.1 x.2.1 h.1 h.2
noncomputable def AinE:Fr thy->Hp thy->Nat->Ann thy:=λT h i=>{X:=InX,fr:=λx=> [(2,T 2),(3,T 3),(8,T 8),(10,T 10),(11,.bool ab x.b),(33,T 33),(34,T 34),(35,.int ab .i64 x.k)],bl:=λx=>(bOf (T 10),.raw [.str ab x.t.name,.int ab .i64 x.t.for_,.psl Th.clauses x.t.clauses ab] 0 ar)::blkP h (T 8),src:=λ_=> [],md:= [bOf (T 10)],ih:=i,M:=i+60,meas:=λx=>x.r}
noncomputable def FinE:Fns thy:=addL (addS (addS (addS (addS F0 47 SedE) 6 SgoE) 48 SamE) 23 SekE) 15 6 AinE E
theorem Yir:FnsOk E FinE:=Zm E_ok (Zb (Zb (Zb (Zb F0_ok Z4h) Ztl) Yiq) Z52) _ _ _
abbrev Zgg:Prop:=
 ([]:List Nat)= []/\(0:Int)=(0:Int)/\aH ar (0:Nat) (0:Nat)=aH ar (0:Nat) (0:Nat)/\True
abbrev Zq1(kd:Int) (at_:Int) (x:InX) (I:InX) (y:List Rep):Prop:=
 kd=kd/\at_=at_/\(0:Nat)=(0:Nat)/\(0:Nat)=(0:Nat)/\InX.b x=InX.b I/\(y=y/\(ab=ac->ab=ac))/\(↑(aa y):Int)=(↑(aa y)
 :Int)/\wr af ((↑(InX.k x):Int)+(1:Int))=(↑(InX.k I):Int)/\True
abbrev Ze3(t:Tar):Prop:=
 []=bP t/\(0:Int)=bG t/\au t= []/\True
abbrev Zwy(x:InX) (I:InX):Prop:=
 bP (InX.t x)=bP (InX.t I)/\bG (InX.t x)=bG (InX.t I)/\(au (InX.t x)=au (InX.t I)/\(ab=ac->ab=ac))/\True
abbrev Z6y(x:InX) (t:Tar) (e:Int):Prop:=
 (!InX.b x)=ab->(bP (InX.t x)=bP t/\bG (InX.t x)=bG t/\(au (InX.t x)=au t/\(ab=ac->ab=ac))/\True)/\(0:
 Int)=e/\True
abbrev qDW1(I:List Rep):=(↑(aa I):Int)
abbrev qDW2:=(ab=ac->ab=ac)
abbrev qDW3(I:InX):=(↑(InX.k I):Int)
abbrev qDW6:=(0:Int)
abbrev qDW4(I:InX):=([]=bP (InX.t I)/\qDW6=bG (InX.t I)/\au (InX.t I)= []/\True)
abbrev qDW5:=(0:Nat)
abbrev qDW7:=(1:Int)
theorem Yb5(l:List Rep) (a1 kd at_:Int) (t:Tar) (e:Int):Zk E FinE (vc E FinE 400) 15 [.psl cL l ab,.int ab .i64 a1,.int ab .i64 kd,.int ab .i64 at_] hp0 0 (λr=>ret E (patch hp0 0 r) r.v (.tup [tarE t,.int ab .i64 e]))=(
 (decide (a1>=qDW6)=ac->(decide (a1<16)=ac->(decide (kd>=qDW7)=ac->(decide (kd<=6)=ac->(decide (at_<qDW6)=ac->(Ze3 t)/\qDW7=e/\True)/\(decide (at_<qDW6)=ab->(decide (at_>1073741824)=ac->(Ze3 t)/\qDW7=e/\True)/\(decide (at_>1073741824)=ab->aa (have this:=l;this)<=8/\∀(y:List Rep),y=edsF l a1 kd->∃(R:InX->Prop),(∃(x:InX),R x/\ac=ac/\(kd=kd/\at_=at_/\qDW5=qDW5/\qDW5=qDW5/\ab=InX.b x/\(y=y/\qDW2)/\(qDW1 y)=(qDW1 y)/\qDW6=(qDW3 x)/\True)/\(qDW4 x)/\(Zgg)/\True)/\∀(x:InX),R x->(decide ((qDW3 x)<(qDW1 y))=ac->qDW6<=(qDW3 x)/\(qDW3 x)+qDW7<=(qDW1 y)/\∀(J:Rep),y[ag (qDW3 x)]? =ae J->(decide (fI (dm J)>at_)=ac->((!InX.b x)=ac->(Ze3 t)/\220=e/\True)/\(Z6y x t e))/\(decide (fI (dm J)>at_)=ab->((fF (dm J)==13)=ac->∃(I:InX),R I/\I.2+1<=x.2/\ac=ac/\(kd=kd/\at_=at_/\qDW5=qDW5/\qDW5=qDW5/\ab=InX.b I/\(y=y/\qDW2)/\(qDW1 y)=(qDW1 y)/\wr af ((qDW3 x)+qDW7)=(qDW3 I)/\True)/\(qDW4 I)/\(Zgg)/\True)/\((fF (dm J)==13)=ab->True/\∀(U:Tar×Int),U=Xc (ItD.text (dm J)) kd->((ay U !=qDW6)=ac->∃(I:InX),R I/\I.2+1<=x.2/\ac=ac/\(Zq1 kd at_ x I y)/\(Zwy x I)/\(Zgg)/\True)/\((ay U !=qDW6)=ab->((fF (dm J)==11)=ac->∃(I:InX),R I/\I.2+1<=x.2/\ac=ac/\(kd=kd/\at_=at_/\qDW5=qDW5/\qDW5=qDW5/\ac=InX.b I/\(y=y/\qDW2)/\(qDW1 y)=(qDW1 y)/\wr af ((qDW3 x)+qDW7)=(qDW3 I)/\True)/\(bP (ao U)=bP (InX.t I)/\bG (ao U)=bG (InX.t I)/\(au (ao U)=au (InX.t I)/\qDW2)/\True)/\(Zgg)/\True)/\((fF (dm J)==11)=ab->(InX.b x=ac->(aa (au (InX.t x))<=100000/\aa (au (ao U))<=100000)/\∀(a0:Tar),a0=amF (InX.t x) (ao U)->((∀(c:Cls),c∈au a0->cZ (aE c)<=10000/\aa (aY c)+1<=1000000000)/\aa (au a0)+1<=1000000000)/\∀(a2:Int),a2=eckF a0->((a2==qDW6)=ac->∃(I:InX),R I/\I.2+1<=x.2/\ac=ac/\(Zq1 kd at_ x I y)/\(bP a0=bP (InX.t I)/\bG a0=bG (InX.t I)/\(au a0=au (InX.t I)/\qDW2)/\True)/\(Zgg)/\True)/\((a2==qDW6)=ab->∃(I:InX),R I/\I.2+1<=x.2/\ac=ac/\(Zq1 kd at_ x I y)/\(Zwy x I)/\(Zgg)/\True))/\(InX.b x=ab->∃(I:InX),R I/\I.2+1<=x.2/\ac=ac/\(Zq1 kd at_ x I y)/\(Zwy x I)/\(Zgg)/\True))))))/\(decide ((qDW3 x)<(qDW1 y))=ab->((!InX.b x)=ac->(Ze3 t)/\220=e/\True)/\(Z6y x t e)))))/\(decide (kd<=6)=ab->(Ze3 t)/\qDW7=e/\True))/\(decide (kd>=qDW7)=ab->(Ze3 t)/\qDW7=e/\True))/\(decide (a1<16)=ab->(Ze3 t)/\qDW7=e/\True))/\(decide (a1>=qDW6)=ab->(Ze3 t)/\qDW7=e/\True)):=by kernel_rfl
theorem Z6z:∀(l:List Cls) (a:Bool) (m:List (List Nat×Bool)),goC a ac m l≠0
 | [],a,m=>by
  rw[goC]
  cases a<;>simp
 |c::r,a,m=>by
  rw[Zd5]
  split
  ·rw[dW,dW];exact Z6z r _ _
  ·decide
theorem U1{t:Tar} (h:Z8 t=0):t.clauses.length<=64:=by
 unfold Z8 at h;split at h
 ·rename_i I
  apply iq;intro J;rw[jC (by omega:64<t.clauses.length)] at h;exact Z6z _ _ _ h
 ·cases h
theorem Vw{t:Tar} (h:eckF t=0):Z8 t=0:=by
 unfold eckF at h;split at h
 ·rename_i I;exact kc h I
 ·rename_i I
  apply iq;intro J;unfold W6 at I;rw[jQ J] at I;exact I J
theorem Zns{s:List Nat} {k:Int} (h:(Xc s k).2=0):eckF (Xc s k).1=0:=by
 unfold Xc at h⊢;split at h
 ·cases h
 ·rename_i R
  split at h
  ·rename_i J;exact kc h J
  ·rename_i J
   split at h
   ·cases h
   ·rename_i U
    split at h
    ·rename_i I;exact kc h I
    ·rename_i I
     rw[jG R,jG J,jG U,jG I];exact bv.1 I
theorem Zwz{I:Type}:∀{m:List (List Nat×I)} {a:List Nat} {v:I} {p:List Nat×I},p∈putS m a v->p.2=v\/p∈m
 | [],a,v,p,h=>by
  rw[putS] at h
  rw[List.mem_singleton.1 h]
  exact .inl rfl
 |q::m,a,v,p,h=>by
  rw[putS] at h
  split at h
  ·rcases aM.1 h with rfl|h
   ·exact .inl rfl
   ·exact .inr (aW _ h)
  ·rcases aM.1 h with rfl|h
   ·exact .inr (cF ..)
   ·exact(Zwz h).imp id (aW _)
theorem Zq2:∀{l:List Cls} {m:List (List Nat×Cls)} {p:List Nat×Cls},p∈Zbg m l->p.2∈l\/p∈m
 | [],m,p,h=> .inr h
 |c::r,m,p,h=>by
  rcases Zq2 (l:=r) (m:=putS m c.name c) h with h|h
  ·exact .inl (aW _ h)
  ·rcases Zwz h with h|h
   ·rw[h];exact .inl (cF ..)
   ·exact .inr h
theorem Zln{I:Type}:∀{m:List (List Nat×I)} {a:List Nat} {v:I},Z5 m a=ae v->∃p∈m,p.2=v
 |q::m,a,v,h=>by
  rw[Z5] at h
  split at h
  ·cases h;exact⟨q,cF ..,rfl⟩
  ·obtain⟨p,J,e⟩:=Zln h
   exact⟨p,aW _ J,e⟩
theorem Zjw:∀{l:List Cls} {m:List (List Nat×Cls)} {c:Cls},c∈(Vb m l).1->c∈l\/∃p∈m,p.2=c
 |d::r,m,c,h=>by
  cases I:Z5 m d.name with
  |none=>
   rw[Zfz I] at h
   rcases aM.1 h with rfl|h
   ·exact .inl (cF ..)
   ·exact(Zjw h).imp (aW _) id
  |some e=>
   rw[Zfy I] at h
   rcases aM.1 h with rfl|h
   ·exact .inr (Zln I)
   ·rcases Zjw h with h|⟨p,J,e⟩
    ·exact .inl (aW _ h)
    ·exact .inr ⟨p,Zm8 _ _ p J,e⟩
theorem Zt6{t a:Tar} {c:Cls} (h:c∈(amF t a).clauses):c∈t.clauses\/c∈a.clauses:=by
 rcases List.mem_append.1 (show c∈_++_ from h) with h|h
 ·rcases Zjw h with h|⟨p,I,e⟩
  ·exact .inl h
  ·rcases Zq2 I with h|h
   ·exact .inr (e▸h)
   ·cases h
 ·exact .inr (List.mem_filter.1 h).1
theorem Yis(t a:Tar):(amF t a).clauses.length<=t.clauses.length+a.clauses.length:=by
 show(_++_:List Cls).length<=_;rw[aB,Zjh];have:=dy (λc:Cls=>(Z5 (Vb (Zbg [] a.clauses) t.clauses).2 c.name).isSome) a.clauses;unfold Zcs;omega
noncomputable def inF(l:List Rep) (I kd at_:Int):Tar×Int:=
 if(0<=I/\I<16/\1<=kd/\kd<=6)/\0<=at_/\at_<=1073741824 then
  (if(rnE Xc eckF amF kd at_ (edsF l I kd) (zTE,ab)).2=ac then((rnE Xc eckF amF kd at_ (edsF l I kd) (zTE,ab)).1,0) else(zTE,220))
 else(zTE,1)
theorem Yb6(l:List Rep) (J kd at_:Int) (h8:l.length<=8):PureC E 15 [.psl cL l ab,.int ab .i64 J,.int ab .i64 kd,.int ab .i64 at_] (.tup [tarE (inF l J kd at_).1,.int ab .i64 (inF l J kd at_).2]):=by
 refine Za E_ok (Zd E_ok Yir 400) ?_;rw[Yb5];delta qDW1 qDW2 qDW3 qDW6 qDW4 qDW5 qDW7;unfold Z6y Zwy Ze3 Zq1 Zgg;simp only[bA,fK,fC,true_and,and_true,ko,kF,false_and,and_false,or_false,false_or,exists_false,ir,gg,hJ,fR,bn,cj];have a0:¬((0<=J/\J<16/\1<=kd/\kd<=6)/\0<=at_/\at_<=1073741824)->([]=(inF l J kd at_).1.name/\0=(inF l J kd at_).1.for_/\(inF l J kd at_).1.clauses= [])/\1=(inF l J kd at_).2:=λh=>by
  unfold inF;rw[jG h];exact⟨⟨rfl,rfl,rfl⟩,rfl⟩
 refine aD (λh1=>aD (λh2=>aD (λh3=>aD (λh4=>aD (λh5=>a0 (by omega)) (λh5=>aD (λh6=>a0 (by omega)) (λh6=> ?_))) (λh4=>a0 (by omega))) (λh3=>a0 (by omega))) (λh2=>a0 (by omega))) (λh1=>a0 (by omega));refine⟨h8,λy hy=> ?_⟩;have a8:inF l J kd at_=if(rnE Xc eckF amF kd at_ y (zTE,ab)).2=ac then((rnE Xc eckF amF kd at_ y (zTE,ab)).1,0) else(zTE,220):=by
  unfold inF;rw[jQ (by omega),hy]
 have b3:y.length<=8:=by
  rw[hy];exact bT (iC (Zfb _).length_eq) (bT (dy ..) h8)
 generalize inF l J kd at_=z at*;have b0:∀(t:Tar) (b:Bool),rnE Xc eckF amF kd at_ y (zTE,ab)=(t,b)->(b=ab->([]=z.1.name/\0=z.1.for_/\z.1.clauses= [])/\220=z.2)/\(b=ac->(t.name=z.1.name/\t.for_=z.1.for_/\t.clauses=z.1.clauses)/\0=z.2):=by
  intro t b e;rw[e] at a8;refine⟨λR=> ?_,λR=> ?_⟩
  ·rw[a8,R];exact⟨⟨rfl,rfl,rfl⟩,rfl⟩
  ·rw[a8,R];exact⟨⟨rfl,rfl,rfl⟩,rfl⟩
 refine⟨λx=>x.k<=y.length/\rnE Xc eckF amF kd at_ (y.drop x.k) (x.t,x.b)=rnE Xc eckF amF kd at_ y (zTE,ab)/\(∀c∈x.t.clauses,c.pay.sz<=10000/\c.when_.length+1<=1000000000)/\x.t.clauses.length<=64/\x.r=y.length-x.k,⟨⟨0,y.length,zTE,ab⟩,⟨aX _,rfl,(λc U=>by cases U),aX _,rfl⟩,⟨rfl,rfl⟩,rfl,rfl,rfl⟩,?_⟩;rintro x ⟨hk,I,a3,a9,hr⟩;refine aD (λh=>⟨by omega,by omega,λw hw=> ?_⟩) (λh=> ?_)
 ·rw[Z2 hw,rnE] at I
  have a1:x.k+1<=y.length:=by omega
  refine aD (λb2=> ?_) (λb2=> ?_)
  ·rw[jQ (by omega)] at I
   exact b0 x.t x.b I.symm
  ·rw[jG (by omega)] at I
   unfold stE at I;refine aD (λa7=> ?_) (λa7=> ?_)
   ·rw[jQ a7] at I
    exact⟨⟨x.k+1,y.length-(x.k+1),zTE,ab⟩,⟨a1,I,(λc U=>by cases U),aX _,rfl⟩,(by dsimp only;omega),⟨rfl,wr64 (by omega) (by omega)⟩,rfl,rfl,rfl⟩
   ·rw[jG a7] at I
    intro g hg;rw[<-hg] at I;refine aD (λa2=> ?_) (λa2=> ?_)
    ·rw[jQ a2] at I
     exact⟨⟨x.k+1,y.length-(x.k+1),x.t,x.b⟩,⟨a1,I,a3,a9,rfl⟩,(by dsimp only;omega),⟨rfl,wr64 (by omega) (by omega)⟩,rfl,rfl,rfl⟩
    ·rw[jG (λh=>h a2)] at I
     have a5:SmE g.1:=by rw[hg];exact Ztm _ _
     have b1:g.1.clauses.length<=64:=by rw[hg] at a2⊢;exact U1 (Vw (Zns a2))
     refine aD (λa6=> ?_) (λa6=> ?_)
     ·rw[jQ a6] at I
      exact⟨⟨x.k+1,y.length-(x.k+1),g.1,ac⟩,⟨a1,I,a5.1,b1,rfl⟩,(by dsimp only;omega),⟨rfl,wr64 (by omega) (by omega)⟩,rfl,rfl,rfl⟩
     ·rw[jG a6] at I
      refine aD (λR=> ?_) (λR=> ?_)
      ·rw[R] at I
       dsimp only at I;rw[jQ rfl] at I;refine⟨⟨by omega,by omega⟩,λm hm=>⟨⟨λc U=> ?_,?_⟩,λq hq=> ?_⟩⟩
       ·rw[hm] at U
        rcases Zt6 U with h|h
        ·exact a3 c h
        ·exact a5.1 c h
       ·have:=Yis x.t g.1
        rw[hm];omega
       ·rw[<-hm] at I
        rw[<-hq] at I;refine aD (λa4=> ?_) (λa4=> ?_)
        ·rw[jQ a4] at I
         refine⟨⟨x.k+1,y.length-(x.k+1),m,x.b⟩,⟨a1,(by dsimp only;rw[R];exact I),(λc U=> ?_),U1 (Vw (by rw[<-hq];exact a4)),rfl⟩,(by dsimp only;omega),⟨rfl,wr64 (by omega) (by omega)⟩,rfl,rfl,rfl⟩;rw[hm] at U;rcases Zt6 U with h|h
         ·exact a3 c h
         ·exact a5.1 c h
        ·rw[jG a4] at I
         exact⟨⟨x.k+1,y.length-(x.k+1),x.t,x.b⟩,⟨a1,(by dsimp only;rw[R];exact I),a3,a9,rfl⟩,(by dsimp only;omega),⟨rfl,wr64 (by omega) (by omega)⟩,rfl,rfl,rfl⟩
      ·rw[R] at I
       dsimp only at I;rw[jG (by decide)] at I;exact⟨⟨x.k+1,y.length-(x.k+1),x.t,x.b⟩,⟨a1,(by dsimp only;rw[R];exact I),a3,a9,rfl⟩,(by dsimp only;omega),⟨rfl,wr64 (by omega) (by omega)⟩,rfl,rfl,rfl⟩
 ·rw[bJ (by omega)] at I
  exact b0 x.t x.b I.symm
theorem Z60{s:List Nat} {k:Int} (h:(Xc s k).2=0):(Xc s k).1.for_=k:=by
 unfold Xc at h⊢;split at h
 ·cases h
 ·rename_i U
  split at h
  ·rename_i I;exact kc h I
  ·rename_i I
   split at h
   ·cases h
   ·rename_i R
    split at h
    ·rename_i J;exact kc h J
    ·rename_i J
     rw[jG U,jG I,jG R,jG J];exact bv.1 R
def GdT(k:Int) (s:Tar×Bool):Prop:=SmE s.1/\s.1.clauses.length<=64/\(s.2=ac->eckF s.1=0/\s.1.for_=k)
theorem Yoi{k:Int} {s:Tar×Bool} {x:Rep} (h:GdT k s):GdT k (stE Xc eckF amF k s x):=by
 unfold stE;split
 ·exact⟨Zaf,aX _,(λe=>by cases e)⟩
 ·split
  ·exact h
  ·rename_i J
   have J:=bv.1 J;split
   ·exact⟨Ztm _ _,U1 (Vw (Zns J)),λ_=>⟨Zns J,Z60 J⟩⟩
   ·split
    ·rename_i U
     split
     ·rename_i R
      refine⟨⟨λc I=> ?_,?_⟩,U1 (Vw R),λ_=>⟨R,(h.2.2 U).2⟩⟩
      ·rcases Zt6 I with I|I
       ·exact h.1.1 c I
       ·exact(Ztm _ _).1 c I
      ·have:=U1 (Vw R)
       exact jP this (by decide)
     ·exact h
    ·exact h
theorem Ymn{k t:Int}:∀{l:List Rep} {s:Tar×Bool},GdT k s->GdT k (rnE Xc eckF amF k t l s)
 | [],s,h=>h
 |x::r,s,h=>by
  rw[rnE]
  split
  ·exact h
  ·exact Ymn (Yoi h)
theorem Zw0(l:List Rep) (I kd at_:Int):SmE (inF l I kd at_).1/\(inF l I kd at_).1.clauses.length<=64/\((inF l I kd at_).2=0->eckF (inF l I kd at_).1=0/\(inF l I kd at_).1.for_=kd)/\((inF l I kd at_).2≠0->(inF l I kd at_).1=zTE):=by
 have h:GdT kd (rnE Xc eckF amF kd at_ (edsF l I kd) (zTE,ab)):=Ymn ⟨Zaf,aX _,(λe=>by cases e)⟩;unfold inF;split
 ·split
  ·rename_i J
   exact⟨h.1,h.2.1,λ_=>h.2.2 J,λe=>kc rfl e⟩
  ·exact⟨Zaf,aX _,(λe=>by cases e),λ_=>rfl⟩
 ·exact⟨Zaf,aX _,(λe=>by cases e),λ_=>rfl⟩
noncomputable def dInE:DcL E (List Rep×Int×Int×Int×Unit):= .cons (Zfi (E:=E) cL:Dc E (List (thy.dom cL))) (.cons dN (.cons dN (.cons dN .nil)))
end
section
open Go
structure CpE where
 L:List Int
 i:Int
 j:Int
 r:Nat
def blkI(v:SV thy) (L:List Int):List (Nat×Blk thy):= [(bOf v,.rows fX L 0)]
def Ym8:Fr thy->Hp thy->Nat->Ann thy:=λT h i=>{X:=CpE,fr:=λx=> [(0,T 0),(3,.int ab .i64 x.i)],bl:=λx=>blkI (T 0) x.L,src:=λ_=> [],md:= [bOf (T 0)],ih:=i,M:=i+30,meas:=λx=>x.r}
def Ym9:Fr thy->Hp thy->Nat->Ann thy:=λT h i=>{X:=CpE,fr:=λx=> [(0,T 0),(3,.int ab .i64 x.i),(4,T 4),(5,.int ab .i64 x.j)],bl:=λx=>blkI (T 0) x.L,src:=λ_=> [],md:= [bOf (T 0)],ih:=i,M:=i+30,meas:=λx=>x.r}
def AchE:Fr thy->Hp thy->Nat->Ann thy:=λT h i=>{X:=Bool×CpE,fr:=λx=> [(6,match x.1 with|true=> .sl i 0 x.2.L.length 1 ar|false=> .val (.slice ar 0 0)),(17,T 17),(18,T 18),(19,.int ab .i64 x.2.i)],bl:=λx=>(match x.1 with|true=> [(i,.rows fX x.2.L 0)]|false=> []),src:=λx=>(match x.1 with|true=> [(i,6)]|false=> []),md:= [],ih:=i+1,M:=i+40,meas:=λx=>x.2.r,ex:=ex2,al:=al2,exOk:=Zij,alOk:=Zik}
noncomputable def FchE:Fns thy:=addL (addL (addL (addS F0 47 SedE) 49 4 Ym8 E) 49 9 Ym9 E) 22 4 AchE E
theorem Yev:FnsOk E FchE:=Zm E_ok (Zm E_ok (Zm E_ok (Zb F0_ok Z4h) _ _ _) _ _ _) _ _ _
abbrev qDX2:=(0:Nat)
abbrev qDX1(I:CpE):=(qDX2=qDX2/\aa (CpE.L I)=aa (CpE.L I)/\True)
abbrev qDX3(I:CpE):=(↑(aa (CpE.L I)):Int)
abbrev qDXe:=(1:Nat)
abbrev qDXa:=(1:Int)
abbrev qDX9:=(ab=ac->ab=ac)
abbrev qDX7(I:List Rep):=(↑(aa I):Int)
abbrev qDX4(U:Bool×CpE->Prop) (R:CpE) (I:List Rep):=(∃(J:CpE),U (ab,J)/\J.4+qDXe<=R.4/\ac=ac/\(False/\(I=I/\qDX9)/\(qDX7 I)=(qDX7 I)/\wr af (CpE.i R+qDXa)=CpE.i J/\True)/\True)
abbrev qDXd:=(0:Int)
abbrev qDXg(I:CpE) (J:CpE):=(qDXd<=CpE.i I/\CpE.i I<=(qDX3 J))
abbrev qDXh(I:CpE):=(qDX2+ag (CpE.i I))
abbrev qDX5(I:CpE) (J:CpE) (R:List Int):=(decide (CpE.i I<(qDX3 J))=ac->(qDX2<=qDX2+ag (CpE.i I)/\qDX2+ag (CpE.i I)<=aa (CpE.L I))/\(qDXg I J)/\qDX2+ag (CpE.i I)<=aa (aw (qDXh I) (CpE.L I))/\aw (ag (CpE.i I)) (aw (qDXh I) (CpE.L I))=R)
abbrev qDX6(I:CpE) (J:CpE):=(qDX2+ag (CpE.i I)=qDX2+ag (CpE.i I)/\aa (CpE.L J)-ag (CpE.i I)=aa (CpE.L J)-ag (CpE.i I)/\True)
abbrev qDX8(I:Rep) (J:Bool->Prop):=((decide (fI (dm I)>=qDXd)=ac->(decide (fI (dm I)<=(1073741824:Int))=ac->J ac)/\(decide (fI (dm I)<=(1073741824:Int))=ab->J ab))/\(decide (fI (dm I)>=qDXd)=ab->J ab))
abbrev qDXb(I:CpE) (J:CpE):=(↑(aa (CpE.L I)-ag (CpE.i J)):Int)
abbrev qDXc(I:CpE) (J:CpE):=(CpE.L I=CpE.L J/\qDX2=qDX2)
abbrev qDXf:=([]:List Int)
theorem Z8h(l:List Rep) (a4 kd:Int) (v:List Int):Zk E FchE (vc E FchE 400) 22 [.psl cL l ab,.int ab .i64 a4,.int ab .i64 kd] hp0 0 (λr=>ret E (patch hp0 0 r) r.v (.psl fX v ab))=(
 (decide (a4>=qDXd)=ac->(decide (a4<16)=ac->(decide (kd>=qDXa)=ac->(decide (kd<=6)=ac->aa (have this:=l;this)<=8/\∀(y:List Rep),y=edsF l a4 kd->∃(R:Bool×CpE->Prop),((∃(I:CpE),R (ab,I)/\ac=ac/\(aH ar qDX2 qDX2=aH ar qDX2 qDX2/\(y=y/\qDX9)/\(qDX7 y)=(qDX7 y)/\qDXd=CpE.i I/\True)/\True)\/∃(y:CpE),R (ac,y)/\ac=ac/\False)/\(∀(I:CpE),R (ab,I)->(decide (CpE.i I<(qDX7 y))=ac->qDXd<=CpE.i I/\CpE.i I+qDXa<=(qDX7 y)/\∀(x:Rep),y[ag (CpE.i I)]? =ae x->∃(Q:Bool->Prop),(qDX8 x Q)/\(Q ac->(qDX4 R I y)\/∃(U:CpE),R (ac,U)/\U.4+qDXe<=I.4/\ac=ac/\((qDX2=qDX2/\qDXe=aa (CpE.L U)/\True)/\(y=y/\qDX9)/\(qDX7 y)=(qDX7 y)/\wr af (CpE.i I+qDXa)=CpE.i U/\True)/\([fI (dm x)]=CpE.L U/\qDX2=qDX2)/\True)/\(Q ab->(∃(U:CpE),R (ab,U)/\U.4+qDXe<=I.4/\ac=ac/\(aH ar qDX2 qDX2=aH ar qDX2 qDX2/\(y=y/\qDX9)/\(qDX7 y)=(qDX7 y)/\wr af (CpE.i I+qDXa)=CpE.i U/\True)/\True)\/∃(y:CpE),R (ac,y)/\y.4+qDXe<=I.4/\ac=ac/\False))/\(decide (CpE.i I<(qDX7 y))=ab->v= []))/\∀(I:CpE),R (ac,I)->(decide (CpE.i I<(qDX7 y))=ac->qDXd<=CpE.i I/\CpE.i I+qDXa<=(qDX7 y)/\∀(x:Rep),y[ag (CpE.i I)]? =ae x->∃(Q:Bool->Prop),(qDX8 x Q)/\(Q ac->(aa (CpE.L I)<=aa (CpE.L I)/\qDX2<=aa (CpE.L I)/\(aa (CpE.L I)+qDXe)*8<=140737488355328)/\((qDX4 R I y)\/∃(U:CpE),R (ac,U)/\U.4+qDXe<=I.4/\ac=ac/\((qDX2=qDX2/\aa (CpE.L I)+qDXe=aa (CpE.L U)/\True)/\(y=y/\qDX9)/\(qDX7 y)=(qDX7 y)/\wr af (CpE.i I+qDXa)=CpE.i U/\True)/\(aw (aa (CpE.L I)) (CpE.L I)++ [fI (dm x)]=CpE.L U/\qDX2=qDX2)/\True))/\(Q ab->(qDX4 R I y)\/∃(U:CpE),R (ac,U)/\U.4+qDXe<=I.4/\ac=ac/\((qDX2=qDX2/\aa (CpE.L I)=aa (CpE.L U)/\True)/\(y=y/\qDX9)/\(qDX7 y)=(qDX7 y)/\wr af (CpE.i I+qDXa)=CpE.i U/\True)/\(qDXc I U)/\True))/\(decide (CpE.i I<(qDX7 y))=ab->(decide ((qDX3 I)<2)=ac->qDX2+aa (CpE.L I)<=aa (CpE.L I)/\aw (aa (CpE.L I)) (CpE.L I)=v)/\(decide ((qDX3 I)<2)=ab->∃(R:CpE->Prop),(∃(x:CpE),R x/\ac=ac/\((qDX1 I)/\qDXa=CpE.i x/\True)/\(qDXc I x)/\True)/\∀(x:CpE),R x->(decide (CpE.i x<(qDX3 I))=ac->(qDXd<=CpE.i x/\CpE.i x+qDXa<=(qDX3 I))/\qDX2+ag (CpE.i x)+qDXe<=aa (CpE.L x)/\∀(a6:Int),(CpE.L x)[qDX2+ag (CpE.i x)]? =ae a6->(qDXd<=wr af (CpE.i x-qDXa)/\wr af (CpE.i x-qDXa)+qDXa<=(qDX3 I))/\qDX2+ag (wr af (CpE.i x-qDXa))+qDXe<=aa (CpE.L x)/\∀(a7:Int),(CpE.L x)[qDX2+ag (wr af (CpE.i x-qDXa))]? =ae a7->((a6==a7)=ac->(qDXg x I)/\(decide (CpE.i x<(qDX3 I))=ac->∃(R:CpE->Prop),(∃(J:CpE),R J/\ac=ac/\((qDX1 I)/\CpE.i x=CpE.i J/\(qDX6 x I)/\qDXa=CpE.j J/\True)/\(qDXc x J)/\True)/\∀(J:CpE),R J->(decide (CpE.j J<(qDXb I x))=ac->(qDXd<=CpE.j J/\CpE.j J+qDXa<=(qDXb I x))/\qDX2+ag (CpE.i x)+ag (CpE.j J)+qDXe<=aa (CpE.L J)/\∀(a2:Int),(CpE.L J)[qDX2+ag (CpE.i x)+ag (CpE.j J)]? =ae a2->(qDXd<=wr af (CpE.j J-qDXa)/\wr af (CpE.j J-qDXa)+qDXa<=(qDXb I x))/\qDX2+ag (CpE.i x)+ag (wr af (CpE.j J-qDXa))+qDXe<=
aa (CpE.L J)/\∀(a0:Int),(CpE.L J)[qDX2+ag (CpE.i x)+ag (wr af (CpE.j J-qDXa))]? =ae a0->((a2 !=a0)=ac->(qDXd<=CpE.j J/\CpE.j J+qDXa<=(qDXb I x))/\qDX2+ag (CpE.i x)+ag (CpE.j J)+qDXe<=aa (CpE.L J)/\∀(a1:Int),(CpE.L J)[qDX2+ag (CpE.i x)+ag (CpE.j J)]? =ae a1->(qDXd<=CpE.i J/\CpE.i J+qDXa<=(qDX3 I))/\qDX2<=qDX2+ag (CpE.i J)/\qDX2+ag (CpE.i J)+qDXe<=aa (CpE.L J)/\∀(a3:Int),(CpE.L J)[qDX2+ag (CpE.i J)]? =ae a3->∃(a5:CpE),R a5/\a5.4+qDXe<=J.4/\ac=ac/\((qDX1 I)/\wr af (CpE.i J+qDXa)=CpE.i a5/\(qDX6 x I)/\wr af (CpE.j J+qDXa)=CpE.j a5/\True)/\(du (CpE.L J) (qDXh J) a1=CpE.L a5/\qDX2=qDX2)/\True)/\((a2 !=a0)=ab->∃(a1:CpE),R a1/\a1.4+qDXe<=J.4/\ac=ac/\((qDX1 I)/\CpE.i J=CpE.i a1/\(qDX6 x I)/\wr af (CpE.j J+qDXa)=CpE.j a1/\True)/\(qDXc J a1)/\True))/\(decide (CpE.j J<(qDXb I x))=ab->(qDXg J I)/\(qDX5 J I v)/\(decide (CpE.i J<(qDX3 I))=ab->False)))/\(decide (CpE.i x<(qDX3 I))=ab->∃(R:CpE->Prop),(∃(J:CpE),R J/\ac=ac/\((qDX1 I)/\CpE.i x=CpE.i J/\(qDXf= []/\qDX9)/\qDXa=CpE.j J/\True)/\(qDXc x J)/\True)/\∀(x:CpE),R x->(decide (CpE.j x<(↑qDX2:Int))=ac->qDXd<=CpE.j x/\CpE.j x+qDXa<=(↑qDX2:Int)/\∀(J:Int),qDXf[ag (CpE.j x)]? =ae J->qDXd<=wr af (CpE.j x-qDXa)/\wr af (CpE.j x-qDXa)+qDXa<=(↑qDX2:Int)/\∀(a2:Int),qDXf[ag (wr af (CpE.j x-qDXa))]? =ae a2->((J !=a2)=ac->qDXd<=CpE.j x/\CpE.j x+qDXa<=(↑qDX2:Int)/\∀(a0:Int),qDXf[ag (CpE.j x)]? =ae a0->(qDXd<=CpE.i x/\CpE.i x+qDXa<=(qDX3 I))/\qDX2<=qDX2+ag (CpE.i x)/\qDX2+ag (CpE.i x)+qDXe<=aa (CpE.L x)/\∀(a1:Int),(CpE.L x)[qDX2+ag (CpE.i x)]? =ae a1->∃(a3:CpE),R a3/\a3.4+qDXe<=x.4/\ac=ac/\((qDX1 I)/\wr af (CpE.i x+qDXa)=CpE.i a3/\(qDXf= []/\qDX9)/\wr af (CpE.j x+qDXa)=CpE.j a3/\True)/\(du (CpE.L x) (qDXh x) a0=CpE.L a3/\qDX2=qDX2)/\True)/\((J !=a2)=ab->∃(a0:CpE),R a0/\a0.4+qDXe<=x.4/\ac=ac/\((qDX1 I)/\CpE.i x=CpE.i a0/\(qDXf= []/\qDX9)/\wr af (CpE.j x+qDXa)=CpE.j a0/\True)/\(qDXc x a0)/\True))/\(decide (CpE.j x<(↑qDX2:Int))=ab->(qDXg x I)/\(qDX5 x I v)/\(decide (CpE.i x<(qDX3 I))=ab->False))))/\((a6==a7)=ab->∃(J:CpE),R J/\J.4+qDXe<=x.4/\ac=ac/\((qDX1 I)/\wr af (CpE.i x+qDXa)=CpE.i J/\True)/\(qDXc x J)/\True))/\(decide (CpE.i x<(qDX3 I))=ab->qDX2+aa (CpE.L I)<=aa (CpE.L x)/\aw (aa (CpE.L I)) (CpE.L x)=v))))/\(decide (kd<=6)=ab->v= []))/\(decide (kd>=qDXa)=ab->v= []))/\(decide (a4<16)=ab->v= []))/\(decide (a4>=qDXd)=ab->v= [])):=by kernel_rfl
def W7:List Int->List Int
 | []=> []
 | [a]=> [a]
 |a::b::r=>if a=b then W7 (b::r) else a::W7 (b::r)
theorem Zfl:∀(a:Int) (r:List Int),W7 (a::r)=a::(W7 (a::r)).tail
 |a,[]=>rfl
 |a,b::r=>by
  rw[W7]
  split
  ·rename_i h;subst h;exact Zfl a r
  ·rfl
theorem Zu8{a:Int} {r:List Int}:W7 (a::a::r)=W7 (a::r):=by rw[W7,jQ rfl]
theorem Zu9{a b:Int} {r:List Int} (h:a≠b):W7 (a::b::r)=a::W7 (b::r):=by rw[W7,jG h]
theorem Zr0{l:List Int} (h:l.length<2):W7 l=l:=by
 match l,h with
 | [],_=>rfl
 | [a],_=>rfl
 |a::b::r,h=>simp at h;omega
theorem Z16{α:Type} {l m:List α} {d k:Nat} (h:l.drop d=m.drop d) (I:d<=k):l[k]? =m[k]? :=by
 have:=km (λx:List α=>x[k-d]?) h;simp only[List.getElem?_drop] at this
 rwa[show d+(k-d)=k by omega] at this
theorem Zoz{α:Type} {l m:List α} {d k:Nat} (h:l.drop d=m.drop d) (I:d<=k):l.drop k=m.drop k:=by
 have:=km (List.drop (k-d)) h
 rwa[eO,eO,show d+(k-d)=k by omega] at this
def rngB(n:Int):Bool:=decide (0<=n)&&decide (n<=1073741824)
def frmF(y:List Rep):List Int:=(y.map λx=>x.item.from_).filter rngB
theorem Zgy{y:List Rep} {k:Nat} {x:Rep} (h:y[k]? =ae x):frmF (y.take (k+1))=frmF (y.take k)++(if rngB x.item.from_=ac then[x.item.from_] else[]):=by
 unfold frmF;rw[cD,h,eY,jI,fO]
 congr 1
 cases e:rngB x.item.from_<;>simp[e]
theorem rngB_t{n:Int}:rngB n=ac↔(0<=n/\n<=1073741824):=by unfold rngB;simp
theorem Ycy{n:Int} (h:¬(0<=n/\n<=1073741824)):rngB n=false:=by
 cases e:rngB n with
 |false=>rfl
 |true=>exact kc (rngB_t.1 e) h
noncomputable def chgF(l:List Rep) (I kd:Int):List Int:=if 0<=I/\I<16/\1<=kd/\kd<=6 then W7 (frmF (edsF l I kd)) else[]
theorem Z8i(y:List Rep):(frmF y).length<=y.length:=by
 have:=dy rngB (y.map λx=>x.item.from_);rw[List.length_map] at this;exact this
theorem Z8j(l:List Rep) (a2 kd:Int) (h8:l.length<=8):PureC E 22 [.psl cL l ab,.int ab .i64 a2,.int ab .i64 kd] (.psl fX (chgF l a2 kd) ab):=by
 refine Za E_ok (Zd E_ok Yev 400) ?_;rw[Z8h];delta qDX2 qDX1 qDX3 qDXe qDXa qDX9 qDX7 qDX4 qDXd qDXg qDXh qDX5 qDX6 qDX8 qDXb qDXc qDXf;simp only[bA,fK,fC,true_and,and_true,ko,kF,false_and,and_false,or_false,false_or,exists_false,ir,gg,hJ,fR,av,aX,bm,aU];have a4:¬(0<=a2/\a2<16/\1<=kd/\kd<=6)->chgF l a2 kd= []:=λh=>jG h
 refine aD (λh1=>aD (λJ=>aD (λh3=>aD (λh4=> ?_) (λh4=>a4 (by omega))) (λh3=>a4 (by omega))) (λJ=>a4 (by omega))) (λh1=>a4 (by omega));refine⟨h8,λy hy=> ?_⟩;have a9:chgF l a2 kd=W7 (frmF y):=by rw[hy];exact jQ (by omega)
 have b9:y.length<=8:=by
  rw[hy];exact bT (iC (Zfb _).length_eq) (bT (dy ..) h8)
 rw[a9];refine⟨λp=>∃k:Nat,p.2.i=k/\k<=y.length/\(match p.1 with|false=>frmF (y.take k)= []|true=>p.2.L=frmF (y.take k))/\p.2.r=y.length-k,⟨⟨[],0,0,y.length⟩,⟨0,rfl,aX _,rfl,rfl⟩,rfl⟩,?_,?_⟩
 ·rintro x ⟨k,hi,hk,I,hr⟩
  dsimp only at hi hk I hr;refine aD (λh=>⟨by omega,by omega,λw U=> ?_⟩) (λh=> ?_)
  ·have a1:k+1<=y.length:=by omega
   rw[hi,bA] at U;refine qB (P:=0<=w.item.from_/\w.item.from_<=1073741824) ⟨λh=>⟨λJ=>⟨λ_=>⟨by omega,by omega⟩,λ_=>rfl⟩,λJ=>⟨(λe=>by cases e),λh3=>by omega⟩⟩,λh=>⟨(λe=>by cases e),λh3=>by omega⟩⟩ (λR=> ?_) (λR=> ?_)
   ·refine⟨⟨[w.item.from_],k+1,0,y.length-(k+1)⟩,⟨k+1,rfl,a1,?_,rfl⟩,(by dsimp only;omega),⟨rfl,(by rw[hi];exact wrs (by omega) (by omega))⟩,rfl⟩
    dsimp only;rw[Zgy U,I,rngB_t.2 R];rfl
   ·refine⟨⟨[],k+1,0,y.length-(k+1)⟩,⟨k+1,rfl,a1,?_,rfl⟩,(by dsimp only;omega),(by rw[hi];exact wrs (by omega) (by omega))⟩
    dsimp only;rw[Zgy U,I,Ycy R];rfl
  ·rw[bg (by omega)] at I
   rw[I];rfl
 ·rintro x ⟨k,hi,hk,I,hr⟩
  dsimp only at hi hk I hr;have b1:x.L.length<=8:=by
   have:=Z8i (y.take k);rw[bj] at this;rw[I];omega
  refine aD (λh=>⟨by omega,by omega,λw U=> ?_⟩) (λh=> ?_)
  ·have a1:k+1<=y.length:=by omega
   rw[hi,bA] at U;refine qB (P:=0<=w.item.from_/\w.item.from_<=1073741824) ⟨λh=>⟨λJ=>⟨λ_=>⟨by omega,by omega⟩,λ_=>rfl⟩,λJ=>⟨(λe=>by cases e),λh3=>by omega⟩⟩,λh=>⟨(λe=>by cases e),λh3=>by omega⟩⟩ (λR=> ?_) (λR=> ?_)
   ·refine⟨by omega,⟨x.L++ [w.item.from_],k+1,0,y.length-(k+1)⟩,⟨k+1,rfl,a1,?_,rfl⟩,(by dsimp only;omega),⟨(by dsimp only;rw[aB];rfl),(by rw[hi];exact wrs (by omega) (by omega))⟩,rfl⟩
    dsimp only;rw[Zgy U,I,rngB_t.2 R];rfl
   ·refine⟨⟨x.L,k+1,0,y.length-(k+1)⟩,⟨k+1,rfl,a1,?_,rfl⟩,(by dsimp only;omega),⟨rfl,(by rw[hi];exact wrs (by omega) (by omega))⟩,rfl⟩
    dsimp only;rw[Zgy U,I,Ycy R];exact(cK _).symm
  ·rw[bg (by omega)] at I
   rw[<-I];generalize x.L=M at*;refine aD (λh=>(Zr0 (by omega)).symm) (λh=> ?_);refine⟨λx=>x.L=M/\∃k:Nat,x.i=k/\1<=k/\k<=M.length/\W7 M=M.take (k-1)++W7 (M.drop (k-1))/\x.r=M.length-k,⟨⟨M,1,0,M.length-1⟩,⟨rfl,1,rfl,av _,by omega,rfl,rfl⟩,rfl,rfl⟩,?_⟩;rintro x ⟨b5,k,hi,a1,b8,hc,hr⟩;have b7:M.length<=8:=b1;have t1:x.i.toNat=k:=by rw[hi,bA]
   have w1:wr .i64 (x.i-1)=((k-1:Nat):Int):=by rw[hi,wrs (by omega) (by omega)];omega
   have t2:(((k-1:Nat):Int)).toNat=k-1:=bA _;rw[b5,w1,t1,t2];refine aD (λh=> ?_) (λh=> ?_)
   ·have b0:k<M.length:=by omega
    refine⟨⟨by omega,by omega⟩,by omega,λb hb=>⟨⟨by omega,by omega⟩,by omega,λa ha=>aD (λa5=>⟨⟨by omega,by omega⟩,aD (λ_=> ?_) (λJ=>kc h J)⟩) (λa5=> ?_)⟩⟩
    ·--an equal one is there:c1 is b6 it c0
     have a3:M.drop (k-1)=a::M.drop k:=by have:=Z2 ha;rwa[show k-1+1=k by omega] at this
     have a0:M.drop k=b::M.drop (k+1):=Z2 hb;have a7:W7 M=M.take k++(W7 (M.drop k)).tail:=by
      have hh:W7 (M.drop k)=a::(W7 (M.drop k)).tail:=by
       conv=>lhs;rw[a0]
       rw[Zfl,a0,a5]
      rw[hc,a3,show W7 (a::M.drop k)=W7 (M.drop k) by rw[a0,a5];exact Zu8,hh];rw[show M.take k=M.take (k-1)++ [a] by have:=cD (l:=M) (i:=k-1);rw[ha,show k-1+1=k by omega] at this;exact this];simp
     refine⟨λz=>∃k2 q:Nat,z.j=k2/\1<=k2/\k+k2<=M.length/\z.i=q/\k<=q/\q+1<=k+k2/\z.L.length=M.length/\z.L.drop (k+k2-1)=M.drop (k+k2-1)/\W7 M=z.L.take q++(W7 (M.drop (k+k2-1))).tail/\z.r=M.length-(k+k2),⟨⟨M,k,1,M.length-(k+1)⟩,⟨1,k,rfl,av _,b0,rfl,av _,av _,rfl,rfl,a7,rfl⟩,⟨hi,rfl⟩,rfl⟩,?_⟩;rintro z ⟨k2,q,zj,z1,z2,zi,z3,z4,z5,z6,z7,zr⟩;have s1:z.j.toNat=k2:=by rw[zj,bA]
     have s2:z.i.toNat=q:=by rw[zi,bA]
     have w2:wr .i64 (z.j-1)=((k2-1:Nat):Int):=by rw[zj,wrs (by omega) (by omega)];omega
     have s3:(((k2-1:Nat):Int)).toNat=k2-1:=bA _;rw[w2,s1,s2,s3];refine aD (λg=> ?_) (λg=> ?_)
     ·have g':k+k2<M.length:=by omega
      refine⟨⟨by omega,by omega⟩,by omega,λv hv=>⟨⟨by omega,by omega⟩,by omega,λu hu=> ?_⟩⟩;have b4:M[k+k2]? =ae v:=by rw[<-Z16 z6 (by omega)];exact hv
      have b3:M[k+k2-1]? =ae u:=by rw[<-Z16 z6 (av _)];rw[show k+k2-1=k+(k2-1) by omega];exact hu
      have e1:M.drop (k+k2-1)=u::M.drop (k+k2):=by have:=Z2 b3;rwa[show k+k2-1+1=k+k2 by omega] at this
      have e2:M.drop (k+k2)=v::M.drop (k+k2+1):=Z2 b4;have e3:k+(k2+1)-1=k+k2:=by omega
      refine aD (λb2=>⟨⟨by omega,by omega⟩,by omega,λv2 a6=>⟨⟨by omega,by omega⟩,by omega,λ_ _=> ?_⟩⟩) (λheq=> ?_)
      ·rw[hv] at a6;cases a6
       refine⟨⟨z.L.set q v,q+1,k2+1,M.length-(k+(k2+1))⟩,⟨k2+1,q+1,rfl,by omega,by omega,rfl,by omega,by omega,(by dsimp only;rw[List.length_set];exact z5),?_,?_,rfl⟩,(by dsimp only;omega),⟨(by rw[zi];exact wrs (by omega) (by omega)),(by rw[zj];exact wrs (by omega) (by omega))⟩,rfl⟩
       ·dsimp only
        rw[e3,List.drop_set_of_lt (by omega)];exact Zoz z6 (by omega)
       ·dsimp only
        have hq:q<z.L.length:=by omega
        rw[e3,z7,e1,e2,Zu9 λh=>b2 h.symm,cu,cD,List.getElem?_set_self hq,List.take_set_of_le (av _)];rw[Zfl v,cu,List.append_assoc];rfl
      ·refine⟨⟨z.L,q,k2+1,M.length-(k+(k2+1))⟩,⟨k2+1,q,rfl,by omega,by omega,rfl,z3,by omega,z5,?_,?_,rfl⟩,(by dsimp only;omega),⟨zi,(by rw[zj];exact wrs (by omega) (by omega))⟩,rfl⟩
       ·dsimp only
        rw[e3];exact Zoz z6 (by omega)
       ·dsimp only
        rw[e3,z7,e1,e2,heq,Zu8]
     ·have a8:M.drop (k+k2-1)= [M[k+k2-1]'(by omega)]:=by
       have:=Z2 (ak (show k+k2-1<M.length by omega));rw[this,bJ (by omega)]
      rw[a8] at z7;have z8:W7 M=z.L.take q:=by rw[z7];exact cK _
      refine⟨⟨by omega,by omega⟩,aD (λ_=>⟨by omega,⟨by omega,by omega⟩,by rw[bj];omega,?_⟩) (λg2=>by omega)⟩;rw[List.take_take,Nat.min_self,z8]
    ·refine⟨⟨M,k+1,0,M.length-(k+1)⟩,⟨rfl,k+1,rfl,by omega,by omega,?_,rfl⟩,(by dsimp only;omega),(by rw[hi];exact wrs (by omega) (by omega)),rfl⟩
     have a3:M.drop (k-1)=a::M.drop k:=by have:=Z2 ha;rwa[show k-1+1=k by omega] at this
     have a0:M.drop k=b::M.drop (k+1):=Z2 hb;rw[hc,a3,a0,Zu9 λh=>a5 h.symm,<-a0,Nat.add_sub_cancel];rw[show M.take k=M.take (k-1)++ [a] by have:=cD (l:=M) (i:=k-1);rw[ha,show k-1+1=k by omega] at this;exact this];simp
   ·have hk:k=M.length:=by omega
    have a3:M.drop (k-1)= [M[k-1]'(by omega)]:=by
     have:=Z2 (ak (show k-1<M.length by omega));rw[this,bJ (by omega)]
    refine⟨av _,?_⟩;rw[aU];refine(hc.trans ?_).symm;rw[show W7 (M.drop (k-1))=M.drop (k-1) by rw[a3];rfl,List.take_append_drop]
end
section
open Go
open Classical in
noncomputable def eqE{α:Type} (a b:α):Bool:=decide (a=b)
theorem eqE_iff{α:Type} {a b:α}:eqE a b=ac↔a=b:=by unfold eqE;simp
theorem eqE_no{α:Type} {a b:α}:eqE a b=ab↔a≠b:=by unfold eqE;simp
theorem Zec{α:Type} (a:α):eqE a a=true:=eqE_iff.2 rfl
noncomputable def dEx2:DcL E (Ex×Ex×Unit):= .cons (dR .exprs) (.cons (dR .exprs) .nil)
noncomputable def Yf0(m:Nat):Sum thy:=sumP dEx2 (λx=>x.1.sz<m) λx=> .bool ab (eqE x.1 x.2.1)
noncomputable def Asx:Fr thy->Hp thy->Nat->Ann thy:=λT h i=>{X:=LX,fr:=λx=> [(2,T 2),(3,T 3),(5,.int ab .i64 x.k)],bl:=λx=>blkP h (T 2)++blkP h (T 3),src:=λ_=> [],md:= [],ih:=i,M:=i+30,meas:=λx=>x.r}
noncomputable def Fsx(m:Nat):Fns thy:=addL (addS F0 65 (Yf0 m)) 65 4 Asx E
abbrev qDY1(I:Ex):=(aJ I=aJ I/\cd I=cd I/\bC I=bC I/\bD I=bD I/\bE I=bE I/\bF I=bF I/\(bx I=bx I/\(ab=ac->ab=ac))/\True)
abbrev qDY2(I:Ex):=(Ex.mk (aJ I) (cd I) (bC I) (bD I) (bE I) (bF I) (bx I))
abbrev qDY3(I:Ex):=(↑(aa (bx I)):Int)
abbrev qDY4(I:LX):=(↑(LX.k I):Int)
abbrev qDY5(I:Ex) (J:Ex):=(!(bC I==bC J&&(bD I==bD J&&(bE I==bE J&&(bF I==bF J&&ac)))))
theorem Yf1(m:Nat) (x y:Ex) (v:Bool):Zk E F0 (vc E (Fsx m) 400) 65 [exA x,exA y] hp0 0 (λr=>ret E (patch hp0 0 r) r.v (.bool ab v))=(
 ∃(Q:Bool->Prop),(((aJ x !=aJ y)=ac->Q ac)/\((aJ x !=aJ y)=ab->((cd x !=cd y)=ac->Q ac)/\((cd x !=cd y)=ab->((qDY5 x y)=ac->Q ac)/\((qDY5 x y)=ab->(((qDY3 x) !=(qDY3 y))=ac->Q ac)/\(((qDY3 x) !=(qDY3 y))=ab->Q ab)))))/\(Q ac->ab=v)/\(Q ab->∃(R:LX->Prop),(∃(I:LX),R I/\ac=ac/\(0=0/\0=0/\0=(qDY4 I)/\True)/\(qDY1 x)/\(qDY1 y)/\True)/\∀(I:LX),R I->(decide ((qDY4 I)<(qDY3 x))=ac->0<=(qDY4 I)/\(qDY4 I)+1<=(qDY3 x)/\∀(J:Ex),(bx x)[ag (qDY4 I)]? =ae J->0<=(qDY4 I)/\(qDY4 I)+1<=(qDY3 y)/\∀(U:Ex),(bx y)[ag (qDY4 I)]? =ae U->cZ (qDY2 J)+1<=m/\((!eqE (qDY2 J) (qDY2 U))=ac->ab=v)/\((!eqE (qDY2 J) (qDY2 U))=ab->∃(a0:LX),R a0/\a0.2+1<=I.2/\ac=ac/\(0=0/\0=0/\wr af ((qDY4 I)+1)=(qDY4 a0)/\True)/\(qDY1 x)/\(qDY1 y)/\True))/\(decide ((qDY4 I)<(qDY3 x))=ab->ac=v))):=by kernel_rfl
noncomputable def dCl2:DcL E (Cls×Cls×Unit):= .cons (dR .clauses) (.cons (dR .clauses) .nil)
noncomputable def Seqc:Sum thy:=sumP dCl2 (λx=>x.1.pay.sz<1000000000/\x.1.when_.length<1000000000) λx=> .bool ab (eqE x.1 x.2.1)
noncomputable def Fsc:Fns thy:=addL (addS F0 65 (Yf0 1000000000)) 33 4 Asx E
abbrev qDYb(I:Cls):=(aE I)
abbrev qDY6(I:Cls):=(aP I=aP I/\(aY I=aY I/\(ab=ac->ab=ac))/\aJ (qDYb I)=aJ (qDYb I)/\cd (qDYb I)=cd (qDYb I)/\bC (qDYb I)=bC (qDYb I)/\bD (qDYb I)=bD (qDYb I)/\bE (qDYb I)=bE (qDYb I)/\bF (qDYb I)=bF (qDYb I)/\(bx (qDYb I)=bx (qDYb I)/\(ab=ac->ab=ac))/\True)
abbrev qDY7(I:Cls):=(Ex.mk (aJ (qDYb I)) (cd (qDYb I)) (bC (qDYb I)) (bD (qDYb I)) (bE (qDYb I)) (bF (qDYb I)) (bx (qDYb I)))
abbrev qDY8(I:Cls):=(↑(aa (aY I)):Int)
abbrev qDY9(I:LX):=(↑(LX.k I):Int)
abbrev qDYa(I:Tst) (J:Tst):=(!(Tst.attr I==Tst.attr J&&(Tst.low I==Tst.low J&&(Tst.high I==Tst.high J&&ac))))
theorem Yf2(x y:Cls) (v:Bool):Zk E Fsc (vc E Fsc 400) 33 [.agg (encF ab .clauses x),.agg (encF ab .clauses y)] hp0 0 (λr=>ret E (patch hp0 0 r) r.v (.bool ab v))=(
 ∃(Q:Bool->Prop),(((!aP x==aP y)=ac->Q ac)/\((!aP x==aP y)=ab->(((qDY8 x) !=(qDY8 y))=ac->Q ac)/\(((qDY8 x) !=(qDY8 y))=ab->Q ab)))/\(Q ac->ab=v)/\(Q ab->∃(R:LX->Prop),(∃(I:LX),R I/\ac=ac/\(0=0/\0=0/\0=(qDY9 I)/\True)/\(qDY6 x)/\(qDY6 y)/\True)/\∀(I:LX),R I->(decide ((qDY9 I)<(qDY8 x))=ac->0<=(qDY9 I)/\(qDY9 I)+1<=(qDY8 x)/\∀(J:Tst),(aY x)[ag (qDY9 I)]? =ae J->0<=(qDY9 I)/\(qDY9 I)+1<=(qDY8 y)/\∀(U:Tst),(aY y)[ag (qDY9 I)]? =ae U->((qDYa J U)=ac->ab=v)/\((qDYa J U)=ab->∃(a0:LX),R a0/\a0.2+1<=I.2/\ac=ac/\(0=0/\0=0/\wr af ((qDY9 I)+1)=(qDY9 a0)/\True)/\(qDY6 x)/\(qDY6 y)/\True))/\(decide ((qDY9 I)<(qDY8 x))=ab->cZ (qDY7 x)+1<=1000000000/\eqE (qDY7 x) (qDY7 y)=v))):=by kernel_rfl
noncomputable def Fss:Fns thy:=addL (addS F0 33 Seqc) 8 4 Asx E
abbrev qDYc(I:Cls):=(Ex.mk (aJ (aE I)) (cd (aE I)) (bC (aE I)) (bD (aE I)) (bE (aE I)) (bF (aE I)) (bx (aE I)))
abbrev qDYd(I:Tar):=(bP I=bP I/\bG I=bG I/\(au I=au I/\(ab=ac->ab=ac))/\True)
abbrev qDYe(I:Tar):=(↑(aa (au I)):Int)
abbrev qDYf(I:Cls):=(Cls.mk (aP I) (aY I) (qDYc I))
abbrev qDYg(I:LX):=(↑(LX.k I):Int)
theorem Yf3(x y:Tar) (v:Bool):Zk E Fss (vc E Fss 400) 8 [.agg (encF ab .tariffs x),.agg (encF ab .tariffs y)] hp0 0 (λr=>ret E (patch hp0 0 r) r.v (.bool ab v))=(
 ∃(Q:Bool->Prop),(((!bP x==bP y)=ac->Q ac)/\((!bP x==bP y)=ab->((bG x !=bG y)=ac->Q ac)/\((bG x !=bG y)=ab->(((qDYe x) !=(qDYe y))=ac->Q ac)/\(((qDYe x) !=(qDYe y))=ab->Q ab))))/\(Q ac->ab=v)/\(Q ab->∃(R:LX->Prop),(∃(I:LX),R I/\ac=ac/\(0=0/\0=0/\0=(qDYg I)/\True)/\(qDYd x)/\(qDYd y)/\True)/\∀(I:LX),R I->(decide ((qDYg I)<(qDYe x))=ac->0<=(qDYg I)/\(qDYg I)+1<=(qDYe x)/\∀(J:Cls),(au x)[ag (qDYg I)]? =ae J->0<=(qDYg I)/\(qDYg I)+1<=(qDYe y)/\∀(U:Cls),(au y)[ag (qDYg I)]? =ae U->(cZ (qDYc J)+1<=1000000000/\aa (aY J)+1<=1000000000)/\((!eqE (qDYf J) (qDYf U))=ac->ab=v)/\((!eqE (qDYf J) (qDYf U))=ab->∃(a0:LX),R a0/\a0.2+1<=I.2/\ac=ac/\(0=0/\0=0/\wr af ((qDYg I)+1)=(qDYg a0)/\True)/\(qDYd x)/\(qDYd y)/\True))/\(decide ((qDYg I)<(qDYe x))=ab->ac=v))):=by kernel_rfl
theorem Ykc{x y:Ex} (I:x.op=y.op) (J:x.n=y.n) (R:x.d0=y.d0) (U:x.d1=y.d1) (h5:x.d2=y.d2) (h6:x.d3=y.d3) (h7:x.l=y.l):x=y:=by
 cases x;cases y;simp only[aJ,cd,bC,bD,bE,bF,bx] at*;subst I J R U h5 h6 h7;rfl
theorem Z21{α:Type} {l m:List α} {k:Nat} {a b:α} (I:l[k]? =ae a) (J:m[k]? =ae b) (h:l.take k=m.take k) (e:a=b):l.take (k+1)=m.take (k+1):=by
 rw[cD,cD,I,J,h,e]
theorem Z22{α:Type} {l m:List α} {k:Nat} (I:l.length<=k) (J:l.length=m.length) (h:l.take k=m.take k):l=m:=by
 rwa[bg I,bg (by omega)] at h
theorem Ykd{α:Type} {l m:List α} {k:Nat} {a b:α} (J:l[k]? =ae a) (I:m[k]? =ae b) (e:a≠b):l≠m:=by
 rintro rfl;rw[J] at I;cases I;exact e rfl
theorem Zsw{α:Type} {l m:List α} {V:Bool} {G:Prop} {B:α->Prop} (hl:l.length=m.length) (hb:l.length<=1000000000) (hB:∀a∈l,B a) (hT:l=m->G) (hF:l≠m->ab=V):
 ∃R:LX->Prop,(∃I:LX,R I/\0=(I.k:Int))/\∀I:LX,R I->(((I.k:Int)<(l.length:Int))->0<=(I.k:Int)/\(I.k:Int)+1<=(l.length:Int)/\∀a,l[ag (I.k:Int)]? =ae a->0<=(I.k:Int)/\(I.k:Int)+1<=(m.length:Int)/\∀b,m[ag (I.k:Int)]? =ae b->B a/\(¬a=b->ab=V)/\(a=b->∃a0:LX,R a0/\a0.r+1<=I.r/\wr af ((I.k:Int)+1)=(a0.k:Int)))/\(¬(I.k:Int)<(l.length:Int)->G):=by
 refine⟨λy=>y.k<=l.length/\l.take y.k=m.take y.k/\y.r=l.length-y.k,⟨⟨0,l.length,[],0⟩,⟨(by dsimp only;omega),rfl,rfl⟩,rfl⟩,?_⟩
 rintro⟨k,r,D,q⟩ ⟨h1,J,h3⟩
 simp only at h1 J h3⊢
 refine aD (λhk=>⟨by omega,by omega,λa U=>⟨by omega,by omega,λb a1=>⟨hB a (aI U),λe=>hF (Ykd U a1 e),λe=> ?_⟩⟩⟩) (λhk=>hT (Z22 (by omega) hl J))
 exact⟨⟨k+1,l.length-(k+1),[],0⟩,⟨(by dsimp only;omega),Z21 U a1 J e,rfl⟩,(by dsimp only;omega),(wr64 (by omega) (by omega)).trans (by dsimp only;omega)⟩
theorem Z9b{l m:List Tst} {V:Bool} {G:Prop} (hl:l.length=m.length) (J:l.length<=1000000000) (hT:l=m->G) (hF:l≠m->ab=V):
 ∃R:LX->Prop,(∃I:LX,R I/\0=(I.k:Int))/\∀I:LX,R I->(((I.k:Int)<(l.length:Int))->0<=(I.k:Int)/\(I.k:Int)+1<=(l.length:Int)/\∀a,l[ag (I.k:Int)]? =ae a->0<=(I.k:Int)/\(I.k:Int)+1<=(m.length:Int)/\∀b,m[ag (I.k:Int)]? =ae b->(¬a.attr=b.attr\/¬a.low=b.low\/¬a.high=b.high->ab=V)/\(a=b->∃U:LX,R U/\U.r+1<=I.r/\wr af ((I.k:Int)+1)=(U.k:Int)))/\(¬(I.k:Int)<(l.length:Int)->G):=by
 obtain⟨R,h1,h2⟩:=Zsw (B:=λ_=>True) hl J (λ_ _=>jU) hT hF
 refine⟨R,h1,λI hx=>aD (λhk=> ?_) (h2 I hx).2⟩
 obtain⟨a1,a2,a3⟩:=(h2 I hx).1 hk
 refine⟨a1,a2,λa ha=> ?_⟩
 obtain⟨b1,b2,a0⟩:=a3 a ha
 refine⟨b1,b2,λb J=>⟨λe=>(a0 b J).2.1 (by rintro rfl;simp at e),(a0 b J).2.2⟩⟩
theorem Yke:∀(m:Nat),m<=1000000000->∀(x y:Ex),x.sz<m->PureC E 65 [exA x,exA y] (.bool ab (eqE x y)):=by
 intro m
 induction m with
 |zero=>intro _ x y h;omega
 |succ m ih=>
  intro hb x y hm;have hF:FnsOk E (Fsx m):=Zm E_ok (Zb F0_ok (Yn E_ok (Zc (f:=65) rfl) λx h=>ih (by omega) x.1 x.2.1 h)) _ _ _;refine Za E_ok (Xr E_ok F0_ok λf N c=>(Zgp E_ok hF 400 f N c).1) ?_;rw[Yf1];delta qDY1 qDY2 qDY3 qDY4 qDY5;have a1:=x.sz_eq;have a0:=Ex.szL_len x.l
  simp only[Yk,Z9,Wp,Wq,Ws,hJ,ir,fR,gg,fK,fC,be,bB,bn,cj,aq,cH,cx,bi,iO,Yz,Yt,ne_eq,and_true,true_and,aR,aL,false_or,or_false,jR,ko,bV,iW,je,bv,ia,eqE_iff,eqE_no];have no:x≠y->ab=eqE x y:=λh=>(eqE_no.2 h).symm
  by_cases U:x.op=y.op/\x.n=y.n/\(x.d0=y.d0/\x.d1=y.d1/\x.d2=y.d2/\x.d3=y.d3)/\x.l.length=y.l.length
  ·obtain⟨J,R,I,h4⟩:=U
   refine⟨λb=>b=ab,⟨λh=>kc J h,λ_=>⟨λh=>kc R h,λ_=>⟨λh=>kc I (by rintro⟨a,b,c,d⟩;rcases h with h|h|h|h<;>exact h (by assumption)),λ_=>⟨λh=>kc h4 (by omega),λ_=>rfl⟩⟩⟩⟩,λh=>by simp at h,λ_=> ?_⟩
   exact Zsw (B:=λa=>a.sz+1<=m) (by omega) (by omega) (λa ha=>by have:=Ex.szL_mem ha;omega) (λe=>(eqE_iff.2 (Ykc J R I.1 I.2.1 I.2.2.1 I.2.2.2 e)).symm) (λh=>no λe=>h (by rw[e]))
  ·refine⟨λb=>b=ac,⟨λ_=>rfl,λJ=>⟨λ_=>rfl,λR=>⟨λ_=>rfl,λI=>⟨λ_=>rfl,λh4=>kc ⟨J,R,I,by omega⟩ U⟩⟩⟩⟩,λ_=>no λe=>U (by rw[e];simp),λh=>by simp at h⟩
theorem Ykf:SumOk E 65 (Yf0 1000000000):=Yn E_ok (Zc (f:=65) rfl) λx h=>Yke 1000000000 (av _) x.1 x.2.1 h
theorem Yf4{x y:Cls} (I:x.name=y.name) (J:x.when_=y.when_) (R:x.pay=y.pay):x=y:=by
 cases x;cases y;simp only at*;subst I J R;rfl
theorem Yf5{x y:Tar} (I:x.name=y.name) (J:x.for_=y.for_) (R:x.clauses=y.clauses):x=y:=by
 cases x;cases y;simp only at*;subst I J R;rfl
theorem Yf6{x y:Tst}:(x.attr=y.attr/\x.low=y.low/\x.high=y.high)↔x=y:=by
 cases x;cases y;simp
def SmC(c:Cls):Prop:=c.pay.sz<1000000000/\c.when_.length<1000000000
theorem Yf7(x y:Cls) (h:SmC x):PureC E 33 [.agg (encF ab .clauses x),.agg (encF ab .clauses y)] (.bool ab (eqE x y)):=by
 have hF:FnsOk E Fsc:=Zm E_ok (Zb F0_ok Ykf) _ _ _;refine Za E_ok (Zd E_ok hF 400) ?_;rw[Yf2];delta qDYb qDY6 qDY7 qDY8 qDY9 qDYa;obtain⟨hz,hw⟩:=h
 simp only[Yk,Z9,Wp,Wq,Ws,hJ,ir,fR,gg,fK,fC,be,bB,bn,cj,aq,cH,cx,bi,iO,Yz,Yt,ne_eq,and_true,true_and,aR,aL,false_or,or_false,jR,ko,bV,iW,je,bv,ia,eqE_iff,eqE_no,Yf6];have no:x≠y->ab=eqE x y:=λh=>(eqE_no.2 h).symm
 by_cases R:x.name=y.name/\x.when_.length=y.when_.length
 ·obtain⟨I,U⟩:=R
  refine⟨λb=>b=ab,⟨λh=>kc I h,λ_=>⟨λh=>kc U (by omega),λ_=>rfl⟩⟩,λh=>by simp at h,λ_=> ?_⟩
  exact Z9b (by omega) (by omega) (λe=>⟨by omega,by
   by_cases J:x.pay=y.pay
   ·rw[eqE_iff.2 J,eqE_iff.2 (Yf4 I e J)]
   ·rw[eqE_no.2 J,eqE_no.2 λh=>J (by rw[h])]⟩) (λh=>no λe=>h (by rw[e]))
 ·exact⟨λb=>b=ac,⟨λ_=>rfl,λI=>⟨λ_=>rfl,λU=>kc ⟨I,by omega⟩ R⟩⟩,λ_=>no λe=>R (by rw[e];simp),λh=>by simp at h⟩
theorem Ykg:SumOk E 33 Seqc:=Yn E_ok (Zc (f:=33) rfl) λx h=>Yf7 x.1 x.2.1 h
def SmT1(t:Tar):Prop:=(∀c∈t.clauses,SmC c)/\t.clauses.length<1000000000
theorem Yf8(x y:Tar) (h:SmT1 x):PureC E 8 [.agg (encF ab .tariffs x),.agg (encF ab .tariffs y)] (.bool ab (eqE x y)):=by
 have hF:FnsOk E Fss:=Zm E_ok (Zb F0_ok Ykg) _ _ _;refine Za E_ok (Zd E_ok hF 400) ?_;rw[Yf3];delta qDYc qDYd qDYe qDYf qDYg;obtain⟨hz,hw⟩:=h
 simp only[Yk,Z9,Wp,Wq,Ws,hJ,ir,fR,gg,fK,fC,be,bB,bn,cj,aq,cH,cx,bi,iO,Yz,Yt,ne_eq,and_true,true_and,aR,aL,false_or,or_false,jR,ko,bV,iW,je,bv,ia,Cls.eta,eqE_iff,eqE_no];have no:x≠y->ab=eqE x y:=λh=>(eqE_no.2 h).symm
 by_cases R:x.name=y.name/\x.for_=y.for_/\x.clauses.length=y.clauses.length
 ·obtain⟨I,J,U⟩:=R
  refine⟨λb=>b=ab,⟨λh=>kc I h,λ_=>⟨λh=>kc J h,λ_=>⟨λh=>kc U (by omega),λ_=>rfl⟩⟩⟩,λh=>by simp at h,λ_=> ?_⟩;exact Zsw (B:=SmC) (by omega) (by omega) hz (λe=>(eqE_iff.2 (Yf5 I J e)).symm) (λh=>no λe=>h (by rw[e]))
 ·exact⟨λb=>b=ac,⟨λ_=>rfl,λI=>⟨λ_=>rfl,λJ=>⟨λ_=>rfl,λU=>kc ⟨I,J,by omega⟩ R⟩⟩⟩,λ_=>no λe=>R (by rw[e];simp),λh=>by simp at h⟩
end
section
open Go
end
section
open Go
noncomputable def dLre:Dc E (List Rep):=(Zfi (E:=E) cL:Dc E (List (thy.dom cL)))
noncomputable def SinF:Sum thy:=Zcr E (λ_=>ar) 10 dInE (λx=>x.1.length<=8) (λx=>inF x.1 x.2.1 x.2.2.1 x.2.2.2.1) λy=> .tup [tarE y.1,.int ab .i64 y.2]
theorem Zmd:SumOk E 15 SinF:=Xg E_ok (Zc (f:=15) rfl) λx h=>Yb6 x.1 x.2.1 x.2.2.1 x.2.2.2.1 h
noncomputable def SchF:Sum thy:=Zcr E (λ_=>ar) 10 (.cons dLre (.cons dN (.cons dN .nil))) (λx=>x.1.length<=8) (λx=>chgF x.1 x.2.1 x.2.2.1) λy=> .psl fX y ab
theorem Z11:SumOk E 22 SchF:=Xg E_ok (Zc (f:=22) rfl) λx h=>Z8j x.1 x.2.1 x.2.2.1 h
noncomputable def FprE:Fns thy:=addS (addS F0 15 SinF) 11 ScpE
theorem Yer:FnsOk E FprE:=Zb (Zb F0_ok Zmd) Ztk
theorem Z8a(l:List Rep) (J kd at_:Int) (c:List Ins) (e:Int):Zk E FprE (vc E FprE 400) 20 [.psl cL l ab,.int ab .i64 J,.int ab .i64 kd,.int ab .i64 at_] hp0 0 (λr=>ret E (patch hp0 0 r) r.v (.tup [.psl dC c ab,.int ab .i64 e]))=(
aa l<=8/\∀(y:Tar×Int),y=inF l J kd at_->((ay y !=0)=ac->c= []/\ay y=e/\True)/\((ay y !=0)=ab->((∀(c:Cls),c∈au (ao y)->cZ (aE c)<=10000/\aa (aY c)+1<=1000000000)/\aa (au (ao y))+1<=1000000000)/\∀(I:List Ins×Int),I=Yb (ao y)->(ao I=c/\(ab=ac->ab=ac))/\ay I=e/\True)):=by kernel_rfl
structure FwX where
 k:Nat
 r:Nat
 n:Int
noncomputable def AfwE:Fr thy->Hp thy->Nat->Ann thy:=λT h i=>{X:=FwX,fr:=λx=> [(0,T 0),(3,.int ab .i64 x.n),(4,.int ab .i64 x.k)],bl:=λx=> [],src:=λ_=> [],md:= [],ih:=i,M:=i+40,meas:=λx=>x.r}
noncomputable def FfwE:Fns thy:=addL F0 14 5 AfwE E
theorem Yes:FnsOk E FfwE:=Zm E_ok F0_ok _ _ _
theorem Z8b(l:List Rep) (v:Bool):Zk E FfwE (vc E FfwE 400) 14 [.psl cL l ab] hp0 0 (λr=>ret E (patch hp0 0 r) r.v (.bool ab v))=(
(decide ((↑(aa l):Int)>8)=ac->ab=v)/\(decide ((↑(aa l):Int)>8)=ab->∃(R:FwX->Prop),(∃(x:FwX),R x/\ac=ac/\((l=l/\(ab=ac->ab=ac))/\0=FwX.n x/\0=(↑(FwX.k x):Int)/\True)/\True)/\∀(x:FwX),R x->(decide ((↑(FwX.k x):Int)<(↑(aa l):Int))=ac->0<=(↑(FwX.k x):Int)/\(↑(FwX.k x):Int)+1<=(↑(aa l):Int)/\∀(J:Rep),l[ag (↑(FwX.k x):Int)]? =ae J->∃(I:FwX),R I/\I.2+1<=x.2/\ac=ac/\((l=l/\(ab=ac->ab=ac))/\wr af (FwX.n x+mm2 ab (↑(aa (ItD.text (dm J))):Int) 4000)=FwX.n I/\wr af ((↑(FwX.k x):Int)+1)=(↑(FwX.k I):Int)/\True)/\True)/\(decide ((↑(FwX.k x):Int)<(↑(aa l):Int))=ab->(decide (FwX.n x<=3000)=ac->ac=v)/\(decide (FwX.n x<=3000)=ab->ab=v)))):=by kernel_rfl
noncomputable def Asm7:Fr thy->Hp thy->Nat->Ann thy:=λT h i=>{X:=FwX,fr:=λx=> [(0,T 0),(1,T 1),(5,.int ab .i64 x.k)],bl:=λx=> [],src:=λ_=> [],md:= [],ih:=i,M:=i+30,meas:=λx=>x.r}
noncomputable def Fsm7:Fns thy:=addL F0 21 4 Asm7 E
theorem Yet:FnsOk E Fsm7:=Zm E_ok F0_ok _ _ _
theorem Z8c(a b:List Int) (v:Bool):Zk E Fsm7 (vc E Fsm7 400) 21 [.psl .ints a ab,.psl .ints b ab] hp0 0 (λr=>ret E (patch hp0 0 r) r.v (.bool ab v))=(
(((↑(aa a):Int) !=(↑(aa b):Int))=ac->ab=v)/\(((↑(aa a):Int) !=(↑(aa b):Int))=ab->∃(R:FwX->Prop),(∃(x:FwX),R x/\ac=ac/\((a=a/\(ab=ac->ab=ac))/\(b=b/\(ab=ac->ab=ac))/\0=(↑(FwX.k x):Int)/\True)/\True)/\∀(x:FwX),R x->(decide ((↑(FwX.k x):Int)<(↑(aa a):Int))=ac->0<=(↑(FwX.k x):Int)/\(↑(FwX.k x):Int)+1<=(↑(aa a):Int)/\∀(I:Int),a[ag (↑(FwX.k x):Int)]? =ae I->0<=(↑(FwX.k x):Int)/\(↑(FwX.k x):Int)+1<=(↑(aa b):Int)/\∀(J:Int),b[ag (↑(FwX.k x):Int)]? =ae J->((I !=J)=ac->ab=v)/\((I !=J)=ab->∃(U:FwX),R U/\U.2+1<=x.2/\ac=ac/\((a=a/\(ab=ac->ab=ac))/\(b=b/\(ab=ac->ab=ac))/\wr af ((↑(FwX.k x):Int)+1)=(↑(FwX.k U):Int)/\True)/\True))/\(decide ((↑(FwX.k x):Int)<(↑(aa a):Int))=ab->ac=v))):=by kernel_rfl
noncomputable def prgF(l:List Rep) (I kd at_:Int):List Ins×Int:=if(inF l I kd at_).2≠0 then([],(inF l I kd at_).2) else Yb (inF l I kd at_).1
theorem Z8d(l:List Rep) (I kd at_:Int) (R:l.length<=8):PureC E 20 [.psl cL l ab,.int ab .i64 I,.int ab .i64 kd,.int ab .i64 at_] (.tup [.psl dC (prgF l I kd at_).1 ab,.int ab .i64 (prgF l I kd at_).2]):=by
 refine Za E_ok (Zd E_ok Yer 400) ?_;refine Eq.mpr (Z8a l I kd at_ (prgF l I kd at_).1 (prgF l I kd at_).2) ?_;simp only[true_and,and_true,ko,kF,ir,gg];unfold prgF;refine⟨R,λy J=>aD (λh=> ?_) (λh=> ?_)⟩
 ·rw[<-J,jQ h];exact⟨rfl,rfl⟩
 ·rw[<-J,jG (λx=>x h)]
  refine⟨?_,λz U=>by rw[U];exact⟨rfl,rfl⟩⟩;have:=(Zw0 l I kd at_).1;rw[J];exact this
def txR(x:Rep):Int:=mm2 ab (x.item.text.length:Int) 4000
def fewE(l:List Rep):Bool:=decide (l.length<=8)&&decide ((l.map txR).sum<=3000)
theorem Yeu(x:Rep):0<=txR x/\txR x<=4000:=by
 unfold txR mm2;simp only;split<;>omega
theorem Z8e{l:List Rep} {k:Nat} {x:Rep} (h:l[k]? =ae x):((l.take (k+1)).map txR).sum=((l.take k).map txR).sum+txR x:=by
 rw[cD,h,fO,eY,List.sum_append];simp
theorem Z12(l:List Rep):PureC E 14 [.psl cL l ab] (.bool ab (fewE l)):=by
 refine Za E_ok (Zd E_ok Yes 400) ?_;rw[Z8b];simp only[bA,fK,fC,true_and,and_true,ko,kF];refine aD (λh=> ?_) (λh=> ?_)
 ·unfold fewE;rw[jD (by omega)];rfl
 ·refine⟨λx=>x.k<=l.length/\x.n=((l.take x.k).map txR).sum/\0<=x.n/\x.n<=4000*x.k/\x.r=l.length-x.k,⟨⟨0,l.length,0⟩,⟨aX _,rfl,by simp,by simp,rfl⟩,rfl,rfl⟩,?_⟩
  rintro x ⟨hk,I,R,U,hr⟩;refine aD (λg=>⟨by omega,by omega,λw J=> ?_⟩) (λg=> ?_)
  ·have ht:=Yeu w
   have e:mm2 ab (w.item.text.length:Int) 4000=txR w:=rfl;rw[e];exact⟨⟨x.k+1,l.length-(x.k+1),x.n+txR w⟩,⟨by dsimp only;omega,by dsimp only;rw[Z8e J,I],by dsimp only;omega,by dsimp only;omega,rfl⟩,by dsimp only;omega,wr64 (by omega) (by omega),wr64 (by omega) (by omega)⟩
  ·rw[bg (by omega)] at I
   refine aD (λq=> ?_) (λq=> ?_)
   ·unfold fewE;rw[jC (by omega),jC (by omega)];rfl
   ·unfold fewE;rw[jC (show l.length<=8 by omega),jD (by omega)];rfl
open Classical in
theorem Z8f(a b:List Int) (hl:a.length<=1000000):PureC E 21 [.psl .ints a ab,.psl .ints b ab] (.bool ab (decide (a=b))):=by
 refine Za E_ok (Zd E_ok Yet 400) ?_;rw[Z8c];simp only[bA,fK,fC,true_and,and_true,ko,kF,ir,gg];refine aD (λh=>(jD λe=>h (by rw[e])).symm) (λh=> ?_);have a0:a.length=b.length:=by omega
 refine⟨λx=>x.k<=a.length/\(∀j,j<x.k->a[j]? =b[j]?)/\x.r=a.length-x.k,⟨⟨0,a.length,0⟩,⟨aX _,(λj I=>kc I (Nat.not_lt_zero _)),rfl⟩,rfl⟩,?_⟩;rintro x ⟨hk,U,hr⟩;refine aD (λg=>⟨by omega,by omega,λu J=>⟨by omega,by omega,λv R=>aD (λe=> ?_) (λe=> ?_)⟩⟩) (λg=> ?_)
 ·refine(jD λe2=> ?_).symm
  rw[e2,R] at J;cases J;exact e rfl
 ·refine⟨⟨x.k+1,a.length-(x.k+1),0⟩,⟨by dsimp only;omega,λj I=> ?_,rfl⟩,by dsimp only;omega,wr64 (by omega) (by omega)⟩
  dsimp only at I;rcases Nat.lt_succ_iff_lt_or_eq.1 I with I|rfl
  ·exact U j I
  ·rw[J,R,e]
 ·refine(jC (List.ext_getElem? λj=> ?_)).symm
  by_cases I:j<x.k
  ·exact U j I
  ·rw[eC (by omega),eC (by omega)]
end
section
open Go
section
variable {α β:Type} [DecidableEq α]
def Zum:List (α×β)->α->Option β
 | [],_=>ar
 |p::r,a=>if p.1=a then ae p.2 else Zum r a
def putD:List (α×β)->α->β->List (α×β)
 | [],a,v=> [(a,v)]
 |p::r,a,v=>if p.1=a then(p.1,v)::r else p::putD r a v
def delD:List (α×β)->α->List (α×β)
 | [],_=> []
 |p::r,a=>if p.1=a then r else p::delD r a
theorem Zn4:∀(l:List (α×β)) (a:α),Z5 l a=Zum l a
 | [],a=>rfl
 |p::r,a=>by
  rw[Z5,Zum,Zn4 r a]
  by_cases h:p.1=a
  ·rw[jQ h,jQ h]
  ·rw[jG h,jG h]
theorem Z7n:∀(l:List (α×β)) (a:α) (v:β),putS l a v=putD l a v
 | [],a,v=>rfl
 |p::r,a,v=>by
  rw[putS,putD,Z7n r a v]
  by_cases h:p.1=a
  ·rw[jQ h,jQ h]
  ·rw[jG h,jG h]
theorem Yd5:∀(l:List (α×β)) (a:α),delS l a=delD l a
 | [],a=>rfl
 |p::r,a=>by
  rw[delS,delD,Yd5 r a]
  by_cases h:p.1=a
  ·rw[jQ h,jQ h]
  ·rw[jG h,jG h]
end
def goD:Bool->Bool->List (List Nat×Bool)->List Cls->Int
 |a,b,_,[]=>if a=ac then 161 else if b=ac then 2 else 0
 |a,b,m,c::r=>if Wv c=ac then goD (a||resF c.name||(Zum m c.name).getD ab) (b||decide (8<c.when_.length)||decide (24<Z7 c.pay)) (putD m c.name ac) r else 1
theorem Yd6:∀(l:List Cls) (a b:Bool) (m:List (List Nat×Bool)),goC a b m l=goD a b m l
 | [],a,b,m=>rfl
 |c::r,a,b,m=>by rw[goC,goD,Zn4,Z7n,Yd6 r]
def Zgj(t:Tar):Int:=if V4 t.name=ac/\1<=t.for_/\t.for_<=6 then goD (resF t.name) (decide (64<t.clauses.length)) [] t.clauses else 1
theorem Zhb(t:Tar):Z8 t=Zgj t:=by unfold Z8 Zgj;rw[Yd6]
def prD(t:Tar):Int:=if Zgj t≠0 then Zgj t else if 2000<(Vx (Zax t)).length then 2 else 0
def chD(t:Tar):Int:=if Zgj t=0 then(goU 0 t.clauses).2 else Zgj t
def cpD(t:Tar):Int:=if Zgj t=0 then(if 4096<(cdT t).length\/64<dCs t.clauses then 2 else 0) else Zgj t
def eckD(t:Tar):Int:=if prD t≠0 then prD t else if chD t≠0 then chD t else if chkB t≠0 then chkB t else cpD t
theorem Yom(t:Tar):(W6 t).2=prD t:=by
 unfold W6 prD;rw[Zhb];split
 ·rfl
 ·split<;>rfl
theorem Yon(t:Tar):(chkP t).2=chD t:=by
 unfold chkP chD;rw[Zhb];split<;>rfl
theorem Yoo(t:Tar):(Yb t).2=cpD t:=by
 unfold Yb cpD;rw[Zhb];split
 ·split<;>rfl
 ·rfl
theorem Zcy:eckF=eckD:=by
 funext t;unfold eckF eckD;rw[Yom,Yon,Yoo]
def Ymv(s:List Nat) (k:Int):Tar×Int:=
 if k<1\/6<k then(zTE,1) else
 match Xf s with
 |(t,_,e)=>if e≠0 then(zTE,e) else if t.for_≠k then(zTE,220) else match eckD t with| .ofNat 0=>(t,0)|e=>(zTE,e)
theorem Vi:Xc=Ymv:=by
 funext s k;unfold Xc Ymv;rw[Zcy];rcases Xf s with⟨t,p,e⟩
 dsimp only;split
 ·rfl
 ·split
  ·rfl
  ·split
   ·rfl
   ·split
    ·rename_i h
     split
     ·rename_i I;rw[I] at h;exact kc rfl h
     ·rfl
    ·rename_i h
     have h:=bv.1 h;rw[h];rfl
def Zxh(m:List (List Nat×Cls)) (l:List Cls):List (List Nat×Cls):=l.foldl (λm c=>putD m c.name c) m
def Zgk:List (List Nat×Cls)->List Cls->List Cls×List (List Nat×Cls)
 |m,[]=>([],m)
 |m,c::r=>match Zum m c.name with
  |some d=>(d::(Zgk (delD m c.name) r).1,(Zgk (delD m c.name) r).2)
  |none=>(c::(Zgk m r).1,(Zgk m r).2)
def Yd7(m:List (List Nat×Cls)) (l:List Cls):List Cls:=l.filter λc=>(Zum m c.name).isSome
def amD(t a:Tar):Tar:=⟨t.name,t.for_,(Zgk (Zxh [] a.clauses) t.clauses).1++Yd7 (Zgk (Zxh [] a.clauses) t.clauses).2 a.clauses⟩
theorem Ycj(m:List (List Nat×Cls)) (l:List Cls):Zbg m l=Zxh m l:=by
 unfold Zbg Zxh
 congr 1
 funext m c;exact Z7n _ _ _
theorem Zn5:∀(l:List Cls) (m:List (List Nat×Cls)),Vb m l=Zgk m l
 | [],m=>rfl
 |c::r,m=>by
  rw[Vb,Zgk,Zn4]
  cases Zum m c.name with
  |none=>dsimp only;rw[Zn5 r]
  |some d=>dsimp only;rw[Yd5,Zn5 r]
theorem Zn6:amF=amD:=by
 funext t a;unfold amF amD Zcs Yd7;rw[Ycj,Zn5]
 congr 2
 congr 1
 funext c;rw[Zn4]
def txtA:List Nat:= [116,97,114,105,102,102,32,116,32,102,111,114,32,104,105,114,101,32,123,32,99,108,97,117,115,101,32,97,32,119,104,101,110,32,116,121,112,101,32,105,115,32,48,32,112,97,121,32,50,32,109,111,110,101,121,59,32,125]
def txtB:List Nat:= [116,97,114,105,102,102,32,117,32,102,111,114,32,104,105,114,101,32,123,32,99,108,97,117,115,101,32,98,32,119,104,101,110,32,116,121,112,101,32,105,115,32,49,32,112,97,121,32,51,32,109,111,110,101,121,59,32,125]
def txtC:List Nat:= [116,97,114,105,102,102,32,118,32,102,111,114,32,104,105,114,101,32,123,32,99,108,97,117,115,101,32,99,32,119,104,101,110,32,116,121,112,101,32,105,110,32,48,46,46,49,32,112,97,121,32,52,32,109,111,110,101,121,59,32,125]
def repE(no kd I:Int) (s:List Nat):Rep:=⟨⟨0,no⟩,⟨0,no⟩,0,⟨kd,⟨0,0⟩,0,0,0,1,I,0,0,0,0,0,0,s,[]⟩⟩
def Vc:List Rep:= [repE 1 11 10 txtA,repE 2 12 20 txtB,repE 3 12 25 txtC,repE 4 13 30 []]
theorem in9:inF Vc 0 1 9=(zTE,220):=by unfold inF;rw[Vi,Zcy,Zn6];kernel_rfl
theorem in30:inF Vc 0 1 30=(zTE,220):=by unfold inF;rw[Vi,Zcy,Zn6];kernel_rfl
def Z0o(y:Tar×Int) (w:List Nat):Bool:=decide (y.2=0)&&decide (y.1.name= [116])&&decide (y.1.for_=1)&&decide ((y.1.clauses.flatMap λc=>c.name)=w)
theorem in10:Z0o (inF Vc 0 1 10) [97]=true:=by unfold inF;rw[Vi,Zcy,Zn6];kernel_rfl
theorem in20:Z0o (inF Vc 0 1 20) [97,98]=true:=by unfold inF;rw[Vi,Zcy,Zn6];kernel_rfl
theorem in25:Z0o (inF Vc 0 1 25) [97,98]=true:=by unfold inF;rw[Vi,Zcy,Zn6];kernel_rfl
theorem inD2:(inF Vc 0 2 20).2=220:=by unfold inF;rw[Vi,Zcy,Zn6];kernel_rfl
theorem inR1:(inF Vc 1 1 20).2=220:=by unfold inF;rw[Vi,Zcy,Zn6];kernel_rfl
theorem Yop:(inF Vc 16 1 20).2=1:=by unfold inF;rw[Vi,Zcy,Zn6];kernel_rfl
def txtP:List Nat:= [116,97,114,105,102,102,32,116,32,102,111,114,32,104,105,114,101,32,123,32,99,108,97,117,115,101,32,97,32,112,97,121,32,50,59,32,125]
theorem gd0:(Xc [] 0).2=1:=by rw[Vi];kernel_rfl
theorem gdA:(Xc txtA 2).2=220:=by rw[Vi];kernel_rfl
theorem gdP:(Xc txtP 1).2=170:=by rw[Vi];kernel_rfl
theorem chE:chgF Vc 0 1= [10,20,25,30]:=by unfold chgF;kernel_rfl
theorem cpE:(Yb (inF Vc 0 1 10).1).2=0/\(Yb (inF Vc 0 1 10).1).1≠ []:=by
 unfold Yb;rw[Zhb];unfold inF;rw[Vi,Zcy,Zn6];refine⟨by kernel_rfl,?_⟩;have:∀l:List Ins,l.isEmpty=ab->l≠ []:=λl h e=>by rw[e] at h;cases h
 exact this _ (by kernel_rfl)
end
section
open Go
noncomputable def SssE:Sum thy:=Zcr E (λ_=>ar) 10 (.cons (dR .tariffs) (.cons (dR .tariffs) .nil)) (λx=>SmT1 x.1) (λx=>eqE x.1 x.2.1) λy=> .bool ab y
theorem Z2j:SumOk E 8 SssE:=Xg E_ok (Zc (f:=8) rfl) λx h=>Yf8 x.1 x.2.1 h
structure NmX where
 k:Nat
 r:Nat
 s:List Nat
noncomputable def AnmE:Fr thy->Hp thy->Nat->Ann thy:=λT h i=>{X:=NmX,fr:=λx=> [(1,T 1),(5,T 5),(6,T 6),(7,.str ab x.s),(8,.int ab .i64 x.k)],bl:=λx=>blkP h (T 5),src:=λ_=> [],md:= [],ih:=i,M:=i+40,meas:=λx=>x.r}
noncomputable def FnmE:Fns thy:=addL (addS (addS F0 15 SinF) 8 SssE) 18 6 AnmE E
theorem Yfj:FnsOk E FnmE:=Zm E_ok (Zb (Zb F0_ok Zmd) Z2j) _ _ _
abbrev qEC1(I:Tar×Int):=(bP (ao I)=bP (ao I)/\bG (ao I)=bG (ao I)/\(au (ao I)=au (ao I)/\(ab=ac->ab=ac))/\True)
abbrev qEC2(I:Tar×Int):=(↑(aa (au (ao I))):Int)
abbrev qEC3(I:NmX):=(↑(NmX.k I):Int)
theorem Z82(at_:Int) (w:List Nat) (v:Bool):Zk E FnmE (vc E FnmE 400) 18 [.int ab .i64 at_,.str ab w] hp0 0 (λr=>ret E (patch hp0 0 r) r.v (.bool ab v))=(
 4<=8/\∀(y:Tar×Int),y=inF Vc 0 1 at_->((w==toL (ej #[]))=ac->((ay y==220)=ac->((∀(c:Cls),c∈au (ao y)->cZ (aE c)+1<=1000000000/\aa (aY c)+1<=1000000000)/\aa (au (ao y))+1<=1000000000)/\∀(U:Bool),U=eqE (ao y) (Tar.mk [] 0 [])->U=v)/\((ay y==220)=ab->ab=v))/\((w==toL (ej #[]))=ab->∃(R:NmX->Prop),(∃(x:NmX),R x/\ac=ac/\(w=w/\0=0/\ay y=ay y/\ []=NmX.s x/\0=(qEC3 x)/\True)/\(qEC1 y)/\True)/\∀(x:NmX),R x->(decide ((qEC3 x)<(qEC2 y))=ac->0<=(qEC3 x)/\(qEC3 x)+1<=(qEC2 y)/\∀(J:Cls),(au (ao y))[ag (qEC3 x)]? =ae J->aa (NmX.s x)+aa (aP J)<=9223372036854775807/\∃(I:NmX),R I/\I.2+1<=x.2/\ac=ac/\(w=w/\0=0/\ay y=ay y/\NmX.s x++aP J=NmX.s I/\wr af ((qEC3 x)+1)=(qEC3 I)/\True)/\(qEC1 y)/\True)/\(decide ((qEC3 x)<(qEC2 y))=ab->((ay y==0)=ac->((bP (ao y)==toL (ej #[(116:UInt8)]))=ac->((bG (ao y)==1)=ac->((NmX.s x==w)=ac->ac=v)/\((NmX.s x==w)=ab->ab=v))/\((bG (ao y)==1)=ab->ab=v))/\((bP (ao y)==toL (ej #[(116:UInt8)]))=ab->ab=v))/\((ay y==0)=ab->ab=v)))):=by kernel_rfl
noncomputable def nmE(at_:Int) (w:List Nat):Bool:=if w= [] then decide ((inF Vc 0 1 at_).2=220)&&eqE (inF Vc 0 1 at_).1 zTE else Z0o (inF Vc 0 1 at_) w
theorem Yj3(l:List Rep) (R kd at_:Int):∀c∈(inF l R kd at_).1.clauses,c.name.length<=32:=by
 intro c J;obtain⟨_,_,U,h2⟩:=Zw0 l R kd at_;by_cases h:(inF l R kd at_).2=0
 ·have I:=Vw (U h).1
  unfold Z8 at I;split at I
  ·have:=Z17 _ _ _ _ I c J
   unfold Wv V4 at this;simp only[aq,fK] at this;exact this.1.1.1.1
  ·cases I
 ·rw[h2 h] at J;cases J
theorem Zvg{t:Tar} (h:SmE t):SmT1 t:=⟨λc I=>⟨jP (h.1 c I).1 (by decide),(h.1 c I).2⟩,h.2⟩
theorem Yfk(at_:Int) (w:List Nat):PureC E 18 [.int ab .i64 at_,.str ab w] (.bool ab (nmE at_ w)):=by
 refine Za E_ok (Zd E_ok Yfj 400) ?_;rw[Z82];delta qEC1 qEC2 qEC3;simp only[bA,fK,fC,true_and,and_true,ko,kF,hJ,fR];refine⟨by decide,λy hy=> ?_⟩;have hs:=(Zw0 Vc 0 1 at_).1;have hl:=(Zw0 Vc 0 1 at_).2.1;have hn:=Yj3 Vc 0 1 at_;unfold nmE;rw[<-hy] at hs hl hn⊢;refine aD (λh=> ?_) (λh=> ?_)
 ·have h:w= []:=h
  rw[jQ h];refine aD (λI=> ?_) (λI=> ?_)
  ·have:=Zvg hs
   refine⟨this,λz hz=> ?_⟩;rw[hz,jC I];rfl
  ·rw[jD I];rfl
 ·have h:¬w= []:=h
  rw[jG h];refine⟨λx=>x.k<=y.1.clauses.length/\x.s=(y.1.clauses.take x.k).flatMap (λc=>c.name)/\x.s.length<=32*x.k/\x.r=y.1.clauses.length-x.k,⟨⟨0,y.1.clauses.length,[]⟩,⟨aX _,rfl,by simp,rfl⟩,rfl,rfl⟩,?_⟩;rintro x ⟨hk,J,a1,hr⟩;refine aD (λg=>⟨by omega,by omega,λc hc=> ?_⟩) (λg=> ?_)
  ·have a0:=hn c (aI hc)
   refine⟨by omega,⟨x.k+1,y.1.clauses.length-(x.k+1),x.s++c.name⟩,⟨by dsimp only;omega,?_,by dsimp only;rw[aB];omega,rfl⟩,by dsimp only;omega,rfl,wr64 (by omega) (by omega)⟩;dsimp only;rw[cD,hc,fO,List.flatMap_append,J];simp
  ·rw[bg (by omega)] at J
   unfold Z0o;rw[<-J];refine aD (λR=>aD (λq2=>aD (λq3=>aD (λU=> ?_) (λU=> ?_)) (λq3=> ?_)) (λq2=> ?_)) (λR=> ?_)
   ·have q2:y.1.name= [116]:=q2
    rw[jC R,jC q2,jC q3,jC U];rfl
   ·rw[jD U,iL]
   ·rw[jD q3,iL,eH]
   ·have q2:¬y.1.name= [116]:=q2
    rw[jD q2,iL,eH,eH]
   ·rw[jD R,eH,eH,eH]
noncomputable def SnmE:Sum thy:=Wn (.cons dN (.cons dS .nil)) (λ_=>True) (λx=>nmE x.1 x.2.1) λy=> .bool ab y
theorem Yfl:SumOk E 18 SnmE:=Zz E_ok (Zc (f:=18) rfl) λx _=>Yfk x.1 x.2.1
noncomputable def SprF:Sum thy:=Zcr E (λ_=>ar) 10 dInE (λx=>x.1.length<=8) (λx=>prgF x.1 x.2.1 x.2.2.1 x.2.2.2.1) λy=> .tup [.psl dC y.1 ab,.int ab .i64 y.2]
theorem Yfm:SumOk E 20 SprF:=Xg E_ok (Zc (f:=20) rfl) λx h=>Z8d x.1 x.2.1 x.2.2.1 x.2.2.2.1 h
noncomputable def dIts:Dc E (List Int):=(Zfi (E:=E) fX:Dc E (List (thy.dom fX)))
noncomputable def Yj4:Sum thy:=Zcr E (λ_=>ar) 10 (.cons dIts (.cons dIts .nil)) (λx=>x.1.length<=1000000) (λx=>(decide (x.1=x.2.1):Bool)) λy=> .bool ab y
theorem Z83:SumOk E 21 Yj4:=Xg E_ok (Zc (f:=21) rfl) λx h=>Z8f x.1 x.2.1 h
noncomputable def FsnE:Fns thy:=addS (addS (addS (addS (addS (addS F0 18 SnmE) 15 SinF) 6 SgoE) 20 SprF) 21 Yj4) 22 SchF
theorem Yfn:FnsOk E FsnE:=Zb (Zb (Zb (Zb (Zb (Zb F0_ok Yfl) Zmd) Ztl) Yfm) Z83) Z11
abbrev qEC4(I:Tar×Int):=(ay I==(220:Int))
abbrev qEC5:=(1:Int)
theorem Z2k(u:Nat) (v:Bool):Zk E FsnE (vc E FsnE 400) 5 [] hp0 0 (λr=>ret E (patch hp0 0 r) r.v (.bool ab v))=(
 True/\∀(y:Bool),y=nmE 9 []->((!y)=ac->ab=v)/\((!y)=ab->True/\∀(y:Bool),y=nmE 10 [97]->((!y)=ac->ab=v)/\((!y)=ab->True/\∀(y:Bool),y=nmE 20 [97,98]->((!y)=ac->ab=v)/\((!y)=ab->True/\∀(y:Bool),y=nmE 25 [97,98]->((!y)=ac->ab=v)/\((!y)=ab->True/\∀(y:Bool),y=nmE 30 []->((!y)=ac->ab=v)/\((!y)=ab->4<=8/\∀(y:Tar×Int),y=inF Vc 0 2 20->4<=8/\∀(J:Tar×Int),J=inF Vc qEC5 qEC5 20->4<=8/\∀(R:Tar×Int),R=inF Vc 16 qEC5 20->True/\∀(U:Tar×Int),U=Xc [] 0->True/\∀(a0:Tar×Int),a0=Xc txtA 2->True/\∀(a1:Tar×Int),a1=Xc txtP qEC5->4<=8/\∀(I:List Ins×Int),I=prgF Vc 0 qEC5 10->((qEC4 y)=ac->((qEC4 J)=ac->((ay R==qEC5)=ac->((ay U==qEC5)=ac->((qEC4 a0)=ac->((ay a1==170)=ac->((ay I==0)=ac->(decide ((↑(aa (ao I)):Int)>0)=ac->4<=8/\∀(y:List Int),y=chgF Vc 0 qEC5->aa y<=1000000/\∀(a2:Bool),a2=decide (y= [10,20,25,30])->a2=v)/\(decide ((↑(aa (ao I)):Int)>0)=ab->ab=v))/\((ay I==0)=ab->ab=v))/\((ay a1==170)=ab->ab=v))/\((qEC4 a0)=ab->ab=v))/\((ay U==qEC5)=ab->ab=v))/\((ay R==qEC5)=ab->ab=v))/\((qEC4 J)=ab->ab=v))/\((qEC4 y)=ab->ab=v))))))):=by kernel_rfl
theorem nm9:nmE 9 []=true:=by unfold nmE;rw[jQ rfl,in9,Zec];rfl
theorem nm30:nmE 30 []=true:=by unfold nmE;rw[jQ rfl,in30,Zec];rfl
theorem nm10:nmE 10 [97]=true:=by unfold nmE;rw[jG (by decide),in10]
theorem nm20:nmE 20 [97,98]=true:=by unfold nmE;rw[jG (by decide),in20]
theorem nm25:nmE 25 [97,98]=true:=by unfold nmE;rw[jG (by decide),in25]
theorem ifT{y:Bool} {A B:Prop} (h:y=ac) (k:B):((!y)=ac->A)/\((!y)=ab->B):=aD (λe=>by rw[h] at e;cases e) (λ_=>k)
theorem ifE{a b:Int} {A B:Prop} (h:a=b) (k:A):((a==b)=ac->A)/\((a==b)=ab->B):=⟨λ_=>k,λe=>by rw[h,iO] at e;cases e⟩
theorem prg10:(prgF Vc 0 1 10).2=0/\(prgF Vc 0 1 10).1≠ []:=by
 have I:(inF Vc 0 1 10).2=0:=by
  have:=in10;unfold Z0o at this;simp only[aq,fK] at this;exact this.1.1.1
 unfold prgF;rw[jG (λh=>h I)];exact cpE
theorem Zyk:PureC E 5 [] (.bool ab ac):=by
 refine Za E_ok (Zd E_ok Yfn 400) ?_;rw[Z2k 0];refine⟨jU,λy h=>ifT (h.trans nm9) ⟨jU,λy h=>ifT (h.trans nm10) ⟨jU,λy h=>ifT (h.trans nm20) ⟨jU,λy h=>ifT (h.trans nm25) ⟨jU,λy h=>ifT (h.trans nm30) ⟨by decide,λa R=>⟨by decide,λb U=>⟨by decide,λc hc=>⟨jU,λd hd=>⟨jU,λe he=>⟨jU,λf hf=>⟨by decide,λg I=> ?_⟩⟩⟩⟩⟩⟩⟩⟩⟩⟩⟩⟩
 refine ifE (by rw[R];exact inD2) (ifE (by rw[U];exact inR1) (ifE (by rw[hc];exact Yop) (ifE (by rw[hd];exact gd0) (ifE (by rw[he];exact gdA) (ifE (by rw[hf];exact gdP) (ifE (by rw[I];exact prg10.1) ?_))))));have hp:g.1.length>0:=List.length_pos_iff.2 (by rw[I];exact prg10.2);refine⟨λ_=>⟨by decide,λq J=>⟨?_,λr hr=> ?_⟩⟩,λh=>by have:=jj h;omega⟩
 ·rw[J,chE];decide
 ·rw[hr,J,chE];rfl
noncomputable def SsnE:Sum thy:=Wn (.nil:DcL E Unit) (λ_=>True) (λ_=>ac) λy=> .bool ab y
theorem Yfo:SumOk E 5 SsnE:=Zz E_ok (Zc (f:=5) rfl) λx _=>Zyk
end
section
open Go
noncomputable def SfwE:Sum thy:=Zcr E (λ_=>ar) 10 (.cons dLre .nil) (λ_=>True) (λx=>fewE x.1) λy=> .bool ab y
theorem Ygj:SumOk E 14 SfwE:=Xg E_ok (Zc (f:=14) rfl) λx _=>Z12 x.1
noncomputable def FlwE:Fns thy:=addS (addS (addS (addS (addS F0 5 SsnE) 14 SfwE) 15 SinF) 22 SchF) 8 SssE
theorem Ygk:FnsOk E FlwE:=Zb (Zb (Zb (Zb (Zb F0_ok Yfo) Ygj) Zmd) Z11) Z2j
end
section
open Go
noncomputable def FgdL:Fns thy:=Zni (addS (addS (addS (addS (addS (addS FlwE 6 SgoE) 7 SpaE) 9 SprE) 10 StyE) 12 SbxE) 11 ScpE)
theorem Ygd:FnsOk E FgdL:=Zf0 (Zb (Zb (Zb (Zb (Zb (Zb Ygk Ztl) Z53) Z5z) Z50) Z51) Ztk)
@[irreducible] def gdE1(v:Bool) (y:Tar×Int) (e:Int):Prop:=((ay y==e)=ac->SmT1 (ao y)/\∀(b:Bool),b=eqE (ao y) (Tar.mk [] (0:Int) [])->b=v)/\((ay y==e)=ab->ab=v)
@[irreducible] def gdE2(k:Int) (v:Bool) (y:Tar×Int) (I:Tar×Int×Int) (J:List Nat×Int):Prop:=
 True/\∀(z:Tar×Int),z=Xc (ao J) k->((ay y==(0:Int))=ac->((ay z==(0:Int))=ac->SmT1 (ao y)/\∀(b:Bool),b=eqE (ao y) (ao I)->(b=ac->SmT1 (ao y)/\∀(c:Bool),c=eqE (ao y) (ao z)->c=v)/\(b=ab->ab=v))/\((ay z==(0:Int))=ab->ab=v))/\((ay y==(0:Int))=ab->ab=v)
abbrev qEE1:=(0:Int)
abbrev qEE6(I:List Ins×Int):=(ay I !=qEE1)
abbrev qEE2(I:List Ins×Int) (J:Bool) (R:Tar×Int):=((qEE6 I)=ac->gdE1 J R (ay I))
abbrev qEE3(I:Tar×Int×Int):=(ay (ay I)==qEE1)
abbrev qEE4(I:Int) (J:Bool) (R:Tar×Int) (d0:Int) (U:Tar×Int×Int) (f0:List Nat×Int):=((I==qEE1)=ab->((I !=qEE1)=ac->gdE1 J R (I))/\((I !=qEE1)=ab->gdE2 d0 J R U f0))
abbrev qEE5(I:Int×Int) (R:List Ins×Int) (J:Bool) (d0:Tar×Int) (U:Int) (f0:Tar×Int×Int) (g0:List Nat×Int):=((ay I==qEE1)=ab->((ay I==qEE1)=ac->(qEE2 R J d0)/\((qEE6 R)=ab->gdE2 U J d0 f0 g0))/\((ay I==qEE1)=ab->((ay I !=qEE1)=ac->gdE1 J d0 (ay I))/\((ay I !=qEE1)=ab->gdE2 U J d0 f0 g0)))
abbrev qEE7(I:Tar×Int×Int):=(ao I)
theorem Z9g(s:List Nat) (k:Int) (v:Bool):Zk E FgdL (vc E FgdL 400) 3 [.str ab s,.int ab .i64 k] hp0 0 (λr=>ret E (patch hp0 0 r) r.v (.bool ab v))=(
 True/\∀(y:Bool),y=ac->((!y)=ac->ab=v)/\((!y)=ab->True/\∀(y:Tar×Int),y=Xc s k->True/\∀(I:Tar×Int×Int),I=Xf s->∃(Q:Bool->Prop),((decide (k<1)=ac->Q ac)/\(decide (k<1)=ab->(decide (k>6)=ac->Q ac)/\(decide (k>6)=ab->Q ab)))/\(Q ac->gdE1 v y (1))/\(Q ab->∃(Q:Bool->Prop),(((qEE3 I)=ac->((bG (qEE7 I) !=k)=ac->Q ac)/\((bG (qEE7 I) !=k)=ab->Q ab))/\((qEE3 I)=ab->Q ab))/\(Q ac->SmE (qEE7 I)/\∀(J:List Nat×Int),J=W6 (qEE7 I)->SmE (qEE7 I)/\∀(a0:Int×Int),a0=chkP (qEE7 I)->SmE (qEE7 I)/\∀(R:List Ins×Int),R=Yb (qEE7 I)->gdE1 v y (220))/\(Q ab->SmE (qEE7 I)/\∀(J:List Nat×Int),J=W6 (qEE7 I)->SmE (qEE7 I)/\∀(a0:Int×Int),a0=chkP (qEE7 I)->SmE (qEE7 I)/\∀(R:List Ins×Int),R=Yb (qEE7 I)->((qEE3 I)=ac->((ay J==qEE1)=ac->((ay a0==qEE1)=ac->SmE (qEE7 I)/\∀(U:Int),U=chkB (qEE7 I)->((U==qEE1)=ac->(qEE2 R v y)/\((qEE6 R)=ab->gdE2 k v y I J))/\(qEE4 U v y k I J))/\(qEE5 a0 R v y k I J))/\((ay J==qEE1)=ab->((ay J==qEE1)=ac->SmE (qEE7 I)/\∀(U:Int),U=chkB (qEE7 I)->((U==qEE1)=ac->(qEE2 R v y)/\((qEE6 R)=ab->gdE2 k v y I J))/\(qEE4 U v y k I J))/\((ay J==qEE1)=ab->((ay J==qEE1)=ac->(qEE2 R v y)/\((qEE6 R)=ab->gdE2 k v y I J))/\((ay J==qEE1)=ab->((ay J !=qEE1)=ac->gdE1 v y (ay J))/\((ay J !=qEE1)=ab->gdE2 k v y I J)))))/\((qEE3 I)=ab->((qEE3 I)=ac->((ay a0==qEE1)=ac->SmE (qEE7 I)/\∀(U:Int),U=chkB (qEE7 I)->((U==qEE1)=ac->(qEE2 R v y)/\((qEE6 R)=ab->gdE2 k v y I J))/\(qEE4 U v y k I J))/\(qEE5 a0 R v y k I J))/\((qEE3 I)=ab->((qEE3 I)=ac->SmE (qEE7 I)/\∀(U:Int),U=chkB (qEE7 I)->((U==qEE1)=ac->(qEE2 R v y)/\((qEE6 R)=ab->gdE2 k v y I J))/\(qEE4 U v y k I J))/\((qEE3 I)=ab->((qEE3 I)=ac->(qEE2 R v y)/\((qEE6 R)=ab->gdE2 k v y I J))/\((qEE3 I)=ab->((ay (ay I) !=qEE1)=ac->gdE1 v y (ay (ay I)))/\((ay (ay I) !=qEE1)=ab->gdE2 k v y I J))))))))):=by kernel_rfl
theorem Zsz{y:Tar×Int} {e:Int} (h:y=(zTE,e)):gdE1 ac y e:=by
 subst h;unfold gdE1;exact⟨λ_=>⟨Zvg Zaf,λb I=>by rw[I];exact Zec _⟩,λh=>by rw[iO] at h;cases h⟩
theorem Yge{k:Int} {y:Tar×Int} {u:Tar×Int×Int} {p:List Nat×Int} (R:SmE u.1) (h:y=(u.1,0)) (hp:Xc p.1 k=(u.1,0)):gdE2 k ac y u p:=by
 subst h;unfold gdE2;refine⟨jU,λz U=> ?_⟩;rw[hp] at U;subst U;have no:∀{b:Bool} {Z:Prop},b=eqE u.1 u.1->b=ab->Z:=λI J=>by rw[Zec] at I;rw[I] at J;cases J
 have nz:∀{Z:Prop},(0==0)=ab->Z:=λh=>by cases h
 exact⟨λ_=>⟨λ_=>⟨Zvg R,λb hb=>⟨λ_=>⟨Zvg R,λc hc=>by rw[hc];exact Zec _⟩,λh=>no hb h⟩⟩,λh=>nz h⟩,λh=>nz h⟩
theorem Z9h(s:List Nat) (k:Int):PureC E 3 [.str ab s,.int ab .i64 k] (.bool ab ac):=by
 refine Za E_ok (Zd E_ok Ygd 400) ?_;rw[Z9g];delta qEE1 qEE6 qEE2 qEE3 qEE4 qEE5 qEE7;refine⟨jU,λy h=>ifT h ⟨jU,λy hy=>⟨jU,λu hu=> ?_⟩⟩⟩;simp only[hJ,ir,fR,gg,fK,fC,ne_eq,gt_iff_lt];have sm:SmE u.1:=by rw[hu];exact Zmc s
 refine qB (P:=k<1\/6<k) ⟨λh=>⟨λ_=> .inl h,λ_=>rfl⟩,λh=>⟨λh'=>⟨λ_=> .inr h',λ_=>rfl⟩,λh'=>⟨(λe=>by cases e),λe=>by omega⟩⟩⟩ (λhp=>Zsz (by rw[hy];unfold Xc;rw[jQ hp])) (λhp=> ?_);have hg:y=if u.2.2≠0 then(zTE,u.2.2) else if u.1.for_≠k then(zTE,220) else if eckF u.1≠0 then(zTE,eckF u.1) else(u.1,0):=by
  rw[hy,hu];unfold Xc;rw[jG hp]
 refine qB (P:=u.2.2=0/\u.1.for_≠k) ⟨λh=>⟨λh'=>⟨λ_=>⟨h,h'⟩,λ_=>rfl⟩,λh'=>⟨(λe=>by cases e),λe=>kc h' e.2⟩⟩,λh=>⟨(λe=>by cases e),λe=>kc e.1 h⟩⟩ (λhq=>⟨sm,λp a0=>⟨sm,λc hc=>⟨sm,λd hd=>Zsz (by rw[hg,jG (λx=>x hq.1),jQ hq.2])⟩⟩⟩) (λhq=>⟨sm,λp a0=>⟨sm,λc hc=>⟨sm,λd hd=> ?_⟩⟩⟩);have hf:u.2.2=0->u.1.for_=k:=λh=>bv.1 λx=>hq ⟨h,x⟩;have he:eckF u.1=if p.2≠0 then p.2 else if c.2≠0 then c.2 else if chkB u.1≠0 then chkB u.1 else d.2:=by
  rw[a0,hc,hd];rfl
 have G:y=if u.2.2≠0 then(zTE,u.2.2) else if p.2≠0 then(zTE,p.2) else if c.2≠0 then(zTE,c.2) else if chkB u.1≠0 then(zTE,chkB u.1) else if d.2≠0 then(zTE,d.2) else(u.1,0):=by
  rw[hg];by_cases J:u.2.2≠0
  ·rw[jQ J,jQ J]
  ·rw[jG J,jG J,jG (λx=>x (hf (bv.1 J))),he]
   by_cases I:p.2≠0
   ·rw[jQ I,jQ I,jQ I]
   ·rw[jG I,jG I]
    by_cases R:c.2≠0
    ·rw[jQ R,jQ R,jQ R]
    ·rw[jG R,jG R]
     by_cases U:chkB u.1≠0
     ·rw[jQ U,jQ U,jQ U]
     ·rw[jG U,jG U]
 have B:u.2.2=0->p.2=0->c.2=0->chkB u.1=0->d.2=0->gdE2 k ac y u p:=λJ I R U h5=>by
  refine Yge sm (by rw[G,jG (λx=>x J),jG (λx=>x I),jG (λx=>x R),jG (λx=>x U),jG (λx=>x h5)]) ?_;rw[a0] at I;obtain⟨k1,k2,k3⟩:=Z6v I;have a1:eckF u.1=0:=by rw[he,jG (λx=>x (by rw[a0];exact I)),jG (λx=>x R),jG (λx=>x U)];exact h5
  have e:p.1=Vx (Zax u.1):=by rw[a0,k3]
  unfold Xc;rw[e,Zt0 k1 k2,jG hp,jG (λx=>x rfl),jG (λx=>x (hf J)),jG (λx=>x a1)]
 clear hg he hf hq hy a0 hc hd;clear hu
 repeat' (first|(refine aD (λh=> ?_) (λh=> ?_))|(refine aD sm (λb hb=> ?_)))
 all_goals(try subst hb)
 all_goals first
  |(exfalso;omega)
  |exact B (by omega) (by omega) (by omega) (by omega) (by omega)
  |(refine Zsz ?_;rw[G];simp only[*,ne_eq,iW,je,kG,kI])
end
section
open Go.ChangeShapes Go.WideShapes Go.ChangeAt Go.RowKit

theorem editionsGood_lifted(os:Os) (started:os.Started) (H:Type) (enc:TypeId×Value->H):
    ReturnsInHanded {} Tryz.checked os 3 .any (λw args=>(Rows.editionsGoodSpec.pre enc Tryz.prog Tryz.f3 [] ab w args/\laidMetH Tryz.prog Zkp w)/\sizedMet enc Tryz.prog Tryz.f3 (OpenSpec.ofChange Rows.editionsGoodSpec) ab w args)
      (Rows.editionsGoodSpec.post enc Tryz.prog Tryz.f3 ab ac ab ab):=by
  refine returnsInHanded_of_change_and (C:=Tryz.checked) (X:=λw _=>laidMetH Tryz.prog Zkp w) (λ_ _ _ hh h=>h.of_heap hh) Tryz.own started (by kernel_rfl) Tryz.func3
    (ChangeSpec.witness_shaped (enc:=enc) (C:=Tryz.checked) (os:=os) (X:=λw _=>laidMetH Tryz.prog Zkp w) ab (Zpw os) #[.string ⟨#[]⟩,.int .i64 0] 8 (Z3x os) (Z9u os _) (by kernel_rfl) (by kernel_rfl) (by kernel_rfl) (Z9v os _)) ?_
  intro W base args ds gs before hval0 hW _ hz hL _
  have hval:∀(j:Nat) t v,Tryz.f3.params[j]? =ae t->args[j]? =ae v->Value.okWide Tryz.prog W .any base t v:=hval0
  have hW':=hW
  obtain⟨p,q,hA0,hV,rfl,hfz,hnd⟩:=hW
  have hA:DataW.TrodAll enc Tryz.prog W 0 (λ_=>ac) ac Tryz.f3.params.toList args.toList ds p:=hA0
  rw[Tryz.params3] at hA hval hz
  obtain⟨v0,v1,d0,d1,p0,p1,rfl,rfl,rfl,h0,h1⟩:=trodAll_two hA
  obtain⟨rfl,rfl⟩:=trodVars_none hV
  obtain⟨tx,rfl,_,_,_⟩:=Go.ChangeMaps.open_string Tryz.underlying9 (hval 0 9 v0 rfl rfl) h0
  obtain⟨kd,rfl,_,hrkd,_⟩:=open_int Tryz.underlying3 (hval 1 3 v1 rfl rfl) h1
  refine(Z6m (Z9h (toL tx) kd) hL (Z6n (.str _ rfl) (Yob (.int _ _ _)))).mono λen W' ⟨hen,hw⟩=> ?_
  exact⟨_,hen,Z1t Tryz.laidOut rfl Tryz.underlying4 (by kernel_rfl) rfl hW' rfl rfl rfl hw⟩

end
section
open Go.ChangeShapes Go.WideShapes Go.ChangeAt Go.RowKit

theorem Zbi:(Rows.editionsGoodRow.inPlace==Tryz.prog.inPlace 3)=true:=by kernel_rfl
theorem U0:(Rows.editionsGoodRow.unfollowed==Tryz.prog.unfollowed 3)=true:=by kernel_rfl
theorem Zaq:(Rows.editionsGoodRow.recurses==Tryz.prog.recurses 3)=true:=by kernel_rfl
theorem Zdl:(Rows.editionsGoodRow.named==Tryz.prog.varsNamed 3)=true:=by kernel_rfl
theorem Zdm:joinedFacts Tryz.prog 3 Tryz.f3 Rows.editionsGoodSpec Rows.editionsGoodRow=true:=by
  unfold joinedFacts;rw[Zbi,U0,Zaq,Zdl]
  kernel_rfl
theorem Zet:Tryz.prog.funcNamed Rows.editionsGoodRow.func=ae 3:=by kernel_rfl
theorem editionsGood_holds:Rows.EditionsGoodSaid:=
  OpenClaim.holds_of_wide 3 Tryz.f3 rfl rfl rfl rfl rfl rfl rfl ⟨rfl,rfl,rfl,rfl,rfl⟩ rfl rfl rfl rfl rfl Zet Tryz.func3 Zdm
    (jg (by kernel_rfl)) (by unfold Func.isWrapper;first|(rw[jQ (by decide+kernel)];kernel_rfl)|(rw[jG (by decide+kernel)];exact⟨rfl,rfl⟩))
    (λos started H enc _=>editionsGood_lifted os started H enc)

end
end Go.Proofs.YtbkgpcknakidkaaGreatDoor
