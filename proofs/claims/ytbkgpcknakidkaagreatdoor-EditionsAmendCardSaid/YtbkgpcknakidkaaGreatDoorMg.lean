/- Merged texts: EdG, EdH, EdI, TpV, TcH, EdJ, EdL, EdK, EdM, EdX, EdYp, EdY, RowEditionsAmendA, RowEditionsAmendB. -/
import Derived.Test.YtbkgpcknakidkaaGreatDoorMf
open And renaming intro->aC
open Bool renaming and_eq_false_iff->bp,and_eq_true->aq,and_false->iQ,and_true->cI,false->ab,false_and->eP,false_eq_true->aN,not_eq_false'->bY,not_eq_true'->bj,or_eq_false_iff->bI,or_eq_true->bm,true->ac,true_and->cz,true_eq_false->aP,true_or->ec
open ByteArray renaming mk->dZ
open Decidable renaming byContradiction->iy,not_not->bB
open Go.ChangeMaps renaming open_string->ig
open Go.IntKind renaming i64->ag
open Go.Proofs.YtbkgpcknakidkaaGreatDoor.Cls renaming mk->eF,name->aK,pay->ay,when_->aT
open Go.Proofs.YtbkgpcknakidkaaGreatDoor.Ex renaming d0->bD,d1->bE,d2->bF,d3->bG,eta->gF,l->bw,mk->bV,n->bX,op->aM,sz->cW
open Go.Proofs.YtbkgpcknakidkaaGreatDoor.ItD renaming from_->fM,kind->fJ,number->ln
open Go.Proofs.YtbkgpcknakidkaaGreatDoor.Rep renaming item->dr
open Go.Proofs.YtbkgpcknakidkaaGreatDoor.Tar renaming clauses->ar,for_->aZ,mk->jV,name->ba
open Go.Proofs.YtbkgpcknakidkaaGreatDoor.Th renaming clauses->bA,ins->dF,ints->gh,reps->cN
open Go.Value renaming slice->aG
open Int renaming ofNat_eq_natCast->bZ,toNat->af,toNat_natCast->bk
open List renaming append_assoc->be,append_nil->cG,drop->cx,drop_drop->eS,drop_eq_nil_of_le->bL,drop_zero->dW,filter_append->fX,filter_cons->eW,getElem?_eq_getElem->ao,getElem?_eq_none->eG,getElem?_eq_some_iff->ai,length->aa,length_append->az,length_filter_le->dc,length_map->cK,length_take->bi,map_append->eC,map_cons->bQ,mem_append->cf,mem_cons->aH,mem_cons_of_mem->aI,mem_cons_self->bH,mem_filter->cM,mem_of_getElem?->aL,pairwise_cons->dh,set->dx,tail_cons->cw,take->aw,take_add_one->cA,take_length->aV,take_of_length_le->bh
open Nat renaming le_of_eq->iI,le_refl->av,le_trans->bS,lt_of_le_of_lt->jU,zero_add->bq,zero_le->aW
open Option renaming none->au,some->ae,toList_some->fS
open Prod renaming fst->ak,snd->aD
namespace Go.Proofs.YtbkgpcknakidkaaGreatDoor
set_option linter.unusedVariables false
set_option linter.unusedSimpArgs false
set_option linter.unnecessarySimpa false
set_option maxRecDepth 100000
section
open Go
structure EdX where
 k:Nat
 r:Nat
 L:List Rep
noncomputable def AedE:Fr thy->Hp thy->Nat->Ann thy:=λT h i=>{X:=Bool×EdX,fr:=λx=> [(1,T 1),(2,T 2),(6,match x.1 with|true=> .sl i 0 x.2.L.length 21 au|false=> .val (.slice au 0 0)),(10,T 10),(11,T 11),(12,.int ab .i64 x.2.k)],bl:=λx=>(match x.1 with|true=> [(i,.rows cN x.2.L 0)]|false=> []),src:=λx=>(match x.1 with|true=> [(i,6)]|false=> []),md:= [],ih:=i+1,M:=i+40,meas:=λx=>x.2.r,ex:=ex2,al:=al2,exOk:=Zgg,alOk:=Zgh}
noncomputable def FedE:Fns thy:=addL (addS F0 90 SsoE) 47 2 AedE E
theorem Yhy:FnsOk E FedE:=Zm E_ok (Zb F0_ok Yht) _ _ _
abbrev Zqf(R:Bool×EdX->Prop) (y:EdX) (J:Int) (kd:Int) (l:List Rep):Prop:=
 ∃(I:EdX),R (ab,I)/\I.2+1<=y.2/\ac=ac/\(J=J/\kd=kd/\False/\(l=l/\(ab=ac->ab=ac))/\(↑(aa l):Int)=
 (↑(aa l):Int)/\wr ag ((↑(EdX.k y):Int)+1)=(↑(EdX.k I):Int)/\True)/\True
abbrev Z47(x:Rep) (Q:Bool->Prop):Prop:=
 ((fJ (dr x)==11)=ac->Q ac)/\((fJ (dr x)==11)=ab->((fJ (dr x)==12)=ac->Q ac)/\((fJ
 (dr x)==12)=ab->((fJ (dr x)==13)=ac->Q ac)/\((fJ (dr x)==13)=ab->Q ab)))
abbrev Z48(R:Bool×EdX->Prop) (y:EdX) (J:Int) (kd:Int) (l:List Rep):Prop:=
 ∃(I:EdX),R (ab,I)/\I.2+1<=y.2/\ac=ac/\(J=J/\kd=kd/\aG au 0 0=aG au 0 0/\(l=
 l/\(ab=ac->ab=ac))/\(↑(aa l):Int)=(↑(aa l):Int)/\wr ag ((↑(EdX.k y):Int)+1)=(↑(EdX.k I):Int)/\True)/\True
abbrev Z49(I:Int) (kd:Int) (y:EdX) (J:EdX) (l:List Rep):Prop:=
 I=I/\kd=kd/\(0=0/\aa (EdX.L y)=aa (EdX.L J)/\True)/\(l=l/\(ab=ac->ab=ac))/\(↑(aa l):Int)=
 (↑(aa l):Int)/\wr ag ((↑(EdX.k y):Int)+1)=(↑(EdX.k J):Int)/\True
abbrev Z5a(x:Rep) (I:Int) (Q:Bool->Prop) (kd:Int):Prop:=
 ((RefD.rw_ (Rep.ref x) !=I)=ac->Q ac)/\((RefD.rw_ (Rep.ref x) !=I)=ab->((ln (dr x) !=kd)=ac->Q ac)/\((ln (dr x) !=kd)=
 ab->Q ab))
abbrev qDV1(I:List Rep):=(↑(aa I):Int)
abbrev qDV2(I:EdX):=(↑(EdX.k I):Int)
abbrev qDV3:=0
abbrev qDV4:=(ab=ac->ab=ac)
theorem Yay(l:List Rep) (J kd:Int) (v:List Rep):Zk E FedE (vc E FedE 400) 47 [.psl cN l ab,.int ab .i64 J,.int ab .i64 kd] hp0 0 (λr=>ret E (patch hp0 0 r) r.v (.psl cN v ab))=(
 ∃(R:Bool×EdX->Prop),((∃(y:EdX),R (ab,y)/\ac=ac/\(J=J/\kd=kd/\aG au qDV3 qDV3=aG au qDV3 qDV3/\(l=l/\qDV4)/\(qDV1 l)=(qDV1 l)/\0=(qDV2 y)/\True)/\True)\/∃(y:EdX),R (ac,y)/\ac=ac/\False)/\(∀(y:EdX),R (ab,y)->(decide ((qDV2 y)<(qDV1 l))=ac->0<=(qDV2 y)/\(qDV2 y)+1<=(qDV1 l)/\∀(x:Rep),l[af (qDV2 y)]? =ae x->∃(Q:Bool->Prop),(Z5a x J Q kd)/\(Q ac->(Z48 R y J kd l)\/∃(I:EdX),R (ac,I)/\I.2+1<=y.2/\ac=ac/\False)/\(Q ab->∃(Q:Bool->Prop),(Z47 x Q)/\(Q ac->(Zqf R y J kd l)\/∃(I:EdX),R (ac,I)/\I.2+1<=y.2/\ac=ac/\(J=J/\kd=kd/\(qDV3=qDV3/\1=aa (EdX.L I)/\True)/\(l=l/\qDV4)/\(qDV1 l)=(qDV1 l)/\wr ag ((qDV2 y)+1)=(qDV2 I)/\True)/\([x]=EdX.L I/\qDV3=qDV3)/\True)/\(Q ab->(Z48 R y J kd l)\/∃(I:EdX),R (ac,I)/\I.2+1<=y.2/\ac=ac/\False)))/\(decide ((qDV2 y)<(qDV1 l))=ab->v= []))/\∀(y:EdX),R (ac,y)->(decide ((qDV2 y)<(qDV1 l))=ac->0<=(qDV2 y)/\(qDV2 y)+1<=(qDV1 l)/\∀(x:Rep),l[af (qDV2 y)]? =ae x->∃(Q:Bool->Prop),(Z5a x J Q kd)/\(Q ac->(Zqf R y J kd l)\/∃(I:EdX),R (ac,I)/\I.2+1<=y.2/\ac=ac/\(Z49 J kd y I l)/\(EdX.L y=EdX.L I/\qDV3=qDV3)/\True)/\(Q ab->∃(Q:Bool->Prop),(Z47 x Q)/\(Q ac->(aa (EdX.L y)<=aa (EdX.L y)/\qDV3<=aa (EdX.L y)/\(aa (EdX.L y)+1)*192<=140737488355328)/\((Zqf R y J kd l)\/∃(I:EdX),R (ac,I)/\I.2+1<=y.2/\ac=ac/\(J=J/\kd=kd/\(qDV3=qDV3/\aa (EdX.L y)+1=aa (EdX.L I)/\True)/\(l=l/\qDV4)/\(qDV1 l)=(qDV1 l)/\wr ag ((qDV2 y)+1)=(qDV2 I)/\True)/\(aw (aa (EdX.L y)) (EdX.L y)++ [x]=EdX.L I/\qDV3=qDV3)/\True))/\(Q ab->(Zqf R y J kd l)\/∃(I:EdX),R (ac,I)/\I.2+1<=y.2/\ac=ac/\(Z49 J kd y I l)/\(EdX.L y=EdX.L I/\qDV3=qDV3)/\True)))/\(decide ((qDV2 y)<(qDV1 l))=ab->(aa (EdX.L y)=aa (EdX.L y)/\aa (EdX.L y)<=8)/\∀(U:List Rep),U=srtE (EdX.L y)->qDV3+aa (EdX.L y)<=aa U/\aw (aa (EdX.L y)) U=v)):=by kernel_rfl
theorem U4{f:Rep->Bool} {l:List Rep} {k:Nat} {x:Rep} (h:l[k]? =ae x):(l.take (k+1)).filter f=(l.take k).filter f++(if f x=ac then[x] else[]):=by
 rw[cA,h,fX,fS]
 congr 1
 cases e:f x<;>simp[e]
theorem qB{P:Prop} {J I:Prop} {A:(Bool->Prop)->Prop} (R:A λb=>b=ac↔P) (ht:P->J) (U:¬P->I):∃Q:Bool->Prop,A Q/\(Q ac->J)/\(Q ab->I):=
 ⟨_,R,λh=>ht (h.1 rfl),λh=>U λp=>by have:=h.2 p;cases this⟩
theorem edO_t{r k:Int} {x:Rep}:edO r k x=ac↔((x.ref.rw_=r/\x.item.number=k)/\(x.item.kind=11\/x.item.kind=12\/x.item.kind=13)):=by
 unfold edO;simp[or_assoc]
theorem Yaz{r k:Int} {x:Rep} (h:¬((x.ref.rw_=r/\x.item.number=k)/\(x.item.kind=11\/x.item.kind=12\/x.item.kind=13))):edO r k x=false:=by
 cases e:edO r k x with
 |false=>rfl
 |true=>exact ka (edO_t.1 e) h
theorem Ya0(l:List Rep) (a0 kd:Int) (h8:l.length<=8):PureC E 47 [.psl cN l ab,.int ab .i64 a0,.int ab .i64 kd] (.psl cN (edsF l a0 kd) ab):=by
 refine Za E_ok (Zd E_ok Yhy 400) ?_;rw[Yay];delta qDV1 qDV2 qDV3 qDV4;unfold Z5a Z49 Z48 Z47 Zqf;simp only[bk,fO,fG,true_and,and_true,ku,kK,false_and,and_false,or_false,false_or,exists_false,iz,gp,ij,fV,av,aW,bq,aV];refine⟨λp=>p.2.k<=l.length/\(match p.1 with|false=>(l.take p.2.k).filter (edO a0 kd)= []|true=>p.2.L=(l.take p.2.k).filter (edO a0 kd))/\p.2.r=l.length-p.2.k,⟨⟨0,l.length,[]⟩,⟨aW _,rfl,rfl⟩,rfl⟩,?_,?_⟩
 ·rintro y ⟨hk,J,hr⟩
  dsimp only at hk J hr;refine aC (λh=>⟨by omega,by omega,λx hx=> ?_⟩) (λh=> ?_)
  ·have U:y.k+1<=l.length:=by omega
   refine qB (P:=¬(x.ref.rw_=a0/\x.item.number=kd)) ⟨λh=>⟨λ_ I=>h I.1,λ_=>rfl⟩,λh=>⟨λI=>⟨λ_ R=>I R.2,λ_=>rfl⟩,λI=>⟨(λe=>by cases e),λR=>ka ⟨h,I⟩ R⟩⟩⟩ (λhp=> ?_) (λhp=> ?_)
   ·refine⟨⟨y.k+1,l.length-(y.k+1),[]⟩,⟨U,?_,rfl⟩,(by dsimp only;omega),wr64 (by omega) (by omega)⟩
    dsimp only;rw[U4 hx,J,Yaz λh=>hp h.1];rfl
   ·refine qB (P:=x.item.kind=11\/x.item.kind=12\/x.item.kind=13) ⟨λh=>⟨λ_=> .inl h,λ_=>rfl⟩,λh=>⟨λI=>⟨λ_=> .inr (.inl I),λ_=>rfl⟩,λI=>⟨λR=>⟨λ_=> .inr (.inr R),λ_=>rfl⟩,λR=>⟨(λe=>by cases e),λh4=>by omega⟩⟩⟩⟩ (λhq=> ?_) (λhq=> ?_)
    ·refine⟨⟨y.k+1,l.length-(y.k+1),[x]⟩,⟨U,?_,rfl⟩,(by dsimp only;omega),⟨rfl,wr64 (by omega) (by omega)⟩,rfl⟩
     dsimp only;rw[U4 hx,J,edO_t.2 ⟨bB.1 hp,hq⟩];rfl
    ·refine⟨⟨y.k+1,l.length-(y.k+1),[]⟩,⟨U,?_,rfl⟩,(by dsimp only;omega),wr64 (by omega) (by omega)⟩
     dsimp only;rw[U4 hx,J,Yaz λh=>hq h.2];rfl
  ·rw[bh (by omega)] at J
   unfold edsF;rw[J];rfl
 ·rintro y ⟨hk,J,hr⟩
  dsimp only at hk J hr;have hl:y.L.length<=8:=by
   have h1:=dc (edO a0 kd) (l.take y.k);rw[bi] at h1;rw[J];omega
  refine aC (λh=>⟨by omega,by omega,λx hx=> ?_⟩) (λh=> ?_)
  ·have U:y.k+1<=l.length:=by omega
   refine qB (P:=¬(x.ref.rw_=a0/\x.item.number=kd)) ⟨λh=>⟨λ_ I=>h I.1,λ_=>rfl⟩,λh=>⟨λI=>⟨λ_ R=>I R.2,λ_=>rfl⟩,λI=>⟨(λe=>by cases e),λR=>ka ⟨h,I⟩ R⟩⟩⟩ (λhp=> ?_) (λhp=> ?_)
   ·refine⟨⟨y.k+1,l.length-(y.k+1),y.L⟩,⟨U,?_,rfl⟩,(by dsimp only;omega),⟨rfl,wr64 (by omega) (by omega)⟩,rfl⟩
    dsimp only;rw[U4 hx,J,Yaz λh=>hp h.1];exact(cG _).symm
   ·refine qB (P:=x.item.kind=11\/x.item.kind=12\/x.item.kind=13) ⟨λh=>⟨λ_=> .inl h,λ_=>rfl⟩,λh=>⟨λI=>⟨λ_=> .inr (.inl I),λ_=>rfl⟩,λI=>⟨λR=>⟨λ_=> .inr (.inr R),λ_=>rfl⟩,λR=>⟨(λe=>by cases e),λh4=>by omega⟩⟩⟩⟩ (λhq=> ?_) (λhq=> ?_)
    ·refine⟨by omega,⟨y.k+1,l.length-(y.k+1),y.L++ [x]⟩,⟨U,?_,rfl⟩,(by dsimp only;omega),⟨(by dsimp only;rw[az];rfl),wr64 (by omega) (by omega)⟩,rfl⟩
     dsimp only;rw[U4 hx,J,edO_t.2 ⟨bB.1 hp,hq⟩];rfl
    ·refine⟨⟨y.k+1,l.length-(y.k+1),y.L⟩,⟨U,?_,rfl⟩,(by dsimp only;omega),⟨rfl,wr64 (by omega) (by omega)⟩,rfl⟩
     dsimp only;rw[U4 hx,J,Yaz λh=>hq h.2];exact(cG _).symm
  ·rw[bh (by omega)] at J
   refine⟨hl,λl' a1=> ?_⟩;have e:l'.length=y.L.length:=by rw[a1];exact(Zfk _).length_eq
   refine⟨by omega,?_⟩;rw[<-e,aV,a1,J];rfl
noncomputable def SedE:Sum thy:=Ws (.cons (Zfr (E:=E) cN:Dc E (List (thy.dom cN))) (.cons dN (.cons dN .nil))) (λx=>(show List Rep from x.1).length<=8) (λx=>edsF x.1 x.2.1 x.2.2.1) λy=> .psl cN y ab
theorem Z5b:SumOk E 47 SedE:=Z1 E_ok (Zc (f:=47) rfl) λx h=>Ya0 x.1 x.2.1 x.2.2.1 h
end
section
open Go
structure InX where
 k:Nat
 r:Nat
 t:Tar
 b:Bool
theorem Yj0:SumOk E 48 SamE:=Z1 E_ok (Zc (f:=48) rfl) λx h=>Zz7 x.1 x.2.1 h.1 h.2
noncomputable def AinE:Fr thy->Hp thy->Nat->Ann thy:=λT h i=>{X:=InX,fr:=λx=> [(2,T 2),(3,T 3),(8,T 8),(10,T 10),(11,.bool ab x.b),(33,T 33),(34,T 34),(35,.int ab .i64 x.k)],bl:=λx=>(bOf (T 10),.raw [.str ab x.t.name,.int ab .i64 x.t.for_,.psl bA x.t.clauses ab] 0 au)::blkP h (T 8),src:=λ_=> [],md:= [bOf (T 10)],ih:=i,M:=i+60,meas:=λx=>x.r}
noncomputable def FinE:Fns thy:=addL (addS (addS (addS (addS F0 47 SedE) 6 SgoE) 48 SamE) 23 SekE) 15 6 AinE E
theorem Yj1:FnsOk E FinE:=Zm E_ok (Zb (Zb (Zb (Zb F0_ok Z5b) Zt5) Yj0) Z6v) _ _ _
abbrev Zgo:Prop:=
 ([]:List Nat)= []/\(0:Int)=(0:Int)/\aG au (0:Nat) (0:Nat)=aG au (0:Nat) (0:Nat)/\True
abbrev Zrh(kd:Int) (at_:Int) (x:InX) (I:InX) (y:List Rep):Prop:=
 kd=kd/\at_=at_/\(0:Nat)=(0:Nat)/\(0:Nat)=(0:Nat)/\InX.b x=InX.b I/\(y=y/\(ab=ac->ab=ac))/\(↑(aa y):Int)=(↑(aa y)
 :Int)/\wr ag ((↑(InX.k x):Int)+(1:Int))=(↑(InX.k I):Int)/\True
abbrev Zfa(t:Tar):Prop:=
 []=ba t/\(0:Int)=aZ t/\ar t= []/\True
abbrev Zxn(x:InX) (I:InX):Prop:=
 ba (InX.t x)=ba (InX.t I)/\aZ (InX.t x)=aZ (InX.t I)/\(ar (InX.t x)=ar (InX.t I)/\(ab=ac->ab=ac))/\True
abbrev Z7v(x:InX) (t:Tar) (e:Int):Prop:=
 (!InX.b x)=ab->(ba (InX.t x)=ba t/\aZ (InX.t x)=aZ t/\(ar (InX.t x)=ar t/\(ab=ac->ab=ac))/\True)/\(0:
 Int)=e/\True
abbrev qDW1(I:List Rep):=(↑(aa I):Int)
abbrev qDW2:=(ab=ac->ab=ac)
abbrev qDW3(I:InX):=(↑(InX.k I):Int)
abbrev qDW6:=(0:Int)
abbrev qDW4(I:InX):=([]=ba (InX.t I)/\qDW6=aZ (InX.t I)/\ar (InX.t I)= []/\True)
abbrev qDW5:=(0:Nat)
abbrev qDW7:=(1:Int)
theorem Yc2(l:List Rep) (a1 kd at_:Int) (t:Tar) (e:Int):Zk E FinE (vc E FinE 400) 15 [.psl cN l ab,.int ab .i64 a1,.int ab .i64 kd,.int ab .i64 at_] hp0 0 (λr=>ret E (patch hp0 0 r) r.v (.tup [tarE t,.int ab .i64 e]))=(
 (decide (a1>=qDW6)=ac->(decide (a1<16)=ac->(decide (kd>=qDW7)=ac->(decide (kd<=6)=ac->(decide (at_<qDW6)=ac->(Zfa t)/\qDW7=e/\True)/\(decide (at_<qDW6)=ab->(decide (at_>1073741824)=ac->(Zfa t)/\qDW7=e/\True)/\(decide (at_>1073741824)=ab->aa (have this:=l;this)<=8/\∀(y:List Rep),y=edsF l a1 kd->∃(R:InX->Prop),(∃(x:InX),R x/\ac=ac/\(kd=kd/\at_=at_/\qDW5=qDW5/\qDW5=qDW5/\ab=InX.b x/\(y=y/\qDW2)/\(qDW1 y)=(qDW1 y)/\qDW6=(qDW3 x)/\True)/\(qDW4 x)/\(Zgo)/\True)/\∀(x:InX),R x->(decide ((qDW3 x)<(qDW1 y))=ac->qDW6<=(qDW3 x)/\(qDW3 x)+qDW7<=(qDW1 y)/\∀(J:Rep),y[af (qDW3 x)]? =ae J->(decide (fM (dr J)>at_)=ac->((!InX.b x)=ac->(Zfa t)/\220=e/\True)/\(Z7v x t e))/\(decide (fM (dr J)>at_)=ab->((fJ (dr J)==13)=ac->∃(I:InX),R I/\I.2+1<=x.2/\ac=ac/\(kd=kd/\at_=at_/\qDW5=qDW5/\qDW5=qDW5/\ab=InX.b I/\(y=y/\qDW2)/\(qDW1 y)=(qDW1 y)/\wr ag ((qDW3 x)+qDW7)=(qDW3 I)/\True)/\(qDW4 I)/\(Zgo)/\True)/\((fJ (dr J)==13)=ab->True/\∀(U:Tar×Int),U=Z0 (ItD.text (dr J)) kd->((aD U !=qDW6)=ac->∃(I:InX),R I/\I.2+1<=x.2/\ac=ac/\(Zrh kd at_ x I y)/\(Zxn x I)/\(Zgo)/\True)/\((aD U !=qDW6)=ab->((fJ (dr J)==11)=ac->∃(I:InX),R I/\I.2+1<=x.2/\ac=ac/\(kd=kd/\at_=at_/\qDW5=qDW5/\qDW5=qDW5/\ac=InX.b I/\(y=y/\qDW2)/\(qDW1 y)=(qDW1 y)/\wr ag ((qDW3 x)+qDW7)=(qDW3 I)/\True)/\(ba (ak U)=ba (InX.t I)/\aZ (ak U)=aZ (InX.t I)/\(ar (ak U)=ar (InX.t I)/\qDW2)/\True)/\(Zgo)/\True)/\((fJ (dr J)==11)=ab->(InX.b x=ac->(aa (ar (InX.t x))<=100000/\aa (ar (ak U))<=100000)/\∀(a0:Tar),a0=amF (InX.t x) (ak U)->((∀(c:Cls),c∈ar a0->cW (ay c)<=10000/\aa (aT c)+1<=1000000000)/\aa (ar a0)+1<=1000000000)/\∀(a2:Int),a2=eckF a0->((a2==qDW6)=ac->∃(I:InX),R I/\I.2+1<=x.2/\ac=ac/\(Zrh kd at_ x I y)/\(ba a0=ba (InX.t I)/\aZ a0=aZ (InX.t I)/\(ar a0=ar (InX.t I)/\qDW2)/\True)/\(Zgo)/\True)/\((a2==qDW6)=ab->∃(I:InX),R I/\I.2+1<=x.2/\ac=ac/\(Zrh kd at_ x I y)/\(Zxn x I)/\(Zgo)/\True))/\(InX.b x=ab->∃(I:InX),R I/\I.2+1<=x.2/\ac=ac/\(Zrh kd at_ x I y)/\(Zxn x I)/\(Zgo)/\True))))))/\(decide ((qDW3 x)<(qDW1 y))=ab->((!InX.b x)=ac->(Zfa t)/\220=e/\True)/\(Z7v x t e)))))/\(decide (kd<=6)=ab->(Zfa t)/\qDW7=e/\True))/\(decide (kd>=qDW7)=ab->(Zfa t)/\qDW7=e/\True))/\(decide (a1<16)=ab->(Zfa t)/\qDW7=e/\True))/\(decide (a1>=qDW6)=ab->(Zfa t)/\qDW7=e/\True)):=by kernel_rfl
theorem Z7w:∀(l:List Cls) (a:Bool) (m:List (List Nat×Bool)),goC a ac m l≠0
 | [],a,m=>by
  rw[goC]
  cases a<;>simp
 |c::r,a,m=>by
  rw[Zee]
  split
  ·rw[ec,ec];exact Z7w r _ _
  ·decide
theorem X6{t:Tar} (h:Z8 t=0):t.clauses.length<=64:=by
 unfold Z8 at h;split at h
 ·rename_i I
  apply iy;intro J;rw[jq (by omega:64<t.clauses.length)] at h;exact Z7w _ _ _ h
 ·cases h
theorem Yz{t:Tar} (h:eckF t=0):Z8 t=0:=by
 unfold eckF at h;split at h
 ·rename_i I;exact ka h I
 ·rename_i I
  apply iy;intro J;unfold X9 at I;rw[jM J] at I;exact I J
theorem Zco{s:List Nat} {k:Int} (h:(Z0 s k).2=0):eckF (Z0 s k).1=0:=by
 unfold Z0 at h⊢;split at h
 ·cases h
 ·rename_i R
  split at h
  ·rename_i J;exact ka h J
  ·rename_i J
   split at h
   ·cases h
   ·rename_i U
    split at h
    ·rename_i I;exact ka h I
    ·rename_i I
     rw[jJ R,jJ J,jJ U,jJ I];exact bB.1 I
theorem Zxo{I:Type}:∀{m:List (List Nat×I)} {a:List Nat} {v:I} {p:List Nat×I},p∈putS m a v->p.2=v\/p∈m
 | [],a,v,p,h=>by
  rw[putS] at h
  rw[List.mem_singleton.1 h]
  exact .inl rfl
 |q::m,a,v,p,h=>by
  rw[putS] at h
  split at h
  ·rcases aH.1 h with rfl|h
   ·exact .inl rfl
   ·exact .inr (aI _ h)
  ·rcases aH.1 h with rfl|h
   ·exact .inr (bH ..)
   ·exact(Zxo h).imp id (aI _)
theorem Zri:∀{l:List Cls} {m:List (List Nat×Cls)} {p:List Nat×Cls},p∈Uu m l->p.2∈l\/p∈m
 | [],m,p,h=> .inr h
 |c::r,m,p,h=>by
  rcases Zri (l:=r) (m:=putS m c.name c) h with h|h
  ·exact .inl (aI _ h)
  ·rcases Zxo h with h|h
   ·rw[h];exact .inl (bH ..)
   ·exact .inr h
theorem Zly{I:Type}:∀{m:List (List Nat×I)} {a:List Nat} {v:I},Zt m a=ae v->∃p∈m,p.2=v
 |q::m,a,v,h=>by
  rw[Zt] at h
  split at h
  ·cases h;exact⟨q,bH ..,rfl⟩
  ·obtain⟨p,J,e⟩:=Zly h
   exact⟨p,aI _ J,e⟩
theorem Zj5:∀{l:List Cls} {m:List (List Nat×Cls)} {c:Cls},c∈(Xu m l).1->c∈l\/∃p∈m,p.2=c
 |d::r,m,c,h=>by
  cases I:Zt m d.name with
  |none=>
   rw[Zch I] at h
   rcases aH.1 h with rfl|h
   ·exact .inl (bH ..)
   ·exact(Zj5 h).imp (aI _) id
  |some e=>
   rw[Zcg I] at h
   rcases aH.1 h with rfl|h
   ·exact .inr (Zly I)
   ·rcases Zj5 h with h|⟨p,J,e⟩
    ·exact .inl (aI _ h)
    ·exact .inr ⟨p,Zhg _ _ p J,e⟩
theorem Zuo{t a:Tar} {c:Cls} (h:c∈(amF t a).clauses):c∈t.clauses\/c∈a.clauses:=by
 rcases cf.1 (show c∈_++_ from h) with h|h
 ·rcases Zj5 h with h|⟨p,I,e⟩
  ·exact .inl h
  ·rcases Zri I with h|h
   ·exact .inr (e▸h)
   ·cases h
 ·exact .inr (cM.1 h).1
theorem Yj2(t a:Tar):(amF t a).clauses.length<=t.clauses.length+a.clauses.length:=by
 show(_++_:List Cls).length<=_;rw[az,Zjo];have:=dc (λc:Cls=>(Zt (Xu (Uu [] a.clauses) t.clauses).2 c.name).isSome) a.clauses;unfold Zbk;omega
noncomputable def inF(l:List Rep) (I kd at_:Int):Tar×Int:=
 if(0<=I/\I<16/\1<=kd/\kd<=6)/\0<=at_/\at_<=1073741824 then
  (if(rnE Z0 eckF amF kd at_ (edsF l I kd) (zTE,ab)).2=ac then((rnE Z0 eckF amF kd at_ (edsF l I kd) (zTE,ab)).1,0) else(zTE,220))
 else(zTE,1)
theorem Yc3(l:List Rep) (J kd at_:Int) (h8:l.length<=8):PureC E 15 [.psl cN l ab,.int ab .i64 J,.int ab .i64 kd,.int ab .i64 at_] (.tup [tarE (inF l J kd at_).1,.int ab .i64 (inF l J kd at_).2]):=by
 refine Za E_ok (Zd E_ok Yj1 400) ?_;rw[Yc2];delta qDW1 qDW2 qDW3 qDW6 qDW4 qDW5 qDW7;unfold Z7v Zxn Zfa Zrh Zgo;simp only[bk,fO,fG,true_and,and_true,ku,kK,false_and,and_false,or_false,false_or,exists_false,iz,gp,ij,fV,bj,bY];have a0:¬((0<=J/\J<16/\1<=kd/\kd<=6)/\0<=at_/\at_<=1073741824)->([]=(inF l J kd at_).1.name/\0=(inF l J kd at_).1.for_/\(inF l J kd at_).1.clauses= [])/\1=(inF l J kd at_).2:=λh=>by
  unfold inF;rw[jJ h];exact⟨⟨rfl,rfl,rfl⟩,rfl⟩
 refine aC (λh1=>aC (λh2=>aC (λh3=>aC (λh4=>aC (λh5=>a0 (by omega)) (λh5=>aC (λh6=>a0 (by omega)) (λh6=> ?_))) (λh4=>a0 (by omega))) (λh3=>a0 (by omega))) (λh2=>a0 (by omega))) (λh1=>a0 (by omega));refine⟨h8,λy hy=> ?_⟩;have a8:inF l J kd at_=if(rnE Z0 eckF amF kd at_ y (zTE,ab)).2=ac then((rnE Z0 eckF amF kd at_ y (zTE,ab)).1,0) else(zTE,220):=by
  unfold inF;rw[jM (by omega),hy]
 have b3:y.length<=8:=by
  rw[hy];exact bS (iI (Zfk _).length_eq) (bS (dc ..) h8)
 generalize inF l J kd at_=z at*;have b0:∀(t:Tar) (b:Bool),rnE Z0 eckF amF kd at_ y (zTE,ab)=(t,b)->(b=ab->([]=z.1.name/\0=z.1.for_/\z.1.clauses= [])/\220=z.2)/\(b=ac->(t.name=z.1.name/\t.for_=z.1.for_/\t.clauses=z.1.clauses)/\0=z.2):=by
  intro t b e;rw[e] at a8;refine⟨λR=> ?_,λR=> ?_⟩
  ·rw[a8,R];exact⟨⟨rfl,rfl,rfl⟩,rfl⟩
  ·rw[a8,R];exact⟨⟨rfl,rfl,rfl⟩,rfl⟩
 refine⟨λx=>x.k<=y.length/\rnE Z0 eckF amF kd at_ (y.drop x.k) (x.t,x.b)=rnE Z0 eckF amF kd at_ y (zTE,ab)/\(∀c∈x.t.clauses,c.pay.sz<=10000/\c.when_.length+1<=1000000000)/\x.t.clauses.length<=64/\x.r=y.length-x.k,⟨⟨0,y.length,zTE,ab⟩,⟨aW _,rfl,(λc U=>by cases U),aW _,rfl⟩,⟨rfl,rfl⟩,rfl,rfl,rfl⟩,?_⟩;rintro x ⟨hk,I,a3,a9,hr⟩;refine aC (λh=>⟨by omega,by omega,λw hw=> ?_⟩) (λh=> ?_)
 ·rw[Z4 hw,rnE] at I
  have a1:x.k+1<=y.length:=by omega
  refine aC (λb2=> ?_) (λb2=> ?_)
  ·rw[jM (by omega)] at I
   exact b0 x.t x.b I.symm
  ·rw[jJ (by omega)] at I
   unfold stE at I;refine aC (λa7=> ?_) (λa7=> ?_)
   ·rw[jM a7] at I
    exact⟨⟨x.k+1,y.length-(x.k+1),zTE,ab⟩,⟨a1,I,(λc U=>by cases U),aW _,rfl⟩,(by dsimp only;omega),⟨rfl,wr64 (by omega) (by omega)⟩,rfl,rfl,rfl⟩
   ·rw[jJ a7] at I
    intro g hg;rw[<-hg] at I;refine aC (λa2=> ?_) (λa2=> ?_)
    ·rw[jM a2] at I
     exact⟨⟨x.k+1,y.length-(x.k+1),x.t,x.b⟩,⟨a1,I,a3,a9,rfl⟩,(by dsimp only;omega),⟨rfl,wr64 (by omega) (by omega)⟩,rfl,rfl,rfl⟩
    ·rw[jJ (λh=>h a2)] at I
     have a5:SmE g.1:=by rw[hg];exact Zjt _ _
     have b1:g.1.clauses.length<=64:=by rw[hg] at a2⊢;exact X6 (Yz (Zco a2))
     refine aC (λa6=> ?_) (λa6=> ?_)
     ·rw[jM a6] at I
      exact⟨⟨x.k+1,y.length-(x.k+1),g.1,ac⟩,⟨a1,I,a5.1,b1,rfl⟩,(by dsimp only;omega),⟨rfl,wr64 (by omega) (by omega)⟩,rfl,rfl,rfl⟩
     ·rw[jJ a6] at I
      refine aC (λR=> ?_) (λR=> ?_)
      ·rw[R] at I
       dsimp only at I;rw[jM rfl] at I;refine⟨⟨by omega,by omega⟩,λm hm=>⟨⟨λc U=> ?_,?_⟩,λq hq=> ?_⟩⟩
       ·rw[hm] at U
        rcases Zuo U with h|h
        ·exact a3 c h
        ·exact a5.1 c h
       ·have:=Yj2 x.t g.1
        rw[hm];omega
       ·rw[<-hm] at I
        rw[<-hq] at I;refine aC (λa4=> ?_) (λa4=> ?_)
        ·rw[jM a4] at I
         refine⟨⟨x.k+1,y.length-(x.k+1),m,x.b⟩,⟨a1,(by dsimp only;rw[R];exact I),(λc U=> ?_),X6 (Yz (by rw[<-hq];exact a4)),rfl⟩,(by dsimp only;omega),⟨rfl,wr64 (by omega) (by omega)⟩,rfl,rfl,rfl⟩;rw[hm] at U;rcases Zuo U with h|h
         ·exact a3 c h
         ·exact a5.1 c h
        ·rw[jJ a4] at I
         exact⟨⟨x.k+1,y.length-(x.k+1),x.t,x.b⟩,⟨a1,(by dsimp only;rw[R];exact I),a3,a9,rfl⟩,(by dsimp only;omega),⟨rfl,wr64 (by omega) (by omega)⟩,rfl,rfl,rfl⟩
      ·rw[R] at I
       dsimp only at I;rw[jJ (by decide)] at I;exact⟨⟨x.k+1,y.length-(x.k+1),x.t,x.b⟩,⟨a1,(by dsimp only;rw[R];exact I),a3,a9,rfl⟩,(by dsimp only;omega),⟨rfl,wr64 (by omega) (by omega)⟩,rfl,rfl,rfl⟩
 ·rw[bL (by omega)] at I
  exact b0 x.t x.b I.symm
theorem Zrj{s:List Nat} {k:Int} (h:(Z0 s k).2=0):(Z0 s k).1.for_=k:=by
 unfold Z0 at h⊢;split at h
 ·cases h
 ·rename_i U
  split at h
  ·rename_i I;exact ka h I
  ·rename_i I
   split at h
   ·cases h
   ·rename_i R
    split at h
    ·rename_i J;exact ka h J
    ·rename_i J
     rw[jJ U,jJ I,jJ R,jJ J];exact bB.1 R
def GdT(k:Int) (s:Tar×Bool):Prop:=SmE s.1/\s.1.clauses.length<=64/\(s.2=ac->eckF s.1=0/\s.1.for_=k)
theorem Ypu{k:Int} {s:Tar×Bool} {x:Rep} (h:GdT k s):GdT k (stE Z0 eckF amF k s x):=by
 unfold stE;split
 ·exact⟨Zbn,aW _,(λe=>by cases e)⟩
 ·split
  ·exact h
  ·rename_i J
   have J:=bB.1 J;split
   ·exact⟨Zjt _ _,X6 (Yz (Zco J)),λ_=>⟨Zco J,Zrj J⟩⟩
   ·split
    ·rename_i U
     split
     ·rename_i R
      refine⟨⟨λc I=> ?_,?_⟩,X6 (Yz R),λ_=>⟨R,(h.2.2 U).2⟩⟩
      ·rcases Zuo I with I|I
       ·exact h.1.1 c I
       ·exact(Zjt _ _).1 c I
      ·have:=X6 (Yz R)
       exact jU this (by decide)
     ·exact h
    ·exact h
theorem Ynz{k t:Int}:∀{l:List Rep} {s:Tar×Bool},GdT k s->GdT k (rnE Z0 eckF amF k t l s)
 | [],s,h=>h
 |x::r,s,h=>by
  rw[rnE]
  split
  ·exact h
  ·exact Ynz (Ypu h)
theorem Zxp(l:List Rep) (I kd at_:Int):SmE (inF l I kd at_).1/\(inF l I kd at_).1.clauses.length<=64/\((inF l I kd at_).2=0->eckF (inF l I kd at_).1=0/\(inF l I kd at_).1.for_=kd)/\((inF l I kd at_).2≠0->(inF l I kd at_).1=zTE):=by
 have h:GdT kd (rnE Z0 eckF amF kd at_ (edsF l I kd) (zTE,ab)):=Ynz ⟨Zbn,aW _,(λe=>by cases e)⟩;unfold inF;split
 ·split
  ·rename_i J
   exact⟨h.1,h.2.1,λ_=>h.2.2 J,λe=>ka rfl e⟩
  ·exact⟨Zbn,aW _,(λe=>by cases e),λ_=>rfl⟩
 ·exact⟨Zbn,aW _,(λe=>by cases e),λ_=>rfl⟩
noncomputable def dInE:DcL E (List Rep×Int×Int×Int×Unit):= .cons (Zfr (E:=E) cN:Dc E (List (thy.dom cN))) (.cons dN (.cons dN (.cons dN .nil)))
end
section
open Go
structure CpE where
 L:List Int
 i:Int
 j:Int
 r:Nat
def blkI(v:SV thy) (L:List Int):List (Nat×Blk thy):= [(bOf v,.rows gh L 0)]
def Yok:Fr thy->Hp thy->Nat->Ann thy:=λT h i=>{X:=CpE,fr:=λx=> [(0,T 0),(3,.int ab .i64 x.i)],bl:=λx=>blkI (T 0) x.L,src:=λ_=> [],md:= [bOf (T 0)],ih:=i,M:=i+30,meas:=λx=>x.r}
def Yol:Fr thy->Hp thy->Nat->Ann thy:=λT h i=>{X:=CpE,fr:=λx=> [(0,T 0),(3,.int ab .i64 x.i),(4,T 4),(5,.int ab .i64 x.j)],bl:=λx=>blkI (T 0) x.L,src:=λ_=> [],md:= [bOf (T 0)],ih:=i,M:=i+30,meas:=λx=>x.r}
def AchE:Fr thy->Hp thy->Nat->Ann thy:=λT h i=>{X:=Bool×CpE,fr:=λx=> [(6,match x.1 with|true=> .sl i 0 x.2.L.length 1 au|false=> .val (.slice au 0 0)),(17,T 17),(18,T 18),(19,.int ab .i64 x.2.i)],bl:=λx=>(match x.1 with|true=> [(i,.rows gh x.2.L 0)]|false=> []),src:=λx=>(match x.1 with|true=> [(i,6)]|false=> []),md:= [],ih:=i+1,M:=i+40,meas:=λx=>x.2.r,ex:=ex2,al:=al2,exOk:=Zgg,alOk:=Zgh}
noncomputable def FchE:Fns thy:=addL (addL (addL (addS F0 47 SedE) 49 4 Yok E) 49 9 Yol E) 22 4 AchE E
theorem Yfw:FnsOk E FchE:=Zm E_ok (Zm E_ok (Zm E_ok (Zb F0_ok Z5b) _ _ _) _ _ _) _ _ _
abbrev qDX2:=(0:Nat)
abbrev qDX1(I:CpE):=(qDX2=qDX2/\aa (CpE.L I)=aa (CpE.L I)/\True)
abbrev qDX3(I:CpE):=(↑(aa (CpE.L I)):Int)
abbrev qDXe:=(1:Nat)
abbrev qDXa:=(1:Int)
abbrev qDX9:=(ab=ac->ab=ac)
abbrev qDX7(I:List Rep):=(↑(aa I):Int)
abbrev qDX4(U:Bool×CpE->Prop) (R:CpE) (I:List Rep):=(∃(J:CpE),U (ab,J)/\J.4+qDXe<=R.4/\ac=ac/\(False/\(I=I/\qDX9)/\(qDX7 I)=(qDX7 I)/\wr ag (CpE.i R+qDXa)=CpE.i J/\True)/\True)
abbrev qDXd:=(0:Int)
abbrev qDXg(I:CpE) (J:CpE):=(qDXd<=CpE.i I/\CpE.i I<=(qDX3 J))
abbrev qDXh(I:CpE):=(qDX2+af (CpE.i I))
abbrev qDX5(I:CpE) (J:CpE) (R:List Int):=(decide (CpE.i I<(qDX3 J))=ac->(qDX2<=qDX2+af (CpE.i I)/\qDX2+af (CpE.i I)<=aa (CpE.L I))/\(qDXg I J)/\qDX2+af (CpE.i I)<=aa (aw (qDXh I) (CpE.L I))/\aw (af (CpE.i I)) (aw (qDXh I) (CpE.L I))=R)
abbrev qDX6(I:CpE) (J:CpE):=(qDX2+af (CpE.i I)=qDX2+af (CpE.i I)/\aa (CpE.L J)-af (CpE.i I)=aa (CpE.L J)-af (CpE.i I)/\True)
abbrev qDX8(I:Rep) (J:Bool->Prop):=((decide (fM (dr I)>=qDXd)=ac->(decide (fM (dr I)<=(1073741824:Int))=ac->J ac)/\(decide (fM (dr I)<=(1073741824:Int))=ab->J ab))/\(decide (fM (dr I)>=qDXd)=ab->J ab))
abbrev qDXb(I:CpE) (J:CpE):=(↑(aa (CpE.L I)-af (CpE.i J)):Int)
abbrev qDXc(I:CpE) (J:CpE):=(CpE.L I=CpE.L J/\qDX2=qDX2)
abbrev qDXf:=([]:List Int)
theorem Z9f(l:List Rep) (a4 kd:Int) (v:List Int):Zk E FchE (vc E FchE 400) 22 [.psl cN l ab,.int ab .i64 a4,.int ab .i64 kd] hp0 0 (λr=>ret E (patch hp0 0 r) r.v (.psl gh v ab))=(
 (decide (a4>=qDXd)=ac->(decide (a4<16)=ac->(decide (kd>=qDXa)=ac->(decide (kd<=6)=ac->aa (have this:=l;this)<=8/\∀(y:List Rep),y=edsF l a4 kd->∃(R:Bool×CpE->Prop),((∃(I:CpE),R (ab,I)/\ac=ac/\(aG au qDX2 qDX2=aG au qDX2 qDX2/\(y=y/\qDX9)/\(qDX7 y)=(qDX7 y)/\qDXd=CpE.i I/\True)/\True)\/∃(y:CpE),R (ac,y)/\ac=ac/\False)/\(∀(I:CpE),R (ab,I)->(decide (CpE.i I<(qDX7 y))=ac->qDXd<=CpE.i I/\CpE.i I+qDXa<=(qDX7 y)/\∀(x:Rep),y[af (CpE.i I)]? =ae x->∃(Q:Bool->Prop),(qDX8 x Q)/\(Q ac->(qDX4 R I y)\/∃(U:CpE),R (ac,U)/\U.4+qDXe<=I.4/\ac=ac/\((qDX2=qDX2/\qDXe=aa (CpE.L U)/\True)/\(y=y/\qDX9)/\(qDX7 y)=(qDX7 y)/\wr ag (CpE.i I+qDXa)=CpE.i U/\True)/\([fM (dr x)]=CpE.L U/\qDX2=qDX2)/\True)/\(Q ab->(∃(U:CpE),R (ab,U)/\U.4+qDXe<=I.4/\ac=ac/\(aG au qDX2 qDX2=aG au qDX2 qDX2/\(y=y/\qDX9)/\(qDX7 y)=(qDX7 y)/\wr ag (CpE.i I+qDXa)=CpE.i U/\True)/\True)\/∃(y:CpE),R (ac,y)/\y.4+qDXe<=I.4/\ac=ac/\False))/\(decide (CpE.i I<(qDX7 y))=ab->v= []))/\∀(I:CpE),R (ac,I)->(decide (CpE.i I<(qDX7 y))=ac->qDXd<=CpE.i I/\CpE.i I+qDXa<=(qDX7 y)/\∀(x:Rep),y[af (CpE.i I)]? =ae x->∃(Q:Bool->Prop),(qDX8 x Q)/\(Q ac->(aa (CpE.L I)<=aa (CpE.L I)/\qDX2<=aa (CpE.L I)/\(aa (CpE.L I)+qDXe)*8<=140737488355328)/\((qDX4 R I y)\/∃(U:CpE),R (ac,U)/\U.4+qDXe<=I.4/\ac=ac/\((qDX2=qDX2/\aa (CpE.L I)+qDXe=aa (CpE.L U)/\True)/\(y=y/\qDX9)/\(qDX7 y)=(qDX7 y)/\wr ag (CpE.i I+qDXa)=CpE.i U/\True)/\(aw (aa (CpE.L I)) (CpE.L I)++ [fM (dr x)]=CpE.L U/\qDX2=qDX2)/\True))/\(Q ab->(qDX4 R I y)\/∃(U:CpE),R (ac,U)/\U.4+qDXe<=I.4/\ac=ac/\((qDX2=qDX2/\aa (CpE.L I)=aa (CpE.L U)/\True)/\(y=y/\qDX9)/\(qDX7 y)=(qDX7 y)/\wr ag (CpE.i I+qDXa)=CpE.i U/\True)/\(qDXc I U)/\True))/\(decide (CpE.i I<(qDX7 y))=ab->(decide ((qDX3 I)<2)=ac->qDX2+aa (CpE.L I)<=aa (CpE.L I)/\aw (aa (CpE.L I)) (CpE.L I)=v)/\(decide ((qDX3 I)<2)=ab->∃(R:CpE->Prop),(∃(x:CpE),R x/\ac=ac/\((qDX1 I)/\qDXa=CpE.i x/\True)/\(qDXc I x)/\True)/\∀(x:CpE),R x->(decide (CpE.i x<(qDX3 I))=ac->(qDXd<=CpE.i x/\CpE.i x+qDXa<=(qDX3 I))/\qDX2+af (CpE.i x)+qDXe<=aa (CpE.L x)/\∀(a6:Int),(CpE.L x)[qDX2+af (CpE.i x)]? =ae a6->(qDXd<=wr ag (CpE.i x-qDXa)/\wr ag (CpE.i x-qDXa)+qDXa<=(qDX3 I))/\qDX2+af (wr ag (CpE.i x-qDXa))+qDXe<=aa (CpE.L x)/\∀(a7:Int),(CpE.L x)[qDX2+af (wr ag (CpE.i x-qDXa))]? =ae a7->((a6==a7)=ac->(qDXg x I)/\(decide (CpE.i x<(qDX3 I))=ac->∃(R:CpE->Prop),(∃(J:CpE),R J/\ac=ac/\((qDX1 I)/\CpE.i x=CpE.i J/\(qDX6 x I)/\qDXa=CpE.j J/\True)/\(qDXc x J)/\True)/\∀(J:CpE),R J->(decide (CpE.j J<(qDXb I x))=ac->(qDXd<=CpE.j J/\CpE.j J+qDXa<=(qDXb I x))/\qDX2+af (CpE.i x)+af (CpE.j J)+qDXe<=aa (CpE.L J)/\∀(a2:Int),(CpE.L J)[qDX2+af (CpE.i x)+af (CpE.j J)]? =ae a2->(qDXd<=wr ag (CpE.j J-qDXa)/\wr ag (CpE.j J-qDXa)+qDXa<=(qDXb I x))/\qDX2+af (CpE.i x)+af (wr ag (CpE.j J-qDXa))+qDXe<=
aa (CpE.L J)/\∀(a0:Int),(CpE.L J)[qDX2+af (CpE.i x)+af (wr ag (CpE.j J-qDXa))]? =ae a0->((a2 !=a0)=ac->(qDXd<=CpE.j J/\CpE.j J+qDXa<=(qDXb I x))/\qDX2+af (CpE.i x)+af (CpE.j J)+qDXe<=aa (CpE.L J)/\∀(a1:Int),(CpE.L J)[qDX2+af (CpE.i x)+af (CpE.j J)]? =ae a1->(qDXd<=CpE.i J/\CpE.i J+qDXa<=(qDX3 I))/\qDX2<=qDX2+af (CpE.i J)/\qDX2+af (CpE.i J)+qDXe<=aa (CpE.L J)/\∀(a3:Int),(CpE.L J)[qDX2+af (CpE.i J)]? =ae a3->∃(a5:CpE),R a5/\a5.4+qDXe<=J.4/\ac=ac/\((qDX1 I)/\wr ag (CpE.i J+qDXa)=CpE.i a5/\(qDX6 x I)/\wr ag (CpE.j J+qDXa)=CpE.j a5/\True)/\(dx (CpE.L J) (qDXh J) a1=CpE.L a5/\qDX2=qDX2)/\True)/\((a2 !=a0)=ab->∃(a1:CpE),R a1/\a1.4+qDXe<=J.4/\ac=ac/\((qDX1 I)/\CpE.i J=CpE.i a1/\(qDX6 x I)/\wr ag (CpE.j J+qDXa)=CpE.j a1/\True)/\(qDXc J a1)/\True))/\(decide (CpE.j J<(qDXb I x))=ab->(qDXg J I)/\(qDX5 J I v)/\(decide (CpE.i J<(qDX3 I))=ab->False)))/\(decide (CpE.i x<(qDX3 I))=ab->∃(R:CpE->Prop),(∃(J:CpE),R J/\ac=ac/\((qDX1 I)/\CpE.i x=CpE.i J/\(qDXf= []/\qDX9)/\qDXa=CpE.j J/\True)/\(qDXc x J)/\True)/\∀(x:CpE),R x->(decide (CpE.j x<(↑qDX2:Int))=ac->qDXd<=CpE.j x/\CpE.j x+qDXa<=(↑qDX2:Int)/\∀(J:Int),qDXf[af (CpE.j x)]? =ae J->qDXd<=wr ag (CpE.j x-qDXa)/\wr ag (CpE.j x-qDXa)+qDXa<=(↑qDX2:Int)/\∀(a2:Int),qDXf[af (wr ag (CpE.j x-qDXa))]? =ae a2->((J !=a2)=ac->qDXd<=CpE.j x/\CpE.j x+qDXa<=(↑qDX2:Int)/\∀(a0:Int),qDXf[af (CpE.j x)]? =ae a0->(qDXd<=CpE.i x/\CpE.i x+qDXa<=(qDX3 I))/\qDX2<=qDX2+af (CpE.i x)/\qDX2+af (CpE.i x)+qDXe<=aa (CpE.L x)/\∀(a1:Int),(CpE.L x)[qDX2+af (CpE.i x)]? =ae a1->∃(a3:CpE),R a3/\a3.4+qDXe<=x.4/\ac=ac/\((qDX1 I)/\wr ag (CpE.i x+qDXa)=CpE.i a3/\(qDXf= []/\qDX9)/\wr ag (CpE.j x+qDXa)=CpE.j a3/\True)/\(dx (CpE.L x) (qDXh x) a0=CpE.L a3/\qDX2=qDX2)/\True)/\((J !=a2)=ab->∃(a0:CpE),R a0/\a0.4+qDXe<=x.4/\ac=ac/\((qDX1 I)/\CpE.i x=CpE.i a0/\(qDXf= []/\qDX9)/\wr ag (CpE.j x+qDXa)=CpE.j a0/\True)/\(qDXc x a0)/\True))/\(decide (CpE.j x<(↑qDX2:Int))=ab->(qDXg x I)/\(qDX5 x I v)/\(decide (CpE.i x<(qDX3 I))=ab->False))))/\((a6==a7)=ab->∃(J:CpE),R J/\J.4+qDXe<=x.4/\ac=ac/\((qDX1 I)/\wr ag (CpE.i x+qDXa)=CpE.i J/\True)/\(qDXc x J)/\True))/\(decide (CpE.i x<(qDX3 I))=ab->qDX2+aa (CpE.L I)<=aa (CpE.L x)/\aw (aa (CpE.L I)) (CpE.L x)=v))))/\(decide (kd<=6)=ab->v= []))/\(decide (kd>=qDXa)=ab->v= []))/\(decide (a4<16)=ab->v= []))/\(decide (a4>=qDXd)=ab->v= [])):=by kernel_rfl
def Va:List Int->List Int
 | []=> []
 | [a]=> [a]
 |a::b::r=>if a=b then Va (b::r) else a::Va (b::r)
theorem Zfu:∀(a:Int) (r:List Int),Va (a::r)=a::(Va (a::r)).tail
 |a,[]=>rfl
 |a,b::r=>by
  rw[Va]
  split
  ·rename_i h;subst h;exact Zfu a r
  ·rfl
theorem Zvv{a:Int} {r:List Int}:Va (a::a::r)=Va (a::r):=by rw[Va,jM rfl]
theorem Zvw{a b:Int} {r:List Int} (h:a≠b):Va (a::b::r)=a::Va (b::r):=by rw[Va,jJ h]
theorem Zsl{l:List Int} (h:l.length<2):Va l=l:=by
 match l,h with
 | [],_=>rfl
 | [a],_=>rfl
 |a::b::r,h=>simp at h;omega
theorem Z20{α:Type} {l m:List α} {d k:Nat} (h:l.drop d=m.drop d) (I:d<=k):l[k]? =m[k]? :=by
 have:=kk (λx:List α=>x[k-d]?) h;simp only[List.getElem?_drop] at this
 rwa[show d+(k-d)=k by omega] at this
theorem Zpd{α:Type} {l m:List α} {d k:Nat} (h:l.drop d=m.drop d) (I:d<=k):l.drop k=m.drop k:=by
 have:=kk (cx (k-d)) h
 rwa[eS,eS,show d+(k-d)=k by omega] at this
def rngB(n:Int):Bool:=decide (0<=n)&&decide (n<=1073741824)
def frmF(y:List Rep):List Int:=(y.map λx=>x.item.from_).filter rngB
theorem Zg8{y:List Rep} {k:Nat} {x:Rep} (h:y[k]? =ae x):frmF (y.take (k+1))=frmF (y.take k)++(if rngB x.item.from_=ac then[x.item.from_] else[]):=by
 unfold frmF;rw[cA,h,eC,fX,fS]
 congr 1
 cases e:rngB x.item.from_<;>simp[e]
theorem rngB_t{n:Int}:rngB n=ac↔(0<=n/\n<=1073741824):=by unfold rngB;simp
theorem Ydw{n:Int} (h:¬(0<=n/\n<=1073741824)):rngB n=false:=by
 cases e:rngB n with
 |false=>rfl
 |true=>exact ka (rngB_t.1 e) h
noncomputable def chgF(l:List Rep) (I kd:Int):List Int:=if 0<=I/\I<16/\1<=kd/\kd<=6 then Va (frmF (edsF l I kd)) else[]
theorem Z9g(y:List Rep):(frmF y).length<=y.length:=by
 have:=dc rngB (y.map λx=>x.item.from_);rw[cK] at this;exact this
theorem Z9h(l:List Rep) (a2 kd:Int) (h8:l.length<=8):PureC E 22 [.psl cN l ab,.int ab .i64 a2,.int ab .i64 kd] (.psl gh (chgF l a2 kd) ab):=by
 refine Za E_ok (Zd E_ok Yfw 400) ?_;rw[Z9f];delta qDX2 qDX1 qDX3 qDXe qDXa qDX9 qDX7 qDX4 qDXd qDXg qDXh qDX5 qDX6 qDX8 qDXb qDXc qDXf;simp only[bk,fO,fG,true_and,and_true,ku,kK,false_and,and_false,or_false,false_or,exists_false,iz,gp,ij,fV,av,aW,bq,aV];have a4:¬(0<=a2/\a2<16/\1<=kd/\kd<=6)->chgF l a2 kd= []:=λh=>jJ h
 refine aC (λh1=>aC (λJ=>aC (λh3=>aC (λh4=> ?_) (λh4=>a4 (by omega))) (λh3=>a4 (by omega))) (λJ=>a4 (by omega))) (λh1=>a4 (by omega));refine⟨h8,λy hy=> ?_⟩;have a9:chgF l a2 kd=Va (frmF y):=by rw[hy];exact jM (by omega)
 have b9:y.length<=8:=by
  rw[hy];exact bS (iI (Zfk _).length_eq) (bS (dc ..) h8)
 rw[a9];refine⟨λp=>∃k:Nat,p.2.i=k/\k<=y.length/\(match p.1 with|false=>frmF (y.take k)= []|true=>p.2.L=frmF (y.take k))/\p.2.r=y.length-k,⟨⟨[],0,0,y.length⟩,⟨0,rfl,aW _,rfl,rfl⟩,rfl⟩,?_,?_⟩
 ·rintro x ⟨k,hi,hk,I,hr⟩
  dsimp only at hi hk I hr;refine aC (λh=>⟨by omega,by omega,λw U=> ?_⟩) (λh=> ?_)
  ·have a1:k+1<=y.length:=by omega
   rw[hi,bk] at U;refine qB (P:=0<=w.item.from_/\w.item.from_<=1073741824) ⟨λh=>⟨λJ=>⟨λ_=>⟨by omega,by omega⟩,λ_=>rfl⟩,λJ=>⟨(λe=>by cases e),λh3=>by omega⟩⟩,λh=>⟨(λe=>by cases e),λh3=>by omega⟩⟩ (λR=> ?_) (λR=> ?_)
   ·refine⟨⟨[w.item.from_],k+1,0,y.length-(k+1)⟩,⟨k+1,rfl,a1,?_,rfl⟩,(by dsimp only;omega),⟨rfl,(by rw[hi];exact wrs (by omega) (by omega))⟩,rfl⟩
    dsimp only;rw[Zg8 U,I,rngB_t.2 R];rfl
   ·refine⟨⟨[],k+1,0,y.length-(k+1)⟩,⟨k+1,rfl,a1,?_,rfl⟩,(by dsimp only;omega),(by rw[hi];exact wrs (by omega) (by omega))⟩
    dsimp only;rw[Zg8 U,I,Ydw R];rfl
  ·rw[bh (by omega)] at I
   rw[I];rfl
 ·rintro x ⟨k,hi,hk,I,hr⟩
  dsimp only at hi hk I hr;have b1:x.L.length<=8:=by
   have:=Z9g (y.take k);rw[bi] at this;rw[I];omega
  refine aC (λh=>⟨by omega,by omega,λw U=> ?_⟩) (λh=> ?_)
  ·have a1:k+1<=y.length:=by omega
   rw[hi,bk] at U;refine qB (P:=0<=w.item.from_/\w.item.from_<=1073741824) ⟨λh=>⟨λJ=>⟨λ_=>⟨by omega,by omega⟩,λ_=>rfl⟩,λJ=>⟨(λe=>by cases e),λh3=>by omega⟩⟩,λh=>⟨(λe=>by cases e),λh3=>by omega⟩⟩ (λR=> ?_) (λR=> ?_)
   ·refine⟨by omega,⟨x.L++ [w.item.from_],k+1,0,y.length-(k+1)⟩,⟨k+1,rfl,a1,?_,rfl⟩,(by dsimp only;omega),⟨(by dsimp only;rw[az];rfl),(by rw[hi];exact wrs (by omega) (by omega))⟩,rfl⟩
    dsimp only;rw[Zg8 U,I,rngB_t.2 R];rfl
   ·refine⟨⟨x.L,k+1,0,y.length-(k+1)⟩,⟨k+1,rfl,a1,?_,rfl⟩,(by dsimp only;omega),⟨rfl,(by rw[hi];exact wrs (by omega) (by omega))⟩,rfl⟩
    dsimp only;rw[Zg8 U,I,Ydw R];exact(cG _).symm
  ·rw[bh (by omega)] at I
   rw[<-I];generalize x.L=M at*;refine aC (λh=>(Zsl (by omega)).symm) (λh=> ?_);refine⟨λx=>x.L=M/\∃k:Nat,x.i=k/\1<=k/\k<=M.length/\Va M=M.take (k-1)++Va (M.drop (k-1))/\x.r=M.length-k,⟨⟨M,1,0,M.length-1⟩,⟨rfl,1,rfl,av _,by omega,rfl,rfl⟩,rfl,rfl⟩,?_⟩;rintro x ⟨b5,k,hi,a1,b8,hc,hr⟩;have b7:M.length<=8:=b1;have t1:x.i.toNat=k:=by rw[hi,bk]
   have w1:wr .i64 (x.i-1)=((k-1:Nat):Int):=by rw[hi,wrs (by omega) (by omega)];omega
   have t2:(((k-1:Nat):Int)).toNat=k-1:=bk _;rw[b5,w1,t1,t2];refine aC (λh=> ?_) (λh=> ?_)
   ·have b0:k<M.length:=by omega
    refine⟨⟨by omega,by omega⟩,by omega,λb hb=>⟨⟨by omega,by omega⟩,by omega,λa ha=>aC (λa5=>⟨⟨by omega,by omega⟩,aC (λ_=> ?_) (λJ=>ka h J)⟩) (λa5=> ?_)⟩⟩
    ·--an equal one is there:c1 is b6 it c0
     have a3:M.drop (k-1)=a::M.drop k:=by have:=Z4 ha;rwa[show k-1+1=k by omega] at this
     have a0:M.drop k=b::M.drop (k+1):=Z4 hb;have a7:Va M=M.take k++(Va (M.drop k)).tail:=by
      have hh:Va (M.drop k)=a::(Va (M.drop k)).tail:=by
       conv=>lhs;rw[a0]
       rw[Zfu,a0,a5]
      rw[hc,a3,show Va (a::M.drop k)=Va (M.drop k) by rw[a0,a5];exact Zvv,hh];rw[show M.take k=M.take (k-1)++ [a] by have:=cA (l:=M) (i:=k-1);rw[ha,show k-1+1=k by omega] at this;exact this];simp
     refine⟨λz=>∃k2 q:Nat,z.j=k2/\1<=k2/\k+k2<=M.length/\z.i=q/\k<=q/\q+1<=k+k2/\z.L.length=M.length/\z.L.drop (k+k2-1)=M.drop (k+k2-1)/\Va M=z.L.take q++(Va (M.drop (k+k2-1))).tail/\z.r=M.length-(k+k2),⟨⟨M,k,1,M.length-(k+1)⟩,⟨1,k,rfl,av _,b0,rfl,av _,av _,rfl,rfl,a7,rfl⟩,⟨hi,rfl⟩,rfl⟩,?_⟩;rintro z ⟨k2,q,zj,z1,z2,zi,z3,z4,z5,z6,z7,zr⟩;have s1:z.j.toNat=k2:=by rw[zj,bk]
     have s2:z.i.toNat=q:=by rw[zi,bk]
     have w2:wr .i64 (z.j-1)=((k2-1:Nat):Int):=by rw[zj,wrs (by omega) (by omega)];omega
     have s3:(((k2-1:Nat):Int)).toNat=k2-1:=bk _;rw[w2,s1,s2,s3];refine aC (λg=> ?_) (λg=> ?_)
     ·have g':k+k2<M.length:=by omega
      refine⟨⟨by omega,by omega⟩,by omega,λv hv=>⟨⟨by omega,by omega⟩,by omega,λu hu=> ?_⟩⟩;have b4:M[k+k2]? =ae v:=by rw[<-Z20 z6 (by omega)];exact hv
      have b3:M[k+k2-1]? =ae u:=by rw[<-Z20 z6 (av _)];rw[show k+k2-1=k+(k2-1) by omega];exact hu
      have e1:M.drop (k+k2-1)=u::M.drop (k+k2):=by have:=Z4 b3;rwa[show k+k2-1+1=k+k2 by omega] at this
      have e2:M.drop (k+k2)=v::M.drop (k+k2+1):=Z4 b4;have e3:k+(k2+1)-1=k+k2:=by omega
      refine aC (λb2=>⟨⟨by omega,by omega⟩,by omega,λv2 a6=>⟨⟨by omega,by omega⟩,by omega,λ_ _=> ?_⟩⟩) (λheq=> ?_)
      ·rw[hv] at a6;cases a6
       refine⟨⟨z.L.set q v,q+1,k2+1,M.length-(k+(k2+1))⟩,⟨k2+1,q+1,rfl,by omega,by omega,rfl,by omega,by omega,(by dsimp only;rw[List.length_set];exact z5),?_,?_,rfl⟩,(by dsimp only;omega),⟨(by rw[zi];exact wrs (by omega) (by omega)),(by rw[zj];exact wrs (by omega) (by omega))⟩,rfl⟩
       ·dsimp only
        rw[e3,List.drop_set_of_lt (by omega)];exact Zpd z6 (by omega)
       ·dsimp only
        have hq:q<z.L.length:=by omega
        rw[e3,z7,e1,e2,Zvw λh=>b2 h.symm,cw,cA,List.getElem?_set_self hq,List.take_set_of_le (av _)];rw[Zfu v,cw,be];rfl
      ·refine⟨⟨z.L,q,k2+1,M.length-(k+(k2+1))⟩,⟨k2+1,q,rfl,by omega,by omega,rfl,z3,by omega,z5,?_,?_,rfl⟩,(by dsimp only;omega),⟨zi,(by rw[zj];exact wrs (by omega) (by omega))⟩,rfl⟩
       ·dsimp only
        rw[e3];exact Zpd z6 (by omega)
       ·dsimp only
        rw[e3,z7,e1,e2,heq,Zvv]
     ·have a8:M.drop (k+k2-1)= [M[k+k2-1]'(by omega)]:=by
       have:=Z4 (ao (show k+k2-1<M.length by omega));rw[this,bL (by omega)]
      rw[a8] at z7;have z8:Va M=z.L.take q:=by rw[z7];exact cG _
      refine⟨⟨by omega,by omega⟩,aC (λ_=>⟨by omega,⟨by omega,by omega⟩,by rw[bi];omega,?_⟩) (λg2=>by omega)⟩;rw[List.take_take,Nat.min_self,z8]
    ·refine⟨⟨M,k+1,0,M.length-(k+1)⟩,⟨rfl,k+1,rfl,by omega,by omega,?_,rfl⟩,(by dsimp only;omega),(by rw[hi];exact wrs (by omega) (by omega)),rfl⟩
     have a3:M.drop (k-1)=a::M.drop k:=by have:=Z4 ha;rwa[show k-1+1=k by omega] at this
     have a0:M.drop k=b::M.drop (k+1):=Z4 hb;rw[hc,a3,a0,Zvw λh=>a5 h.symm,<-a0,Nat.add_sub_cancel];rw[show M.take k=M.take (k-1)++ [a] by have:=cA (l:=M) (i:=k-1);rw[ha,show k-1+1=k by omega] at this;exact this];simp
   ·have hk:k=M.length:=by omega
    have a3:M.drop (k-1)= [M[k-1]'(by omega)]:=by
     have:=Z4 (ao (show k-1<M.length by omega));rw[this,bL (by omega)]
    refine⟨av _,?_⟩;rw[aV];refine(hc.trans ?_).symm;rw[show Va (M.drop (k-1))=M.drop (k-1) by rw[a3];rfl,List.take_append_drop]
end
section
open Go
open Classical in
noncomputable def eqE{α:Type} (a b:α):Bool:=decide (a=b)
theorem eqE_iff{α:Type} {a b:α}:eqE a b=ac↔a=b:=by unfold eqE;simp
theorem eqE_no{α:Type} {a b:α}:eqE a b=ab↔a≠b:=by unfold eqE;simp
theorem Um{α:Type} (a:α):eqE a a=true:=eqE_iff.2 rfl
noncomputable def dEx2:DcL E (Ex×Ex×Unit):= .cons (dR .exprs) (.cons (dR .exprs) .nil)
noncomputable def Yg1(m:Nat):Sum thy:=sumP dEx2 (λx=>x.1.sz<m) λx=> .bool ab (eqE x.1 x.2.1)
noncomputable def Asx:Fr thy->Hp thy->Nat->Ann thy:=λT h i=>{X:=LX,fr:=λx=> [(2,T 2),(3,T 3),(5,.int ab .i64 x.k)],bl:=λx=>blkP h (T 2)++blkP h (T 3),src:=λ_=> [],md:= [],ih:=i,M:=i+30,meas:=λx=>x.r}
noncomputable def Fsx(m:Nat):Fns thy:=addL (addS F0 65 (Yg1 m)) 65 4 Asx E
abbrev qDY1(I:Ex):=(aM I=aM I/\bX I=bX I/\bD I=bD I/\bE I=bE I/\bF I=bF I/\bG I=bG I/\(bw I=bw I/\(ab=ac->ab=ac))/\True)
abbrev qDY2(I:Ex):=(bV (aM I) (bX I) (bD I) (bE I) (bF I) (bG I) (bw I))
abbrev qDY3(I:Ex):=(↑(aa (bw I)):Int)
abbrev qDY4(I:LX):=(↑(LX.k I):Int)
abbrev qDY5(I:Ex) (J:Ex):=(!(bD I==bD J&&(bE I==bE J&&(bF I==bF J&&(bG I==bG J&&ac)))))
theorem Yg2(m:Nat) (x y:Ex) (v:Bool):Zk E F0 (vc E (Fsx m) 400) 65 [exA x,exA y] hp0 0 (λr=>ret E (patch hp0 0 r) r.v (.bool ab v))=(
 ∃(Q:Bool->Prop),(((aM x !=aM y)=ac->Q ac)/\((aM x !=aM y)=ab->((bX x !=bX y)=ac->Q ac)/\((bX x !=bX y)=ab->((qDY5 x y)=ac->Q ac)/\((qDY5 x y)=ab->(((qDY3 x) !=(qDY3 y))=ac->Q ac)/\(((qDY3 x) !=(qDY3 y))=ab->Q ab)))))/\(Q ac->ab=v)/\(Q ab->∃(R:LX->Prop),(∃(I:LX),R I/\ac=ac/\(0=0/\0=0/\0=(qDY4 I)/\True)/\(qDY1 x)/\(qDY1 y)/\True)/\∀(I:LX),R I->(decide ((qDY4 I)<(qDY3 x))=ac->0<=(qDY4 I)/\(qDY4 I)+1<=(qDY3 x)/\∀(J:Ex),(bw x)[af (qDY4 I)]? =ae J->0<=(qDY4 I)/\(qDY4 I)+1<=(qDY3 y)/\∀(U:Ex),(bw y)[af (qDY4 I)]? =ae U->cW (qDY2 J)+1<=m/\((!eqE (qDY2 J) (qDY2 U))=ac->ab=v)/\((!eqE (qDY2 J) (qDY2 U))=ab->∃(a0:LX),R a0/\a0.2+1<=I.2/\ac=ac/\(0=0/\0=0/\wr ag ((qDY4 I)+1)=(qDY4 a0)/\True)/\(qDY1 x)/\(qDY1 y)/\True))/\(decide ((qDY4 I)<(qDY3 x))=ab->ac=v))):=by kernel_rfl
noncomputable def dCl2:DcL E (Cls×Cls×Unit):= .cons (dR .clauses) (.cons (dR .clauses) .nil)
noncomputable def Seqc:Sum thy:=sumP dCl2 (λx=>x.1.pay.sz<1000000000/\x.1.when_.length<1000000000) λx=> .bool ab (eqE x.1 x.2.1)
noncomputable def Fsc:Fns thy:=addL (addS F0 65 (Yg1 1000000000)) 33 4 Asx E
abbrev qDYb(I:Cls):=(ay I)
abbrev qDY6(I:Cls):=(aK I=aK I/\(aT I=aT I/\(ab=ac->ab=ac))/\aM (qDYb I)=aM (qDYb I)/\bX (qDYb I)=bX (qDYb I)/\bD (qDYb I)=bD (qDYb I)/\bE (qDYb I)=bE (qDYb I)/\bF (qDYb I)=bF (qDYb I)/\bG (qDYb I)=bG (qDYb I)/\(bw (qDYb I)=bw (qDYb I)/\(ab=ac->ab=ac))/\True)
abbrev qDY7(I:Cls):=(bV (aM (qDYb I)) (bX (qDYb I)) (bD (qDYb I)) (bE (qDYb I)) (bF (qDYb I)) (bG (qDYb I)) (bw (qDYb I)))
abbrev qDY8(I:Cls):=(↑(aa (aT I)):Int)
abbrev qDY9(I:LX):=(↑(LX.k I):Int)
abbrev qDYa(I:Tst) (J:Tst):=(!(Tst.attr I==Tst.attr J&&(Tst.low I==Tst.low J&&(Tst.high I==Tst.high J&&ac))))
theorem Yg3(x y:Cls) (v:Bool):Zk E Fsc (vc E Fsc 400) 33 [.agg (encF ab .clauses x),.agg (encF ab .clauses y)] hp0 0 (λr=>ret E (patch hp0 0 r) r.v (.bool ab v))=(
 ∃(Q:Bool->Prop),(((!aK x==aK y)=ac->Q ac)/\((!aK x==aK y)=ab->(((qDY8 x) !=(qDY8 y))=ac->Q ac)/\(((qDY8 x) !=(qDY8 y))=ab->Q ab)))/\(Q ac->ab=v)/\(Q ab->∃(R:LX->Prop),(∃(I:LX),R I/\ac=ac/\(0=0/\0=0/\0=(qDY9 I)/\True)/\(qDY6 x)/\(qDY6 y)/\True)/\∀(I:LX),R I->(decide ((qDY9 I)<(qDY8 x))=ac->0<=(qDY9 I)/\(qDY9 I)+1<=(qDY8 x)/\∀(J:Tst),(aT x)[af (qDY9 I)]? =ae J->0<=(qDY9 I)/\(qDY9 I)+1<=(qDY8 y)/\∀(U:Tst),(aT y)[af (qDY9 I)]? =ae U->((qDYa J U)=ac->ab=v)/\((qDYa J U)=ab->∃(a0:LX),R a0/\a0.2+1<=I.2/\ac=ac/\(0=0/\0=0/\wr ag ((qDY9 I)+1)=(qDY9 a0)/\True)/\(qDY6 x)/\(qDY6 y)/\True))/\(decide ((qDY9 I)<(qDY8 x))=ab->cW (qDY7 x)+1<=1000000000/\eqE (qDY7 x) (qDY7 y)=v))):=by kernel_rfl
noncomputable def Fss:Fns thy:=addL (addS F0 33 Seqc) 8 4 Asx E
abbrev qDYc(I:Cls):=(bV (aM (ay I)) (bX (ay I)) (bD (ay I)) (bE (ay I)) (bF (ay I)) (bG (ay I)) (bw (ay I)))
abbrev qDYd(I:Tar):=(ba I=ba I/\aZ I=aZ I/\(ar I=ar I/\(ab=ac->ab=ac))/\True)
abbrev qDYe(I:Tar):=(↑(aa (ar I)):Int)
abbrev qDYf(I:Cls):=(eF (aK I) (aT I) (qDYc I))
abbrev qDYg(I:LX):=(↑(LX.k I):Int)
theorem Yg4(x y:Tar) (v:Bool):Zk E Fss (vc E Fss 400) 8 [.agg (encF ab .tariffs x),.agg (encF ab .tariffs y)] hp0 0 (λr=>ret E (patch hp0 0 r) r.v (.bool ab v))=(
 ∃(Q:Bool->Prop),(((!ba x==ba y)=ac->Q ac)/\((!ba x==ba y)=ab->((aZ x !=aZ y)=ac->Q ac)/\((aZ x !=aZ y)=ab->(((qDYe x) !=(qDYe y))=ac->Q ac)/\(((qDYe x) !=(qDYe y))=ab->Q ab))))/\(Q ac->ab=v)/\(Q ab->∃(R:LX->Prop),(∃(I:LX),R I/\ac=ac/\(0=0/\0=0/\0=(qDYg I)/\True)/\(qDYd x)/\(qDYd y)/\True)/\∀(I:LX),R I->(decide ((qDYg I)<(qDYe x))=ac->0<=(qDYg I)/\(qDYg I)+1<=(qDYe x)/\∀(J:Cls),(ar x)[af (qDYg I)]? =ae J->0<=(qDYg I)/\(qDYg I)+1<=(qDYe y)/\∀(U:Cls),(ar y)[af (qDYg I)]? =ae U->(cW (qDYc J)+1<=1000000000/\aa (aT J)+1<=1000000000)/\((!eqE (qDYf J) (qDYf U))=ac->ab=v)/\((!eqE (qDYf J) (qDYf U))=ab->∃(a0:LX),R a0/\a0.2+1<=I.2/\ac=ac/\(0=0/\0=0/\wr ag ((qDYg I)+1)=(qDYg a0)/\True)/\(qDYd x)/\(qDYd y)/\True))/\(decide ((qDYg I)<(qDYe x))=ab->ac=v))):=by kernel_rfl
theorem Ylm{x y:Ex} (I:x.op=y.op) (J:x.n=y.n) (R:x.d0=y.d0) (U:x.d1=y.d1) (h5:x.d2=y.d2) (h6:x.d3=y.d3) (h7:x.l=y.l):x=y:=by
 cases x;cases y;simp only[aM,bX,bD,bE,bF,bG,bw] at*;subst I J R U h5 h6 h7;rfl
theorem Z3v{α:Type} {l m:List α} {k:Nat} {a b:α} (I:l[k]? =ae a) (J:m[k]? =ae b) (h:l.take k=m.take k) (e:a=b):l.take (k+1)=m.take (k+1):=by
 rw[cA,cA,I,J,h,e]
theorem Z3w{α:Type} {l m:List α} {k:Nat} (I:l.length<=k) (J:l.length=m.length) (h:l.take k=m.take k):l=m:=by
 rwa[bh I,bh (by omega)] at h
theorem Yln{α:Type} {l m:List α} {k:Nat} {a b:α} (J:l[k]? =ae a) (I:m[k]? =ae b) (e:a≠b):l≠m:=by
 rintro rfl;rw[J] at I;cases I;exact e rfl
theorem Zti{α:Type} {l m:List α} {V:Bool} {G:Prop} {B:α->Prop} (hl:l.length=m.length) (hb:l.length<=1000000000) (hB:∀a∈l,B a) (hT:l=m->G) (hF:l≠m->ab=V):
 ∃R:LX->Prop,(∃I:LX,R I/\0=(I.k:Int))/\∀I:LX,R I->(((I.k:Int)<(l.length:Int))->0<=(I.k:Int)/\(I.k:Int)+1<=(l.length:Int)/\∀a,l[af (I.k:Int)]? =ae a->0<=(I.k:Int)/\(I.k:Int)+1<=(m.length:Int)/\∀b,m[af (I.k:Int)]? =ae b->B a/\(¬a=b->ab=V)/\(a=b->∃a0:LX,R a0/\a0.r+1<=I.r/\wr ag ((I.k:Int)+1)=(a0.k:Int)))/\(¬(I.k:Int)<(l.length:Int)->G):=by
 refine⟨λy=>y.k<=l.length/\l.take y.k=m.take y.k/\y.r=l.length-y.k,⟨⟨0,l.length,[],0⟩,⟨(by dsimp only;omega),rfl,rfl⟩,rfl⟩,?_⟩
 rintro⟨k,r,D,q⟩ ⟨h1,J,h3⟩
 simp only at h1 J h3⊢
 refine aC (λhk=>⟨by omega,by omega,λa U=>⟨by omega,by omega,λb a1=>⟨hB a (aL U),λe=>hF (Yln U a1 e),λe=> ?_⟩⟩⟩) (λhk=>hT (Z3w (by omega) hl J))
 exact⟨⟨k+1,l.length-(k+1),[],0⟩,⟨(by dsimp only;omega),Z3v U a1 J e,rfl⟩,(by dsimp only;omega),(wr64 (by omega) (by omega)).trans (by dsimp only;omega)⟩
theorem Z99{l m:List Tst} {V:Bool} {G:Prop} (hl:l.length=m.length) (J:l.length<=1000000000) (hT:l=m->G) (hF:l≠m->ab=V):
 ∃R:LX->Prop,(∃I:LX,R I/\0=(I.k:Int))/\∀I:LX,R I->(((I.k:Int)<(l.length:Int))->0<=(I.k:Int)/\(I.k:Int)+1<=(l.length:Int)/\∀a,l[af (I.k:Int)]? =ae a->0<=(I.k:Int)/\(I.k:Int)+1<=(m.length:Int)/\∀b,m[af (I.k:Int)]? =ae b->(¬a.attr=b.attr\/¬a.low=b.low\/¬a.high=b.high->ab=V)/\(a=b->∃U:LX,R U/\U.r+1<=I.r/\wr ag ((I.k:Int)+1)=(U.k:Int)))/\(¬(I.k:Int)<(l.length:Int)->G):=by
 obtain⟨R,h1,h2⟩:=Zti (B:=λ_=>True) hl J (λ_ _=>jX) hT hF
 refine⟨R,h1,λI hx=>aC (λhk=> ?_) (h2 I hx).2⟩
 obtain⟨a1,a2,a3⟩:=(h2 I hx).1 hk
 refine⟨a1,a2,λa ha=> ?_⟩
 obtain⟨b1,b2,a0⟩:=a3 a ha
 refine⟨b1,b2,λb J=>⟨λe=>(a0 b J).2.1 (by rintro rfl;simp at e),(a0 b J).2.2⟩⟩
theorem Ylo:∀(m:Nat),m<=1000000000->∀(x y:Ex),x.sz<m->PureC E 65 [exA x,exA y] (.bool ab (eqE x y)):=by
 intro m
 induction m with
 |zero=>intro _ x y h;omega
 |succ m ih=>
  intro hb x y hm;have hF:FnsOk E (Fsx m):=Zm E_ok (Zb F0_ok (Yo E_ok (Zc (f:=65) rfl) λx h=>ih (by omega) x.1 x.2.1 h)) _ _ _;refine Za E_ok (Xs E_ok F0_ok λf N c=>(Zgx E_ok hF 400 f N c).1) ?_;rw[Yg2];delta qDY1 qDY2 qDY3 qDY4 qDY5;have a1:=x.sz_eq;have a0:=Ex.szL_len x.l
  simp only[Yl,Ya,Wu,Wv,Ww,ij,iz,fV,gp,fO,fG,bm,bI,bj,bY,aq,cI,cz,bp,iR,Y2,Yv,ne_eq,and_true,true_and,aP,aN,false_or,or_false,jW,ku,bZ,iU,jc,bB,gF,eqE_iff,eqE_no];have no:x≠y->ab=eqE x y:=λh=>(eqE_no.2 h).symm
  by_cases U:x.op=y.op/\x.n=y.n/\(x.d0=y.d0/\x.d1=y.d1/\x.d2=y.d2/\x.d3=y.d3)/\x.l.length=y.l.length
  ·obtain⟨J,R,I,h4⟩:=U
   refine⟨λb=>b=ab,⟨λh=>ka J h,λ_=>⟨λh=>ka R h,λ_=>⟨λh=>ka I (by rintro⟨a,b,c,d⟩;rcases h with h|h|h|h<;>exact h (by assumption)),λ_=>⟨λh=>ka h4 (by omega),λ_=>rfl⟩⟩⟩⟩,λh=>by simp at h,λ_=> ?_⟩
   exact Zti (B:=λa=>a.sz+1<=m) (by omega) (by omega) (λa ha=>by have:=Ex.szL_mem ha;omega) (λe=>(eqE_iff.2 (Ylm J R I.1 I.2.1 I.2.2.1 I.2.2.2 e)).symm) (λh=>no λe=>h (by rw[e]))
  ·refine⟨λb=>b=ac,⟨λ_=>rfl,λJ=>⟨λ_=>rfl,λR=>⟨λ_=>rfl,λI=>⟨λ_=>rfl,λh4=>ka ⟨J,R,I,by omega⟩ U⟩⟩⟩⟩,λ_=>no λe=>U (by rw[e];simp),λh=>by simp at h⟩
theorem Ylp:SumOk E 65 (Yg1 1000000000):=Yo E_ok (Zc (f:=65) rfl) λx h=>Ylo 1000000000 (av _) x.1 x.2.1 h
theorem Yg5{x y:Cls} (I:x.name=y.name) (J:x.when_=y.when_) (R:x.pay=y.pay):x=y:=by
 cases x;cases y;simp only at*;subst I J R;rfl
theorem Yg6{x y:Tar} (I:x.name=y.name) (J:x.for_=y.for_) (R:x.clauses=y.clauses):x=y:=by
 cases x;cases y;simp only at*;subst I J R;rfl
theorem Yg7{x y:Tst}:(x.attr=y.attr/\x.low=y.low/\x.high=y.high)↔x=y:=by
 cases x;cases y;simp
def SmC(c:Cls):Prop:=c.pay.sz<1000000000/\c.when_.length<1000000000
theorem Yg8(x y:Cls) (h:SmC x):PureC E 33 [.agg (encF ab .clauses x),.agg (encF ab .clauses y)] (.bool ab (eqE x y)):=by
 have hF:FnsOk E Fsc:=Zm E_ok (Zb F0_ok Ylp) _ _ _;refine Za E_ok (Zd E_ok hF 400) ?_;rw[Yg3];delta qDYb qDY6 qDY7 qDY8 qDY9 qDYa;obtain⟨hz,hw⟩:=h
 simp only[Yl,Ya,Wu,Wv,Ww,ij,iz,fV,gp,fO,fG,bm,bI,bj,bY,aq,cI,cz,bp,iR,Y2,Yv,ne_eq,and_true,true_and,aP,aN,false_or,or_false,jW,ku,bZ,iU,jc,bB,gF,eqE_iff,eqE_no,Yg7];have no:x≠y->ab=eqE x y:=λh=>(eqE_no.2 h).symm
 by_cases R:x.name=y.name/\x.when_.length=y.when_.length
 ·obtain⟨I,U⟩:=R
  refine⟨λb=>b=ab,⟨λh=>ka I h,λ_=>⟨λh=>ka U (by omega),λ_=>rfl⟩⟩,λh=>by simp at h,λ_=> ?_⟩
  exact Z99 (by omega) (by omega) (λe=>⟨by omega,by
   by_cases J:x.pay=y.pay
   ·rw[eqE_iff.2 J,eqE_iff.2 (Yg5 I e J)]
   ·rw[eqE_no.2 J,eqE_no.2 λh=>J (by rw[h])]⟩) (λh=>no λe=>h (by rw[e]))
 ·exact⟨λb=>b=ac,⟨λ_=>rfl,λI=>⟨λ_=>rfl,λU=>ka ⟨I,by omega⟩ R⟩⟩,λ_=>no λe=>R (by rw[e];simp),λh=>by simp at h⟩
theorem Ylq:SumOk E 33 Seqc:=Yo E_ok (Zc (f:=33) rfl) λx h=>Yg8 x.1 x.2.1 h
def SmT1(t:Tar):Prop:=(∀c∈t.clauses,SmC c)/\t.clauses.length<1000000000
theorem Yg9(x y:Tar) (h:SmT1 x):PureC E 8 [.agg (encF ab .tariffs x),.agg (encF ab .tariffs y)] (.bool ab (eqE x y)):=by
 have hF:FnsOk E Fss:=Zm E_ok (Zb F0_ok Ylq) _ _ _;refine Za E_ok (Zd E_ok hF 400) ?_;rw[Yg4];delta qDYc qDYd qDYe qDYf qDYg;obtain⟨hz,hw⟩:=h
 simp only[Yl,Ya,Wu,Wv,Ww,ij,iz,fV,gp,fO,fG,bm,bI,bj,bY,aq,cI,cz,bp,iR,Y2,Yv,ne_eq,and_true,true_and,aP,aN,false_or,or_false,jW,ku,bZ,iU,jc,bB,gF,Cls.eta,eqE_iff,eqE_no];have no:x≠y->ab=eqE x y:=λh=>(eqE_no.2 h).symm
 by_cases R:x.name=y.name/\x.for_=y.for_/\x.clauses.length=y.clauses.length
 ·obtain⟨I,J,U⟩:=R
  refine⟨λb=>b=ab,⟨λh=>ka I h,λ_=>⟨λh=>ka J h,λ_=>⟨λh=>ka U (by omega),λ_=>rfl⟩⟩⟩,λh=>by simp at h,λ_=> ?_⟩;exact Zti (B:=SmC) (by omega) (by omega) hz (λe=>(eqE_iff.2 (Yg6 I J e)).symm) (λh=>no λe=>h (by rw[e]))
 ·exact⟨λb=>b=ac,⟨λ_=>rfl,λI=>⟨λ_=>rfl,λJ=>⟨λ_=>rfl,λU=>ka ⟨I,J,by omega⟩ R⟩⟩⟩,λ_=>no λe=>R (by rw[e];simp),λh=>by simp at h⟩
end
section
open Go
end
section
open Go
noncomputable def dLre:Dc E (List Rep):=(Zfr (E:=E) cN:Dc E (List (thy.dom cN)))
noncomputable def SinF:Sum thy:=Zat E (λ_=>au) 10 dInE (λx=>x.1.length<=8) (λx=>inF x.1 x.2.1 x.2.2.1 x.2.2.2.1) λy=> .tup [tarE y.1,.int ab .i64 y.2]
theorem Zmp:SumOk E 15 SinF:=Ys E_ok (Zc (f:=15) rfl) λx h=>Yc3 x.1 x.2.1 x.2.2.1 x.2.2.2.1 h
noncomputable def SchF:Sum thy:=Zat E (λ_=>au) 10 (.cons dLre (.cons dN (.cons dN .nil))) (λx=>x.1.length<=8) (λx=>chgF x.1 x.2.1 x.2.2.1) λy=> .psl gh y ab
theorem Z2v:SumOk E 22 SchF:=Ys E_ok (Zc (f:=22) rfl) λx h=>Z9h x.1 x.2.1 x.2.2.1 h
noncomputable def FprE:Fns thy:=addS (addS F0 15 SinF) 11 ScpE
theorem Yfs:FnsOk E FprE:=Zb (Zb F0_ok Zmp) Z6u
theorem Z88(l:List Rep) (J kd at_:Int) (c:List Ins) (e:Int):Zk E FprE (vc E FprE 400) 20 [.psl cN l ab,.int ab .i64 J,.int ab .i64 kd,.int ab .i64 at_] hp0 0 (λr=>ret E (patch hp0 0 r) r.v (.tup [.psl dF c ab,.int ab .i64 e]))=(
aa l<=8/\∀(y:Tar×Int),y=inF l J kd at_->((aD y !=0)=ac->c= []/\aD y=e/\True)/\((aD y !=0)=ab->((∀(c:Cls),c∈ar (ak y)->cW (ay c)<=10000/\aa (aT c)+1<=1000000000)/\aa (ar (ak y))+1<=1000000000)/\∀(I:List Ins×Int),I=Yg (ak y)->(ak I=c/\(ab=ac->ab=ac))/\aD I=e/\True)):=by kernel_rfl
structure FwX where
 k:Nat
 r:Nat
 n:Int
noncomputable def AfwE:Fr thy->Hp thy->Nat->Ann thy:=λT h i=>{X:=FwX,fr:=λx=> [(0,T 0),(3,.int ab .i64 x.n),(4,.int ab .i64 x.k)],bl:=λx=> [],src:=λ_=> [],md:= [],ih:=i,M:=i+40,meas:=λx=>x.r}
noncomputable def FfwE:Fns thy:=addL F0 14 5 AfwE E
theorem Yft:FnsOk E FfwE:=Zm E_ok F0_ok _ _ _
theorem Z89(l:List Rep) (v:Bool):Zk E FfwE (vc E FfwE 400) 14 [.psl cN l ab] hp0 0 (λr=>ret E (patch hp0 0 r) r.v (.bool ab v))=(
(decide ((↑(aa l):Int)>8)=ac->ab=v)/\(decide ((↑(aa l):Int)>8)=ab->∃(R:FwX->Prop),(∃(x:FwX),R x/\ac=ac/\((l=l/\(ab=ac->ab=ac))/\0=FwX.n x/\0=(↑(FwX.k x):Int)/\True)/\True)/\∀(x:FwX),R x->(decide ((↑(FwX.k x):Int)<(↑(aa l):Int))=ac->0<=(↑(FwX.k x):Int)/\(↑(FwX.k x):Int)+1<=(↑(aa l):Int)/\∀(J:Rep),l[af (↑(FwX.k x):Int)]? =ae J->∃(I:FwX),R I/\I.2+1<=x.2/\ac=ac/\((l=l/\(ab=ac->ab=ac))/\wr ag (FwX.n x+mm2 ab (↑(aa (ItD.text (dr J))):Int) 4000)=FwX.n I/\wr ag ((↑(FwX.k x):Int)+1)=(↑(FwX.k I):Int)/\True)/\True)/\(decide ((↑(FwX.k x):Int)<(↑(aa l):Int))=ab->(decide (FwX.n x<=3000)=ac->ac=v)/\(decide (FwX.n x<=3000)=ab->ab=v)))):=by kernel_rfl
noncomputable def Asm7:Fr thy->Hp thy->Nat->Ann thy:=λT h i=>{X:=FwX,fr:=λx=> [(0,T 0),(1,T 1),(5,.int ab .i64 x.k)],bl:=λx=> [],src:=λ_=> [],md:= [],ih:=i,M:=i+30,meas:=λx=>x.r}
noncomputable def Fsm7:Fns thy:=addL F0 21 4 Asm7 E
theorem Yfu:FnsOk E Fsm7:=Zm E_ok F0_ok _ _ _
theorem Z9a(a b:List Int) (v:Bool):Zk E Fsm7 (vc E Fsm7 400) 21 [.psl .ints a ab,.psl .ints b ab] hp0 0 (λr=>ret E (patch hp0 0 r) r.v (.bool ab v))=(
(((↑(aa a):Int) !=(↑(aa b):Int))=ac->ab=v)/\(((↑(aa a):Int) !=(↑(aa b):Int))=ab->∃(R:FwX->Prop),(∃(x:FwX),R x/\ac=ac/\((a=a/\(ab=ac->ab=ac))/\(b=b/\(ab=ac->ab=ac))/\0=(↑(FwX.k x):Int)/\True)/\True)/\∀(x:FwX),R x->(decide ((↑(FwX.k x):Int)<(↑(aa a):Int))=ac->0<=(↑(FwX.k x):Int)/\(↑(FwX.k x):Int)+1<=(↑(aa a):Int)/\∀(I:Int),a[af (↑(FwX.k x):Int)]? =ae I->0<=(↑(FwX.k x):Int)/\(↑(FwX.k x):Int)+1<=(↑(aa b):Int)/\∀(J:Int),b[af (↑(FwX.k x):Int)]? =ae J->((I !=J)=ac->ab=v)/\((I !=J)=ab->∃(U:FwX),R U/\U.2+1<=x.2/\ac=ac/\((a=a/\(ab=ac->ab=ac))/\(b=b/\(ab=ac->ab=ac))/\wr ag ((↑(FwX.k x):Int)+1)=(↑(FwX.k U):Int)/\True)/\True))/\(decide ((↑(FwX.k x):Int)<(↑(aa a):Int))=ab->ac=v))):=by kernel_rfl
noncomputable def prgF(l:List Rep) (I kd at_:Int):List Ins×Int:=if(inF l I kd at_).2≠0 then([],(inF l I kd at_).2) else Yg (inF l I kd at_).1
theorem Z9b(l:List Rep) (I kd at_:Int) (R:l.length<=8):PureC E 20 [.psl cN l ab,.int ab .i64 I,.int ab .i64 kd,.int ab .i64 at_] (.tup [.psl dF (prgF l I kd at_).1 ab,.int ab .i64 (prgF l I kd at_).2]):=by
 refine Za E_ok (Zd E_ok Yfs 400) ?_;refine Eq.mpr (Z88 l I kd at_ (prgF l I kd at_).1 (prgF l I kd at_).2) ?_;simp only[true_and,and_true,ku,kK,iz,gp];unfold prgF;refine⟨R,λy J=>aC (λh=> ?_) (λh=> ?_)⟩
 ·rw[<-J,jM h];exact⟨rfl,rfl⟩
 ·rw[<-J,jJ (λx=>x h)]
  refine⟨?_,λz U=>by rw[U];exact⟨rfl,rfl⟩⟩;have:=(Zxp l I kd at_).1;rw[J];exact this
def txR(x:Rep):Int:=mm2 ab (x.item.text.length:Int) 4000
def fewE(l:List Rep):Bool:=decide (l.length<=8)&&decide ((l.map txR).sum<=3000)
theorem Yfv(x:Rep):0<=txR x/\txR x<=4000:=by
 unfold txR mm2;simp only;split<;>omega
theorem Z9c{l:List Rep} {k:Nat} {x:Rep} (h:l[k]? =ae x):((l.take (k+1)).map txR).sum=((l.take k).map txR).sum+txR x:=by
 rw[cA,h,fS,eC,List.sum_append];simp
theorem Z2w(l:List Rep):PureC E 14 [.psl cN l ab] (.bool ab (fewE l)):=by
 refine Za E_ok (Zd E_ok Yft 400) ?_;rw[Z89];simp only[bk,fO,fG,true_and,and_true,ku,kK];refine aC (λh=> ?_) (λh=> ?_)
 ·unfold fewE;rw[jI (by omega)];rfl
 ·refine⟨λx=>x.k<=l.length/\x.n=((l.take x.k).map txR).sum/\0<=x.n/\x.n<=4000*x.k/\x.r=l.length-x.k,⟨⟨0,l.length,0⟩,⟨aW _,rfl,by simp,by simp,rfl⟩,rfl,rfl⟩,?_⟩
  rintro x ⟨hk,I,R,U,hr⟩;refine aC (λg=>⟨by omega,by omega,λw J=> ?_⟩) (λg=> ?_)
  ·have ht:=Yfv w
   have e:mm2 ab (w.item.text.length:Int) 4000=txR w:=rfl;rw[e];exact⟨⟨x.k+1,l.length-(x.k+1),x.n+txR w⟩,⟨by dsimp only;omega,by dsimp only;rw[Z9c J,I],by dsimp only;omega,by dsimp only;omega,rfl⟩,by dsimp only;omega,wr64 (by omega) (by omega),wr64 (by omega) (by omega)⟩
  ·rw[bh (by omega)] at I
   refine aC (λq=> ?_) (λq=> ?_)
   ·unfold fewE;rw[jq (by omega),jq (by omega)];rfl
   ·unfold fewE;rw[jq (show l.length<=8 by omega),jI (by omega)];rfl
open Classical in
theorem Z9d(a b:List Int) (hl:a.length<=1000000):PureC E 21 [.psl .ints a ab,.psl .ints b ab] (.bool ab (decide (a=b))):=by
 refine Za E_ok (Zd E_ok Yfu 400) ?_;rw[Z9a];simp only[bk,fO,fG,true_and,and_true,ku,kK,iz,gp];refine aC (λh=>(jI λe=>h (by rw[e])).symm) (λh=> ?_);have a0:a.length=b.length:=by omega
 refine⟨λx=>x.k<=a.length/\(∀j,j<x.k->a[j]? =b[j]?)/\x.r=a.length-x.k,⟨⟨0,a.length,0⟩,⟨aW _,(λj I=>ka I (Nat.not_lt_zero _)),rfl⟩,rfl⟩,?_⟩;rintro x ⟨hk,U,hr⟩;refine aC (λg=>⟨by omega,by omega,λu J=>⟨by omega,by omega,λv R=>aC (λe=> ?_) (λe=> ?_)⟩⟩) (λg=> ?_)
 ·refine(jI λe2=> ?_).symm
  rw[e2,R] at J;cases J;exact e rfl
 ·refine⟨⟨x.k+1,a.length-(x.k+1),0⟩,⟨by dsimp only;omega,λj I=> ?_,rfl⟩,by dsimp only;omega,wr64 (by omega) (by omega)⟩
  dsimp only at I;rcases Nat.lt_succ_iff_lt_or_eq.1 I with I|rfl
  ·exact U j I
  ·rw[J,R,e]
 ·refine(jq (List.ext_getElem? λj=> ?_)).symm
  by_cases I:j<x.k
  ·exact U j I
  ·rw[eG (by omega),eG (by omega)]
end
section
open Go
section
variable {α β:Type} [DecidableEq α]
def Zu4:List (α×β)->α->Option β
 | [],_=>au
 |p::r,a=>if p.1=a then ae p.2 else Zu4 r a
def putD:List (α×β)->α->β->List (α×β)
 | [],a,v=> [(a,v)]
 |p::r,a,v=>if p.1=a then(p.1,v)::r else p::putD r a v
def delD:List (α×β)->α->List (α×β)
 | [],_=> []
 |p::r,a=>if p.1=a then r else p::delD r a
theorem Zog:∀(l:List (α×β)) (a:α),Zt l a=Zu4 l a
 | [],a=>rfl
 |p::r,a=>by
  rw[Zt,Zu4,Zog r a]
  by_cases h:p.1=a
  ·rw[jM h,jM h]
  ·rw[jJ h,jJ h]
theorem Z8j:∀(l:List (α×β)) (a:α) (v:β),putS l a v=putD l a v
 | [],a,v=>rfl
 |p::r,a,v=>by
  rw[putS,putD,Z8j r a v]
  by_cases h:p.1=a
  ·rw[jM h,jM h]
  ·rw[jJ h,jJ h]
theorem Ye5:∀(l:List (α×β)) (a:α),delS l a=delD l a
 | [],a=>rfl
 |p::r,a=>by
  rw[delS,delD,Ye5 r a]
  by_cases h:p.1=a
  ·rw[jM h,jM h]
  ·rw[jJ h,jJ h]
end
def goD:Bool->Bool->List (List Nat×Bool)->List Cls->Int
 |a,b,_,[]=>if a=ac then 161 else if b=ac then 2 else 0
 |a,b,m,c::r=>if Wz c=ac then goD (a||resF c.name||(Zu4 m c.name).getD ab) (b||decide (8<c.when_.length)||decide (24<Z9 c.pay)) (putD m c.name ac) r else 1
theorem Ye6:∀(l:List Cls) (a b:Bool) (m:List (List Nat×Bool)),goC a b m l=goD a b m l
 | [],a,b,m=>rfl
 |c::r,a,b,m=>by rw[goC,goD,Zog,Z8j,Ye6 r]
def Zgr(t:Tar):Int:=if V5 t.name=ac/\1<=t.for_/\t.for_<=6 then goD (resF t.name) (decide (64<t.clauses.length)) [] t.clauses else 1
theorem Zhn(t:Tar):Z8 t=Zgr t:=by unfold Z8 Zgr;rw[Ye6]
def prD(t:Tar):Int:=if Zgr t≠0 then Zgr t else if 2000<(Vm (Zas t)).length then 2 else 0
def chD(t:Tar):Int:=if Zgr t=0 then(goU 0 t.clauses).2 else Zgr t
def cpD(t:Tar):Int:=if Zgr t=0 then(if 4096<(cdT t).length\/64<dCs t.clauses then 2 else 0) else Zgr t
def eckD(t:Tar):Int:=if prD t≠0 then prD t else if chD t≠0 then chD t else if chkB t≠0 then chkB t else cpD t
theorem Ypy(t:Tar):(X9 t).2=prD t:=by
 unfold X9 prD;rw[Zhn];split
 ·rfl
 ·split<;>rfl
theorem Ypz(t:Tar):(chkP t).2=chD t:=by
 unfold chkP chD;rw[Zhn];split<;>rfl
theorem Yp0(t:Tar):(Yg t).2=cpD t:=by
 unfold Yg cpD;rw[Zhn];split
 ·split<;>rfl
 ·rfl
theorem Zc5:eckF=eckD:=by
 funext t;unfold eckF eckD;rw[Ypy,Ypz,Yp0]
def Yn7(s:List Nat) (k:Int):Tar×Int:=
 if k<1\/6<k then(zTE,1) else
 match Xk s with
 |(t,_,e)=>if e≠0 then(zTE,e) else if t.for_≠k then(zTE,220) else match eckD t with| .ofNat 0=>(t,0)|e=>(zTE,e)
theorem Vk:Z0=Yn7:=by
 funext s k;unfold Z0 Yn7;rw[Zc5];rcases Xk s with⟨t,p,e⟩
 dsimp only;split
 ·rfl
 ·split
  ·rfl
  ·split
   ·rfl
   ·split
    ·rename_i h
     split
     ·rename_i I;rw[I] at h;exact ka rfl h
     ·rfl
    ·rename_i h
     have h:=bB.1 h;rw[h];rfl
def Zx6(m:List (List Nat×Cls)) (l:List Cls):List (List Nat×Cls):=l.foldl (λm c=>putD m c.name c) m
def Zgs:List (List Nat×Cls)->List Cls->List Cls×List (List Nat×Cls)
 |m,[]=>([],m)
 |m,c::r=>match Zu4 m c.name with
  |some d=>(d::(Zgs (delD m c.name) r).1,(Zgs (delD m c.name) r).2)
  |none=>(c::(Zgs m r).1,(Zgs m r).2)
def Ye7(m:List (List Nat×Cls)) (l:List Cls):List Cls:=l.filter λc=>(Zu4 m c.name).isSome
def amD(t a:Tar):Tar:=⟨t.name,t.for_,(Zgs (Zx6 [] a.clauses) t.clauses).1++Ye7 (Zgs (Zx6 [] a.clauses) t.clauses).2 a.clauses⟩
theorem Ydg(m:List (List Nat×Cls)) (l:List Cls):Uu m l=Zx6 m l:=by
 unfold Uu Zx6
 congr 1
 funext m c;exact Z8j _ _ _
theorem Zoh:∀(l:List Cls) (m:List (List Nat×Cls)),Xu m l=Zgs m l
 | [],m=>rfl
 |c::r,m=>by
  rw[Xu,Zgs,Zog]
  cases Zu4 m c.name with
  |none=>dsimp only;rw[Zoh r]
  |some d=>dsimp only;rw[Ye5,Zoh r]
theorem Zoi:amF=amD:=by
 funext t a;unfold amF amD Zbk Ye7;rw[Ydg,Zoh]
 congr 2
 congr 1
 funext c;rw[Zog]
def txtA:List Nat:= [116,97,114,105,102,102,32,116,32,102,111,114,32,104,105,114,101,32,123,32,99,108,97,117,115,101,32,97,32,119,104,101,110,32,116,121,112,101,32,105,115,32,48,32,112,97,121,32,50,32,109,111,110,101,121,59,32,125]
def txtB:List Nat:= [116,97,114,105,102,102,32,117,32,102,111,114,32,104,105,114,101,32,123,32,99,108,97,117,115,101,32,98,32,119,104,101,110,32,116,121,112,101,32,105,115,32,49,32,112,97,121,32,51,32,109,111,110,101,121,59,32,125]
def txtC:List Nat:= [116,97,114,105,102,102,32,118,32,102,111,114,32,104,105,114,101,32,123,32,99,108,97,117,115,101,32,99,32,119,104,101,110,32,116,121,112,101,32,105,110,32,48,46,46,49,32,112,97,121,32,52,32,109,111,110,101,121,59,32,125]
def repE(no kd I:Int) (s:List Nat):Rep:=⟨⟨0,no⟩,⟨0,no⟩,0,⟨kd,⟨0,0⟩,0,0,0,1,I,0,0,0,0,0,0,s,[]⟩⟩
def Ve:List Rep:= [repE 1 11 10 txtA,repE 2 12 20 txtB,repE 3 12 25 txtC,repE 4 13 30 []]
theorem in9:inF Ve 0 1 9=(zTE,220):=by unfold inF;rw[Vk,Zc5,Zoi];kernel_rfl
theorem in30:inF Ve 0 1 30=(zTE,220):=by unfold inF;rw[Vk,Zc5,Zoi];kernel_rfl
def Z1e(y:Tar×Int) (w:List Nat):Bool:=decide (y.2=0)&&decide (y.1.name= [116])&&decide (y.1.for_=1)&&decide ((y.1.clauses.flatMap λc=>c.name)=w)
theorem in10:Z1e (inF Ve 0 1 10) [97]=true:=by unfold inF;rw[Vk,Zc5,Zoi];kernel_rfl
theorem in20:Z1e (inF Ve 0 1 20) [97,98]=true:=by unfold inF;rw[Vk,Zc5,Zoi];kernel_rfl
theorem in25:Z1e (inF Ve 0 1 25) [97,98]=true:=by unfold inF;rw[Vk,Zc5,Zoi];kernel_rfl
theorem inD2:(inF Ve 0 2 20).2=220:=by unfold inF;rw[Vk,Zc5,Zoi];kernel_rfl
theorem inR1:(inF Ve 1 1 20).2=220:=by unfold inF;rw[Vk,Zc5,Zoi];kernel_rfl
theorem Yp1:(inF Ve 16 1 20).2=1:=by unfold inF;rw[Vk,Zc5,Zoi];kernel_rfl
def txtP:List Nat:= [116,97,114,105,102,102,32,116,32,102,111,114,32,104,105,114,101,32,123,32,99,108,97,117,115,101,32,97,32,112,97,121,32,50,59,32,125]
theorem gd0:(Z0 [] 0).2=1:=by rw[Vk];kernel_rfl
theorem gdA:(Z0 txtA 2).2=220:=by rw[Vk];kernel_rfl
theorem gdP:(Z0 txtP 1).2=170:=by rw[Vk];kernel_rfl
theorem chE:chgF Ve 0 1= [10,20,25,30]:=by unfold chgF;kernel_rfl
theorem cpE:(Yg (inF Ve 0 1 10).1).2=0/\(Yg (inF Ve 0 1 10).1).1≠ []:=by
 unfold Yg;rw[Zhn];unfold inF;rw[Vk,Zc5,Zoi];refine⟨by kernel_rfl,?_⟩;have:∀l:List Ins,l.isEmpty=ab->l≠ []:=λl h e=>by rw[e] at h;cases h
 exact this _ (by kernel_rfl)
end
section
open Go
noncomputable def SssE:Sum thy:=Zat E (λ_=>au) 10 (.cons (dR .tariffs) (.cons (dR .tariffs) .nil)) (λx=>SmT1 x.1) (λx=>eqE x.1 x.2.1) λy=> .bool ab y
theorem Zsy:SumOk E 8 SssE:=Ys E_ok (Zc (f:=8) rfl) λx h=>Yg9 x.1 x.2.1 h
structure NmX where
 k:Nat
 r:Nat
 s:List Nat
noncomputable def AnmE:Fr thy->Hp thy->Nat->Ann thy:=λT h i=>{X:=NmX,fr:=λx=> [(1,T 1),(5,T 5),(6,T 6),(7,.str ab x.s),(8,.int ab .i64 x.k)],bl:=λx=>blkP h (T 5),src:=λ_=> [],md:= [],ih:=i,M:=i+40,meas:=λx=>x.r}
noncomputable def FnmE:Fns thy:=addL (addS (addS F0 15 SinF) 8 SssE) 18 6 AnmE E
theorem Ygk:FnsOk E FnmE:=Zm E_ok (Zb (Zb F0_ok Zmp) Zsy) _ _ _
abbrev qEC1(I:Tar×Int):=(ba (ak I)=ba (ak I)/\aZ (ak I)=aZ (ak I)/\(ar (ak I)=ar (ak I)/\(ab=ac->ab=ac))/\True)
abbrev qEC2(I:Tar×Int):=(↑(aa (ar (ak I))):Int)
abbrev qEC3(I:NmX):=(↑(NmX.k I):Int)
theorem Z90(at_:Int) (w:List Nat) (v:Bool):Zk E FnmE (vc E FnmE 400) 18 [.int ab .i64 at_,.str ab w] hp0 0 (λr=>ret E (patch hp0 0 r) r.v (.bool ab v))=(
 4<=8/\∀(y:Tar×Int),y=inF Ve 0 1 at_->((w==toL (dZ #[]))=ac->((aD y==220)=ac->((∀(c:Cls),c∈ar (ak y)->cW (ay c)+1<=1000000000/\aa (aT c)+1<=1000000000)/\aa (ar (ak y))+1<=1000000000)/\∀(U:Bool),U=eqE (ak y) (jV [] 0 [])->U=v)/\((aD y==220)=ab->ab=v))/\((w==toL (dZ #[]))=ab->∃(R:NmX->Prop),(∃(x:NmX),R x/\ac=ac/\(w=w/\0=0/\aD y=aD y/\ []=NmX.s x/\0=(qEC3 x)/\True)/\(qEC1 y)/\True)/\∀(x:NmX),R x->(decide ((qEC3 x)<(qEC2 y))=ac->0<=(qEC3 x)/\(qEC3 x)+1<=(qEC2 y)/\∀(J:Cls),(ar (ak y))[af (qEC3 x)]? =ae J->aa (NmX.s x)+aa (aK J)<=9223372036854775807/\∃(I:NmX),R I/\I.2+1<=x.2/\ac=ac/\(w=w/\0=0/\aD y=aD y/\NmX.s x++aK J=NmX.s I/\wr ag ((qEC3 x)+1)=(qEC3 I)/\True)/\(qEC1 y)/\True)/\(decide ((qEC3 x)<(qEC2 y))=ab->((aD y==0)=ac->((ba (ak y)==toL (dZ #[(116:UInt8)]))=ac->((aZ (ak y)==1)=ac->((NmX.s x==w)=ac->ac=v)/\((NmX.s x==w)=ab->ab=v))/\((aZ (ak y)==1)=ab->ab=v))/\((ba (ak y)==toL (dZ #[(116:UInt8)]))=ab->ab=v))/\((aD y==0)=ab->ab=v)))):=by kernel_rfl
noncomputable def nmE(at_:Int) (w:List Nat):Bool:=if w= [] then decide ((inF Ve 0 1 at_).2=220)&&eqE (inF Ve 0 1 at_).1 zTE else Z1e (inF Ve 0 1 at_) w
theorem Yld(l:List Rep) (R kd at_:Int):∀c∈(inF l R kd at_).1.clauses,c.name.length<=32:=by
 intro c J;obtain⟨_,_,U,h2⟩:=Zxp l R kd at_;by_cases h:(inF l R kd at_).2=0
 ·have I:=Yz (U h).1
  unfold Z8 at I;split at I
  ·have:=Z21 _ _ _ _ I c J
   unfold Wz V5 at this;simp only[aq,fO] at this;exact this.1.1.1.1
  ·cases I
 ·rw[h2 h] at J;cases J
theorem Z3d{t:Tar} (h:SmE t):SmT1 t:=⟨λc I=>⟨jU (h.1 c I).1 (by decide),(h.1 c I).2⟩,h.2⟩
theorem Ygl(at_:Int) (w:List Nat):PureC E 18 [.int ab .i64 at_,.str ab w] (.bool ab (nmE at_ w)):=by
 refine Za E_ok (Zd E_ok Ygk 400) ?_;rw[Z90];delta qEC1 qEC2 qEC3;simp only[bk,fO,fG,true_and,and_true,ku,kK,ij,fV];refine⟨by decide,λy hy=> ?_⟩;have hs:=(Zxp Ve 0 1 at_).1;have hl:=(Zxp Ve 0 1 at_).2.1;have hn:=Yld Ve 0 1 at_;unfold nmE;rw[<-hy] at hs hl hn⊢;refine aC (λh=> ?_) (λh=> ?_)
 ·have h:w= []:=h
  rw[jM h];refine aC (λI=> ?_) (λI=> ?_)
  ·have:=Z3d hs
   refine⟨this,λz hz=> ?_⟩;rw[hz,jq I];rfl
  ·rw[jI I];rfl
 ·have h:¬w= []:=h
  rw[jJ h];refine⟨λx=>x.k<=y.1.clauses.length/\x.s=(y.1.clauses.take x.k).flatMap (λc=>c.name)/\x.s.length<=32*x.k/\x.r=y.1.clauses.length-x.k,⟨⟨0,y.1.clauses.length,[]⟩,⟨aW _,rfl,by simp,rfl⟩,rfl,rfl⟩,?_⟩;rintro x ⟨hk,J,a1,hr⟩;refine aC (λg=>⟨by omega,by omega,λc hc=> ?_⟩) (λg=> ?_)
  ·have a0:=hn c (aL hc)
   refine⟨by omega,⟨x.k+1,y.1.clauses.length-(x.k+1),x.s++c.name⟩,⟨by dsimp only;omega,?_,by dsimp only;rw[az];omega,rfl⟩,by dsimp only;omega,rfl,wr64 (by omega) (by omega)⟩;dsimp only;rw[cA,hc,fS,List.flatMap_append,J];simp
  ·rw[bh (by omega)] at J
   unfold Z1e;rw[<-J];refine aC (λR=>aC (λq2=>aC (λq3=>aC (λU=> ?_) (λU=> ?_)) (λq3=> ?_)) (λq2=> ?_)) (λR=> ?_)
   ·have q2:y.1.name= [116]:=q2
    rw[jq R,jq q2,jq q3,jq U];rfl
   ·rw[jI U,iQ]
   ·rw[jI q3,iQ,eP]
   ·have q2:¬y.1.name= [116]:=q2
    rw[jI q2,iQ,eP,eP]
   ·rw[jI R,eP,eP,eP]
noncomputable def SnmE:Sum thy:=Ws (.cons dN (.cons dS .nil)) (λ_=>True) (λx=>nmE x.1 x.2.1) λy=> .bool ab y
theorem Ygm:SumOk E 18 SnmE:=Z1 E_ok (Zc (f:=18) rfl) λx _=>Ygl x.1 x.2.1
noncomputable def SprF:Sum thy:=Zat E (λ_=>au) 10 dInE (λx=>x.1.length<=8) (λx=>prgF x.1 x.2.1 x.2.2.1 x.2.2.2.1) λy=> .tup [.psl dF y.1 ab,.int ab .i64 y.2]
theorem Ygn:SumOk E 20 SprF:=Ys E_ok (Zc (f:=20) rfl) λx h=>Z9b x.1 x.2.1 x.2.2.1 x.2.2.2.1 h
noncomputable def dIts:Dc E (List Int):=(Zfr (E:=E) gh:Dc E (List (thy.dom gh)))
noncomputable def Yle:Sum thy:=Zat E (λ_=>au) 10 (.cons dIts (.cons dIts .nil)) (λx=>x.1.length<=1000000) (λx=>(decide (x.1=x.2.1):Bool)) λy=> .bool ab y
theorem Z91:SumOk E 21 Yle:=Ys E_ok (Zc (f:=21) rfl) λx h=>Z9d x.1 x.2.1 h
noncomputable def FsnE:Fns thy:=addS (addS (addS (addS (addS (addS F0 18 SnmE) 15 SinF) 6 SgoE) 20 SprF) 21 Yle) 22 SchF
theorem Ygo:FnsOk E FsnE:=Zb (Zb (Zb (Zb (Zb (Zb F0_ok Ygm) Zmp) Zt5) Ygn) Z91) Z2v
abbrev qEC4(I:Tar×Int):=(aD I==(220:Int))
abbrev qEC5:=(1:Int)
theorem Z3e(u:Nat) (v:Bool):Zk E FsnE (vc E FsnE 400) 5 [] hp0 0 (λr=>ret E (patch hp0 0 r) r.v (.bool ab v))=(
 True/\∀(y:Bool),y=nmE 9 []->((!y)=ac->ab=v)/\((!y)=ab->True/\∀(y:Bool),y=nmE 10 [97]->((!y)=ac->ab=v)/\((!y)=ab->True/\∀(y:Bool),y=nmE 20 [97,98]->((!y)=ac->ab=v)/\((!y)=ab->True/\∀(y:Bool),y=nmE 25 [97,98]->((!y)=ac->ab=v)/\((!y)=ab->True/\∀(y:Bool),y=nmE 30 []->((!y)=ac->ab=v)/\((!y)=ab->4<=8/\∀(y:Tar×Int),y=inF Ve 0 2 20->4<=8/\∀(J:Tar×Int),J=inF Ve qEC5 qEC5 20->4<=8/\∀(R:Tar×Int),R=inF Ve 16 qEC5 20->True/\∀(U:Tar×Int),U=Z0 [] 0->True/\∀(a0:Tar×Int),a0=Z0 txtA 2->True/\∀(a1:Tar×Int),a1=Z0 txtP qEC5->4<=8/\∀(I:List Ins×Int),I=prgF Ve 0 qEC5 10->((qEC4 y)=ac->((qEC4 J)=ac->((aD R==qEC5)=ac->((aD U==qEC5)=ac->((qEC4 a0)=ac->((aD a1==170)=ac->((aD I==0)=ac->(decide ((↑(aa (ak I)):Int)>0)=ac->4<=8/\∀(y:List Int),y=chgF Ve 0 qEC5->aa y<=1000000/\∀(a2:Bool),a2=decide (y= [10,20,25,30])->a2=v)/\(decide ((↑(aa (ak I)):Int)>0)=ab->ab=v))/\((aD I==0)=ab->ab=v))/\((aD a1==170)=ab->ab=v))/\((qEC4 a0)=ab->ab=v))/\((aD U==qEC5)=ab->ab=v))/\((aD R==qEC5)=ab->ab=v))/\((qEC4 J)=ab->ab=v))/\((qEC4 y)=ab->ab=v))))))):=by kernel_rfl
theorem nm9:nmE 9 []=true:=by unfold nmE;rw[jM rfl,in9,Um];rfl
theorem nm30:nmE 30 []=true:=by unfold nmE;rw[jM rfl,in30,Um];rfl
theorem nm10:nmE 10 [97]=true:=by unfold nmE;rw[jJ (by decide),in10]
theorem nm20:nmE 20 [97,98]=true:=by unfold nmE;rw[jJ (by decide),in20]
theorem nm25:nmE 25 [97,98]=true:=by unfold nmE;rw[jJ (by decide),in25]
theorem ifT{y:Bool} {A B:Prop} (h:y=ac) (k:B):((!y)=ac->A)/\((!y)=ab->B):=aC (λe=>by rw[h] at e;cases e) (λ_=>k)
theorem ifE{a b:Int} {A B:Prop} (h:a=b) (k:A):((a==b)=ac->A)/\((a==b)=ab->B):=⟨λ_=>k,λe=>by rw[h,iR] at e;cases e⟩
theorem prg10:(prgF Ve 0 1 10).2=0/\(prgF Ve 0 1 10).1≠ []:=by
 have I:(inF Ve 0 1 10).2=0:=by
  have:=in10;unfold Z1e at this;simp only[aq,fO] at this;exact this.1.1.1
 unfold prgF;rw[jJ (λh=>h I)];exact cpE
theorem Zy9:PureC E 5 [] (.bool ab ac):=by
 refine Za E_ok (Zd E_ok Ygo 400) ?_;rw[Z3e 0];refine⟨jX,λy h=>ifT (h.trans nm9) ⟨jX,λy h=>ifT (h.trans nm10) ⟨jX,λy h=>ifT (h.trans nm20) ⟨jX,λy h=>ifT (h.trans nm25) ⟨jX,λy h=>ifT (h.trans nm30) ⟨by decide,λa R=>⟨by decide,λb U=>⟨by decide,λc hc=>⟨jX,λd hd=>⟨jX,λe he=>⟨jX,λf hf=>⟨by decide,λg I=> ?_⟩⟩⟩⟩⟩⟩⟩⟩⟩⟩⟩⟩
 refine ifE (by rw[R];exact inD2) (ifE (by rw[U];exact inR1) (ifE (by rw[hc];exact Yp1) (ifE (by rw[hd];exact gd0) (ifE (by rw[he];exact gdA) (ifE (by rw[hf];exact gdP) (ifE (by rw[I];exact prg10.1) ?_))))));have hp:g.1.length>0:=List.length_pos_iff.2 (by rw[I];exact prg10.2);refine⟨λ_=>⟨by decide,λq J=>⟨?_,λr hr=> ?_⟩⟩,λh=>by have:=jm h;omega⟩
 ·rw[J,chE];decide
 ·rw[hr,J,chE];rfl
noncomputable def SsnE:Sum thy:=Ws (.nil:DcL E Unit) (λ_=>True) (λ_=>ac) λy=> .bool ab y
theorem Ygp:SumOk E 5 SsnE:=Z1 E_ok (Zc (f:=5) rfl) λx _=>Zy9
end
section
open Go
noncomputable def SfwE:Sum thy:=Zat E (λ_=>au) 10 (.cons dLre .nil) (λ_=>True) (λx=>fewE x.1) λy=> .bool ab y
theorem Yhi:SumOk E 14 SfwE:=Ys E_ok (Zc (f:=14) rfl) λx _=>Z2w x.1
noncomputable def FlwE:Fns thy:=addS (addS (addS (addS (addS F0 5 SsnE) 14 SfwE) 15 SinF) 22 SchF) 8 SssE
theorem Yhj:FnsOk E FlwE:=Zb (Zb (Zb (Zb (Zb F0_ok Ygp) Yhi) Zmp) Z2v) Zsy
structure LwX where
 k:Nat
 r:Nat
 b:Bool
end
section
open Go
def zCE:Cls:=⟨[],[],⟨0,0,0,0,0,0,[]⟩⟩
def clF:List Cls->List Nat->Cls
 | [],_=>zCE
 |c::r,n=>if c.name=n then c else clF r n
noncomputable def AclE:Fr thy->Hp thy->Nat->Ann thy:=λT h i=>{X:=LwX,fr:=λx=> [(1,T 1),(2,T 2),(4,T 4),(5,.int ab .i64 x.k)],bl:=λx=>blkP h (T 2)++blkP h (T 4),src:=λ_=> [],md:= [bOf (T 4)],ih:=i,M:=i+30,meas:=λx=>x.r}
noncomputable def FclE:Fns thy:=addL F0 16 2 AclE E
theorem Yjh:FnsOk E FclE:=Zm E_ok F0_ok _ _ _
abbrev qEI5:=(0:Nat)
abbrev qEI2:=(0:Int)
abbrev qEI1:=(([]:List Nat)= []/\aG au qEI5 qEI5=aG au qEI5 qEI5/\qEI2=qEI2/\qEI2=qEI2/\qEI2=qEI2/\qEI2=qEI2/\qEI2=qEI2/\qEI2=qEI2/\aG au qEI5 qEI5=aG au qEI5 qEI5/\True)
abbrev qEI7:=(ab=ac->ab=ac)
abbrev qEI3(I:Tar):=(ba I=ba I/\aZ I=aZ I/\(ar I=ar I/\qEI7)/\True)
abbrev qEI4(I:LwX):=(↑(LwX.k I):Int)
abbrev qEI6(I:Tar):=(↑(aa (ar I)):Int)
abbrev qEI8(I:Cls):=(ay I)
theorem Z7a(t:Tar) (nm:List Nat) (c:Cls):Zk E FclE (vc E FclE 400) 16 [.agg (encF ab .tariffs t),.str ab nm] hp0 0 (λr=>ret E (patch hp0 0 r) r.v (.agg (encF ab .clauses c)))=(
 ∃(R:LwX->Prop),(∃(x:LwX),R x/\ac=ac/\(nm=nm/\qEI5=qEI5/\qEI5=qEI5/\qEI2=(qEI4 x)/\True)/\(qEI3 t)/\qEI1/\True)/\∀(x:LwX),R x->(decide ((qEI4 x)<(qEI6 t))=ac->qEI2<=(qEI4 x)/\(qEI4 x)+1<=(qEI6 t)/\∀(J:Cls),(ar t)[af (qEI4 x)]? =ae J->((aK J==nm)=ac->qEI2<=(qEI4 x)/\(qEI4 x)+1<=(qEI6 t)/\∀(I:Cls),(ar t)[af (qEI4 x)]? =ae I->aK I=aK c/\(aT I=aT c/\qEI7)/\aM (qEI8 I)=aM (qEI8 c)/\bX (qEI8 I)=bX (qEI8 c)/\bD (qEI8 I)=bD (qEI8 c)/\bE (qEI8 I)=bE (qEI8 c)/\bF (qEI8 I)=bF (qEI8 c)/\bG (qEI8 I)=bG (qEI8 c)/\(bw (qEI8 I)=bw (qEI8 c)/\qEI7)/\True)/\((aK J==nm)=ab->∃(I:LwX),R I/\I.2+1<=x.2/\ac=ac/\(nm=nm/\qEI5=qEI5/\qEI5=qEI5/\wr ag ((qEI4 x)+1)=(qEI4 I)/\True)/\(qEI3 t)/\qEI1/\True))/\(decide ((qEI4 x)<(qEI6 t))=ab-> []=aK c/\aT c= []/\qEI2=aM (qEI8 c)/\qEI2=bX (qEI8 c)/\qEI2=bD (qEI8 c)/\qEI2=bE (qEI8 c)/\qEI2=bF (qEI8 c)/\qEI2=bG (qEI8 c)/\bw (qEI8 c)= []/\True)):=by kernel_rfl
theorem Ycf{l:List Cls} {nm:List Nat} {k:Nat} {c:Cls} (h:l[k]? =ae c):clF (l.drop k) nm=if c.name=nm then c else clF (l.drop (k+1)) nm:=by
 obtain⟨I,e⟩:=ai.1 h;rw[List.drop_eq_getElem_cons I,e,clF]
theorem Yji(t:Tar) (nm:List Nat) (h:t.clauses.length<=1000000):PureC E 16 [.agg (encF ab .tariffs t),.str ab nm] (.agg (encF ab .clauses (clF t.clauses nm))):=by
 refine Za E_ok (Zd E_ok Yjh 400) ?_;rw[Z7a];delta qEI5 qEI2 qEI1 qEI7 qEI3 qEI4 qEI6 qEI8;refine⟨λx=>x.k<=t.clauses.length/\clF (t.clauses.drop x.k) nm=clF t.clauses nm/\x.r=t.clauses.length-x.k,⟨⟨0,t.clauses.length,ac⟩,⟨aW _,rfl,rfl⟩,rfl,⟨rfl,rfl,rfl,rfl,jX⟩,⟨rfl,rfl,⟨rfl,λh=>h⟩,jX⟩,⟨rfl,rfl,rfl,rfl,rfl,rfl,rfl,rfl,rfl,jX⟩,jX⟩,?_⟩;rintro x ⟨hk,I,hr⟩;refine aC (λg=> ?_) (λg=> ?_)
 ·have g:=jk g
  refine⟨by omega,by omega,λc J=> ?_⟩;rw[bk] at J;have hd:=Ycf (nm:=nm) J;refine aC (λe=>⟨by omega,by omega,λU R=> ?_⟩) (λe=> ?_)
  ·rw[bk,J] at R
   cases R;rw[jM (eq_of_beq e),I] at hd;rw[hd];exact⟨rfl,⟨rfl,λh=>h⟩,rfl,rfl,rfl,rfl,rfl,rfl,⟨rfl,λh=>h⟩,jX⟩
  ·rw[jJ (ne_of_beq_false e),I] at hd
   exact⟨⟨x.k+1,t.clauses.length-(x.k+1),ac⟩,⟨by dsimp only;omega,hd.symm,rfl⟩,by dsimp only;omega,rfl,⟨rfl,rfl,rfl,wr64 (by omega) (by omega),jX⟩,⟨rfl,rfl,⟨rfl,λh=>h⟩,jX⟩,⟨rfl,rfl,rfl,rfl,rfl,rfl,rfl,rfl,rfl,jX⟩,jX⟩
 ·have g:=jm g
  rw[List.drop_of_length_le (by omega)] at I;rw[<-I];exact⟨rfl,rfl,rfl,rfl,rfl,rfl,rfl,rfl,rfl,jX⟩
noncomputable def SclE:Sum thy:=Zat E (λ_=>au) 10 (.cons (dR .tariffs) (.cons dS .nil)) (λx=>x.1.clauses.length<=1000000) (λx=>clF x.1.clauses x.2.1) λy=> .agg (encF ab .clauses y)
theorem Yjj:SumOk E 16 SclE:=Ys E_ok (Zc (f:=16) rfl) λx h=>Yji x.1 x.2.1 h
noncomputable def FscE:Fns thy:=addS F0 8 SssE
theorem Yjk:FnsOk E FscE:=Zb F0_ok Zsy
theorem Z7b(a b:Cls) (v:Bool):Zk E FscE (vc E FscE 400) 17 [.agg (encF ab .clauses a),.agg (encF ab .clauses b)] hp0 0 (λr=>ret E (patch hp0 0 r) r.v (.bool ab v))=(
((∀(c:Cls),c∈ [eF (aK a) (aT a) (bV (aM (ay a)) (bX (ay a)) (bD (ay a)) (bE (ay a)) (bF (ay a)) (bG (ay a)) (bw (ay a)))]->cW (ay c)+1<=1000000000/\aa (aT c)+1<=1000000000)/\1+1<=1000000000)/\∀(y:Bool),y=eqE (jV [] 0 [eF (aK a) (aT a) (bV (aM (ay a)) (bX (ay a)) (bD (ay a)) (bE (ay a)) (bF (ay a)) (bG (ay a)) (bw (ay a)))]) (jV [] 0 [eF (aK b) (aT b) (bV (aM (ay b)) (bX (ay b)) (bD (ay b)) (bE (ay b)) (bF (ay b)) (bG (ay b)) (bw (ay b)))])->y=v):=by kernel_rfl
theorem Z7c(a b:Cls) (J:a.pay.sz+1<=1000000000) (R:a.when_.length+1<=1000000000):PureC E 17 [.agg (encF ab .clauses a),.agg (encF ab .clauses b)] (.bool ab (eqE a b)):=by
 refine Za E_ok (Zd E_ok Yjk 400) ?_;rw[Z7b];simp only[gF];refine⟨⟨λc I=> ?_,by decide⟩,λy U=> ?_⟩
 ·rcases aH.1 I with rfl|I
  ·exact⟨J,R⟩
  ·cases I
 ·rw[U]
  by_cases e:a=b
  ·subst e;rw[Um,Um]
  ·rw[eqE_no.2 e,eqE_no]
   intro q;exact e (by cases a;cases b;cases q;rfl)
noncomputable def SscE:Sum thy:=Zat E (λ_=>au) 10 (.cons (dR .clauses) (.cons (dR .clauses) .nil)) (λx=>x.1.pay.sz+1<=1000000000/\x.1.when_.length+1<=1000000000) (λx=>eqE x.1 x.2.1) λy=> .bool ab y
theorem Yjl:SumOk E 17 SscE:=Ys E_ok (Zc (f:=17) rfl) λx h=>Z7c x.1 x.2.1 h.1 h.2
end
section
open Go
def NmE(l:List Cls):Prop:=(∀c∈l,c.name≠ [])/\l.Pairwise λc d=>c.name≠d.name
theorem Yeq:∀{l:List Cls} {seen:List (List Nat)},CsOk seen l->NmE l/\∀c∈l,c.name∉seen
 | [],_,_=>⟨⟨(λ_ h=>by cases h),List.Pairwise.nil⟩,(λ_ h=>by cases h)⟩
 |c::r,seen,h=>by
  obtain⟨J,_,R,_,_,U⟩:=h
  obtain⟨⟨i1,i2⟩,I⟩:=Yeq U
  refine⟨⟨λd hd=> ?_,dh.2 ⟨λd hd e=>I d hd (by rw[<-e];exact bH ..),i2⟩⟩,λd hd=> ?_⟩
  ·rcases aH.1 hd with rfl|hd
   ·intro e
    have:=(V8 J).1
    rw[e] at this
    exact ka this (by decide)
   ·exact i1 d hd
  ·rcases aH.1 hd with rfl|hd
   ·exact R
   ·exactλe=>I d hd (aI _ e)
theorem Yer{t:Tar} (h:Z8 t=0):NmE t.clauses:=(Yeq ((V7 t).1 h).2.2.2.2.2).1
theorem Zhk{c:Cls} {l:List Cls} (h:NmE (c::l)):NmE l:=⟨λd hd=>h.1 d (aI _ hd),(dh.1 h.2).2⟩
theorem Z7i:∀{l:List Cls} {n:List Nat},(∀c∈l,c.name≠n)->clF l n=zCE
 | [],_,_=>rfl
 |c::r,n,h=>by rw[clF,jJ (h c (bH ..))];exact Z7i λd hd=>h d (aI _ hd)
theorem Z7j:∀{l:List Cls} {n:List Nat} {d:Cls},clF l n=d->n≠ []->d.name=n/\d∈l\/d.name= []/\∀c∈l,c.name≠n
 | [],n,d,h,I=> .inr ⟨(by rw[<-h];rfl),(λ_ h=>by cases h)⟩
 |c::r,n,d,h,I=>by
  rw[clF] at h
  split at h
  ·rename_i e;exact .inl ⟨h▸e,h▸bH ..⟩
  ·rename_i e
   rcases Z7j h I with h|h
   ·exact .inl ⟨h.1,aI _ h.2⟩
   ·refine .inr ⟨h.1,λd hd=> ?_⟩
    rcases aH.1 hd with rfl|hd
    ·exact e
    ·exact h.2 d hd
theorem Zny:∀{l:List Cls} {c:Cls},NmE l->c∈l->clF l c.name=c
 |d::r,c,h,I=>by
  rw[clF]
  rcases aH.1 I with rfl|I
  ·rw[jM rfl]
  ·rw[jJ ((dh.1 h.2).1 c I),Zny (Zhk h) I]
theorem Yjn{l:List Cls}:∀n:List Nat,clF l n∈l\/clF l n=zCE:=by
 intro n
 induction l with
 |nil=>exact .inr rfl
 |cons c r I=>
  rw[clF];split
  ·exact .inl (bH ..)
  ·rcases I with h|h
   ·exact .inl (aI _ h)
   ·exact .inr h
def repC(a:List Cls) (c:Cls):Cls:=if(clF a c.name).name= [] then c else clF a c.name
def newC(t:List Cls) (c:Cls):Bool:=decide ((clF t c.name).name= [])
def Zgz(t a:List Cls):List Cls:=t.map (repC a)++a.filter (newC t)
theorem Z7k{a:List Cls} {c:Cls} (h:c.name≠ []):(repC a c).name=c.name:=by
 unfold repC;split
 ·rfl
 ·rename_i e
  rcases Z7j (rfl:clF a c.name=_) h with k|k
  ·exact k.1
  ·exact ka k.1 e
theorem Z0m{t a:List Cls} {c:Cls} (ht:NmE t) (R:NmE a) (U:c∈a):clF (Zgz t a) c.name=c:=by
 have hn:=R.1 c U;have key:∀t:List Cls,NmE t->∀x:List Cls,clF (t.map (repC a)++x) c.name=if∃d∈t,d.name=c.name then c else clF x c.name:=by
  intro t
  induction t with
  |nil=>intro _ x;rw[jJ (λ⟨d,hd,_⟩=>by cases hd)];rfl
  |cons d r ih=>
   intro hd x;rw[bQ,List.cons_append,clF,Z7k (hd.1 d (bH ..)),ih (Zhk hd)];by_cases e:d.name=c.name
   ·rw[jM e,jM ⟨d,bH ..,e⟩]
    unfold repC;rw[e,Zny R U,jJ hn]
   ·rw[jJ e]
    by_cases q:∃d∈r,d.name=c.name
    ·obtain⟨f,I,J⟩:=q
     rw[jM ⟨f,I,J⟩,jM ⟨f,aI _ I,J⟩]
    ·rw[jJ q,jJ]
     rintro⟨f,I,J⟩;rcases aH.1 I with rfl|I
     ·exact e J
     ·exact q ⟨f,I,J⟩
 unfold Zgz;rw[key t ht];split
 ·rfl
 ·rename_i q
  have I:c∈a.filter (newC t):=cM.2 ⟨U,by unfold newC;rw[Z7i λd hd e=>q ⟨d,hd,e⟩];rfl⟩;exact Zny ⟨λd hd=>R.1 d (cM.1 hd).1,R.2.filter _⟩ I
def UnK(m:List (List Nat×Cls)):Prop:=m.Pairwise λp q=>p.1≠q.1
theorem Zlv{J:Type}:∀{m:List (List Nat×J)} {a:List Nat},(∀p∈m,p.1≠a)->Zt m a=au
 | [],_,_=>rfl
 |p::r,a,h=>by rw[Zt,jJ (h p (bH ..))];exact Zlv λq I=>h q (aI _ I)
theorem Zxd{I:Type}:∀{m:List (List Nat×I)} {a:List Nat} {v:I} {q:List Nat×I},q∈putS m a v->q.1=a\/∃p∈m,p.1=q.1
 | [],a,v,q,h=>by
  rw[putS] at h
  rcases aH.1 h with rfl|h
  ·exact .inl rfl
  ·cases h
 |p::r,a,v,q,h=>by
  rw[putS] at h
  split at h
  ·rcases aH.1 h with rfl|h
   ·exact .inr ⟨p,bH ..,rfl⟩
   ·exact .inr ⟨q,aI _ h,rfl⟩
  ·rcases aH.1 h with rfl|h
   ·exact .inr ⟨q,bH ..,rfl⟩
   ·rcases Zxd h with h|⟨f,J,e⟩
    ·exact .inl h
    ·exact .inr ⟨f,aI _ J,e⟩
theorem Z7l:∀{m:List (List Nat×Cls)} {a:List Nat} {v:Cls},UnK m->UnK (putS m a v)
 | [],a,v,h=>List.pairwise_singleton _ _
 |p::r,a,v,h=>by
  have I:=dh.1 h
  rw[putS]
  split
  ·exact dh.2 ⟨I.1,I.2⟩
  ·rename_i e
   refine dh.2 ⟨λq R=> ?_,Z7l I.2⟩
   rcases Zxd R with k|⟨f,J,k⟩
   ·rw[k];exact e
   ·rw[<-k];exact I.1 f J
theorem Znz:∀{m:List (List Nat×Cls)} {a:List Nat},UnK m->UnK (delS m a)/\∀b,Zt (delS m a) b=if a=b then au else Zt m b
 | [],a,h=>⟨h,λb=>by rw[delS];split<;>rfl⟩
 |p::r,a,h=>by
  have I:=dh.1 h
  rw[delS]
  split
  ·rename_i e
   refine⟨I.2,λb=> ?_⟩
   split
   ·rename_i q;exact Zlv λf J k=>I.1 f J (e.trans (q.trans k.symm))
   ·rename_i q;rw[Zt,jJ (λk=>q (e.symm.trans k))]
  ·rename_i e
   refine⟨dh.2 ⟨λq R=>I.1 q (Zhg _ _ q R),(Znz I.2).1⟩,λb=> ?_⟩
   rw[Zt,Zt,(Znz I.2).2 b]
   by_cases q:p.1=b
   ·rw[jM q,jM q,jJ (λk=>e (q.trans k.symm))]
   ·rw[jJ q,jJ q]
theorem Zxe:∀{l:List Cls} {m:List (List Nat×Cls)},UnK m->UnK (Uu m l)
 | [],m,h=>h
 |c::r,m,h=>Zxe (l:=r) (Z7l h)
theorem Zf6:∀{l:List Cls} {m:List (List Nat×Cls)} {n:List Nat},NmE l->n≠ []->Zt (Uu m l) n=if(clF l n).name= [] then Zt m n else ae (clF l n)
 | [],m,n,h,I=>by rw[clF,jM (show zCE.name= [] from rfl)];rfl
 |c::r,m,n,h,I=>by
  show Zt (Uu (putS m c.name c) r) n=_
  rw[Zf6 (Zhk h) I,clF,Zep]
  by_cases e:c.name=n
  ·rw[jM e,jM e,Z7i (λd hd k=>(dh.1 h.2).1 d hd (e.trans k.symm)),jM (show zCE.name= [] from rfl),jJ (λk=>I (e.symm.trans k))]
  ·rw[jJ e,jJ e]
theorem Zxf{a:List Cls}:∀{t:List Cls} {m:List (List Nat×Cls)},NmE t->UnK m->(∀c∈t,Zt m c.name=if(clF a c.name).name= [] then au else ae (clF a c.name))->(Xu m t).1=t.map (repC a)/\UnK (Xu m t).2/\∀n,Zt (Xu m t).2 n=if∃c∈t,c.name=n then au else Zt m n
 | [],m,_,hm,_=>⟨rfl,hm,λn=>by rw[jJ (λ⟨c,I,_⟩=>by cases I)];rfl⟩
 |c::r,m,ht,hm,hl=>by
  have I:=hl c (bH ..)
  have hd:=dh.1 ht.2
  have a0:∀R:List (List Nat×Cls),UnK R->(∀b,Zt R b=if c.name=b then au else Zt m b)->(Xu R r).1=r.map (repC a)/\UnK (Xu R r).2/\∀n,Zt (Xu R r).2 n=if∃d∈c::r,d.name=n then au else Zt m n:=by
   intro R hu hq
   obtain⟨k1,k2,k3⟩:=Zxf (a:=a) (Zhk ht) hu (λd a1=>by rw[hq,jJ (hd.1 d a1)];exact hl d (aI _ a1))
   refine⟨k1,k2,λn=> ?_⟩
   rw[k3,hq]
   by_cases e:∃d∈r,d.name=n
   ·obtain⟨d,J,U⟩:=e
    rw[jM ⟨d,J,U⟩,jM ⟨d,aI _ J,U⟩]
   ·rw[jJ e]
    by_cases q:c.name=n
    ·rw[jM q,jM ⟨c,bH ..,q⟩]
    ·rw[jJ q,jJ]
     rintro⟨d,J,U⟩
     rcases aH.1 J with rfl|J
     ·exact q U
     ·exact e ⟨d,J,U⟩
  by_cases e:(clF a c.name).name= []
  ·rw[jM e] at I
   rw[Zch I]
   obtain⟨k1,k2,k3⟩:=a0 m hm (λb=>by by_cases q:c.name=b;rw[jM q,<-q,I];rw[jJ q])
   refine⟨?_,k2,k3⟩
   show c::(Xu m r).1=_
   rw[k1,bQ]
   unfold repC
   rw[jM e]
  ·rw[jJ e] at I
   rw[Zcg I]
   obtain⟨k1,k2,k3⟩:=a0 (delS m c.name) (Znz hm).1 (Znz hm).2
   refine⟨?_,k2,k3⟩
   show clF a c.name::(Xu (delS m c.name) r).1=_
   rw[k1,bQ]
   congr 1
   unfold repC
   rw[jJ e]
theorem Ynm{t a:Tar} (U:NmE t.clauses) (I:NmE a.clauses):amF t a=⟨t.name,t.for_,Zgz t.clauses a.clauses⟩:=by
 obtain⟨k1,k2,k3⟩:=Zxf (a:=a.clauses) (t:=t.clauses) (m:=Uu [] a.clauses) U (Zxe List.Pairwise.nil) (λc J=>by rw[Zf6 I (U.1 c J)];rfl);unfold amF Zgz;rw[k1]
 congr 2
 unfold Zbk;refine List.filter_congr λc J=> ?_;have R:=I.1 c J;rw[k3,Zf6 I R,Zny I J,jJ R];unfold newC;rcases Z7j (rfl:clF t.clauses c.name=_) R with h|h
 ·rw[jM ⟨_,h.2,h.1⟩,h.1];simp[R]
 ·rw[jJ (λ⟨d,hd,e⟩=>h.2 d hd e),h.1];rfl
def rp2(k:Int) (I J:List Nat):List Rep:= [⟨⟨0,1⟩,⟨0,1⟩,0,⟨11,⟨0,0⟩,0,0,0,k,0,0,0,0,0,0,0,I,[]⟩⟩,⟨⟨0,2⟩,⟨0,2⟩,0,⟨12,⟨0,0⟩,0,0,0,k,5,0,0,0,0,0,0,J,[]⟩⟩]
theorem Yjo(k:Int) (I s2:List Nat):edsF (rp2 k I s2) 0 k=rp2 k I s2:=by
 unfold edsF rp2;rw[eW,jM (by simp[edO]),eW,jM (by simp[edO]),List.filter_nil];unfold srtE srtR;simp only[List.foldl_cons,List.foldl_nil,insR];rw[jJ (by unfold ltE;dsimp only;omega)];rfl
theorem in2(k:Int) (I J:List Nat):inF (rp2 k I J) 0 k 7=if(Z0 I k).2≠0 then(zTE,if 1<=k/\k<=6 then 220 else 1) else if(Z0 J k).2≠0 then((Z0 I k).1,0) else if eckF (amF (Z0 I k).1 (Z0 J k).1)=0 then(amF (Z0 I k).1 (Z0 J k).1,0) else((Z0 I k).1,0):=by
 unfold inF;rw[Yjo];by_cases hk:1<=k/\k<=6
 ·rw[jM ⟨⟨by decide,by decide,hk⟩,by decide,by decide⟩]
  have e:rnE Z0 eckF amF k 7 (rp2 k I J) (zTE,ab)=stE Z0 eckF amF k (stE Z0 eckF amF k (zTE,ab) ⟨⟨0,1⟩,⟨0,1⟩,0,⟨11,⟨0,0⟩,0,0,0,k,0,0,0,0,0,0,0,I,[]⟩⟩) ⟨⟨0,2⟩,⟨0,2⟩,0,⟨12,⟨0,0⟩,0,0,0,k,5,0,0,0,0,0,0,J,[]⟩⟩:=by
   unfold rp2;rw[rnE,jJ (by show¬7<0;decide),rnE,jJ (by show¬7<5;decide),rnE]
  have e1:stE Z0 eckF amF k (zTE,ab) ⟨⟨0,1⟩,⟨0,1⟩,0,⟨11,⟨0,0⟩,0,0,0,k,0,0,0,0,0,0,0,I,[]⟩⟩=if(Z0 I k).2≠0 then(zTE,ab) else((Z0 I k).1,ac):=by
   unfold stE;rw[jJ (by show¬11=13;decide)];split
   ·rfl
   ·exact jM rfl
  have e2:∀s:Tar×Bool,stE Z0 eckF amF k s ⟨⟨0,2⟩,⟨0,2⟩,0,⟨12,⟨0,0⟩,0,0,0,k,5,0,0,0,0,0,0,J,[]⟩⟩=if(Z0 J k).2≠0 then s else if s.2=ac then(if eckF (amF s.1 (Z0 J k).1)=0 then(amF s.1 (Z0 J k).1,s.2) else s) else s:=λs=>by
   unfold stE;rw[jJ (by show¬12=13;decide)];split
   ·rfl
   ·exact jJ (by show¬12=11;decide)
  rw[e,e1,e2];by_cases U:(Z0 I k).2≠0
  ·rw[jM U,jM U,jM hk]
   by_cases R:(Z0 J k).2≠0
   ·rw[jM R];exact jJ (by decide)
   ·rw[jJ R,jJ (show¬(zTE,ab).2=ac by decide)];exact jJ (by decide)
  ·rw[jJ U,jJ U]
   by_cases R:(Z0 J k).2≠0
   ·rw[jM R,jM R];exact jM rfl
   ·rw[jJ R,jJ R,jM (show((Z0 I k).1,ac).2=ac from rfl)]
    by_cases h3:eckF (amF (Z0 I k).1 (Z0 J k).1)=0
    ·rw[jM h3];rw[jM h3];exact jM rfl
    ·rw[jJ h3];rw[jJ h3];exact jM rfl
 ·rw[jJ (λh=>hk ⟨h.1.2.2.1,h.1.2.2.2⟩)]
  have U:(Z0 I k).2≠0:=by
   unfold Z0;rw[jM (by omega)];decide
  rw[jM U,jJ hk]
theorem Ynn{w:Tar} {k:Int} (hf:w.for_=k) (hk:1<=k/\k<=6):((X9 w).2=0/\(Z0 (X9 w).1 k).2=0)↔eckF w=0:=by
 constructor
 ·rintro⟨J,h2⟩
  obtain⟨R,U,k3⟩:=Zre J;rw[k3] at h2;have I:(Z0 (Vm (Zas w)) k).2=0:=h2;have:=Zco I;unfold Z0 at I this;rw[Zj0 R U,jJ (by omega),jJ (λx=>x rfl),jJ (λx=>x hf)] at I this;by_cases q:eckF w=0
  ·exact q
  ·rw[jM q] at I;exact ka I q
 ·intro h
  have J:(X9 w).2=0:=by
   unfold eckF at h;split at h
   ·rename_i q;exact ka h q
   ·rename_i q;exact bB.1 q
  obtain⟨R,U,k3⟩:=Zre J;refine⟨J,?_⟩;rw[k3];show(Z0 (Vm (Zas w)) k).2=0;unfold Z0;rw[Zj0 R U,jJ (by omega),jJ (λx=>x rfl),jJ (λx=>x hf),jJ (λx=>x h)]
theorem Yjp{s:List Nat} {k:Int} (h:(Z0 s k).2=0):1<=k/\k<=6:=by
 unfold Z0 at h;split at h
 ·cases h
 ·omega
end
section
open Go
structure AwX where
 k:Nat
 r:Nat
 L:List Cls
def s14(T:Fr thy) (h:Hp thy):SV thy:=match T 14 with| .ptr b _=>(match h b with|some (.raw (_::_::s::_) _ _)=>s|_=> .unk)|_=> .unk
def b14(T:Fr thy) (h:Hp thy) (S:SV thy):List (Nat×Blk thy):=match T 14 with| .ptr b _=>(match h b with|some (.raw (n::f::_) z t)=> [(b,.raw [n,f,S] z t)]|_=> [])|_=> []
def i14(T:Fr thy) (h:Hp thy):List Nat:=match s14 T h with| .sl b _ _ _ _=> [b]|_=> []
noncomputable def AamE(v:Nat):Fr thy->Hp thy->Nat->Ann thy:=λT h i=>{X:=Bool×AwX,fr:=λx=> [(2,T 2),(8,T 8),(10,T 10),(12,T 12),(13,T 13),(14,T 14),(v,.int ab .i64 x.2.k)],bl:=λx=>(match x.1 with|true=>(i,.rows bA x.2.L 0)::b14 T h (.sl i 0 x.2.L.length 9 au)|false=>b14 T h (s14 T h)++blkS h (s14 T h))++(blkP h (T 8)++(blkP h (T 10)++blkP h (T 12))),src:=λx=>(match x.1 with|true=> [(i,3014)]|false=> []),md:=bOf (T 14)::i14 T h,ih:=i+1,M:=i+60,meas:=λx=>x.2.r,ex:=ex2,al:=al2,exOk:=Zgg,alOk:=Zgh}
noncomputable def AamF:Fr thy->Hp thy->Nat->Ann thy:=λT h i=>{X:=LwX,fr:=λx=> [(10,T 10),(12,T 12),(13,T 13),(14,T 14),(22,.int ab .i64 x.k)],bl:=λx=>b14 T h (s14 T h)++(blkS h (s14 T h)++(blkP h (T 10)++blkP h (T 12))),src:=λ_=> [],md:= [],ih:=i,M:=i+60,meas:=λx=>x.r}
noncomputable def FamL:Fns thy:=addL (addL (addL (Znt (addS (addS (addS (addS FlwE 6 SgoE) 9 SprE) 16 SclE) 17 SscE)) 4 17 (AamE 15) E) 4 24 (AamE 17) E) 4 33 AamF E
theorem Yfl:FnsOk E FamL:=Zm E_ok (Zm E_ok (Zm E_ok (Zf5 (Zb (Zb (Zb (Zb Yhj Zt5) Z6t) Yjj) Yjl)) _ _ _) _ _ _) _ _ _
abbrev eT(x:Ex):Ex:=bV (aM x) (bX x) (bD x) (bE x) (bF x) (bG x) (bw x)
abbrev cT(x:Cls):Cls:=eF (aK x) (aT x) (eT (ay x))
abbrev sfT(t:Tar):Prop:=ba t=ba t/\aZ t=aZ t/\(ar t=ar t/\(ab=ac->ab=ac))/\True
@[irreducible] def amT(y U I:Tar×Int) (k:Int) (v:Bool) (L:List Cls) (P:Prop) (X Y:Prop->Prop):Prop:=
 Y (((∀(c:Cls),c∈L->cW (ay c)<=(10000:Nat)/\aa (aT c)+(1:Nat)<=(1000000000:Nat))/\aa (L)+(1:Nat)<=(1000000000:Nat))/\∀
 (a0:List Nat×Int),a0=X9 (jV (ba (ak y)) (aZ (ak y)) (L))->True/\∀(a2:Tar×Int),a2=Z0 (ak a0) k->∃(Q:Bool->
 Prop),(((aD a0 !=(0:Int))=ac->Q ac)/\((aD a0 !=(0:Int))=ab->((aD a2 !=(0:Int))=ac->Q ac)/\((aD a2 !=(0:Int))=
 ab->Q ab)))/\(Q ac->((aD I==(0:Int))=ac->SmT1 (ak y)/\∀(J:Bool),J=eqE (ak y) (ak I)->J=v)/\((aD I==(0:
 Int))=ab->ab=v))/\(Q ab->∃(R:LwX->Prop),(∃(x:LwX),R x/\ac=ac/\((0:Nat)=(0:Nat)/\(0:Nat)=(0:Nat)/\aD I=aD I/\(0:
 Nat)=(0:Nat)/\(0:Int)=(↑(LwX.k x):Int)/\True)/\(ba (ak y)=ba (ak y)/\aZ (ak y)=aZ (ak y)/\P/\True)/\X (sfT
 (ak U)/\sfT (ak I)/\True))/\∀(x:LwX),R x->(decide ((↑(LwX.k x):Int)<(↑(aa (ar (ak U))):Int))=ac->(0:Int)<=(↑(LwX.k
 x):Int)/\(↑(LwX.k x):Int)+(1:Int)<=(↑(aa (ar (ak U))):Int)/\∀(a4:Cls),(ar (ak U))[af (↑(LwX.k x):Int)]? =
 ae a4->aa (ar (ak I))<=(1000000:Nat)/\∀(J:Cls),J=clF (ar (ak I)) (aK a4)->(0:Int)<=(↑(LwX.k x):Int)/\
 (↑(LwX.k x):Int)+(1:Int)<=(↑(aa (ar (ak U))):Int)/\∀(a5:Cls),(ar (ak U))[af (↑(LwX.k x):Int)]? =ae a5->
 (cW (eT (ay J))+(1:Nat)<=(1000000000:Nat)/\aa (aT J)+(1:Nat)<=(1000000000:Nat))/\∀(a3:Bool),a3=eqE (cT J) (cT a5)->((!a3)
 =ac->ab=v)/\((!a3)=ab->∃(a1:LwX),R a1/\a1.2+(1:Nat)<=x.2/\ac=ac/\((0:Nat)=(0:Nat)/\(0:Nat)=(0:Nat)/\aD I=aD
 I/\(0:Nat)=(0:Nat)/\wr ag ((↑(LwX.k x):Int)+(1:Int))=(↑(LwX.k a1):Int)/\True)/\(ba (ak y)=ba (ak y)/\aZ (ak
 y)=aZ (ak y)/\P/\True)/\X (sfT (ak U)/\sfT (ak I)/\True)))/\(decide ((↑(LwX.k x):Int)<(↑(aa (ar (ak U))):Int))
 =ab->((aD I==(0:Int))=ac->Y (((∀(c:Cls),c∈L->cW (ay c)+(1:Nat)<=(1000000000:Nat)/\aa (aT c)+(1:Nat)<=(1000000000
 :Nat))/\aa (L)+(1:Nat)<=(1000000000:Nat))/\∀(J:Bool),J=eqE (jV (ba (ak y)) (aZ (ak y)) (L)) (ak I)->J=v))/\
 ((aD I==(0:Int))=ab->ab=v))))
abbrev sf3(y I J:Tar×Int):Prop:=sfT (ak y)/\sfT (ak I)/\sfT (ak J)/\True
abbrev sfH(k:Int) (I:Tar×Int) (p:Prop):Prop:=k=k/\(0:Nat)=(0:Nat)/\(0:Nat)=(0:Nat)/\(0:Nat)=(0:Nat)/\aD I=aD I/\(0:Nat)=(0:Nat)/\p
abbrev amT0(y I J:Tar×Int) (k:Int) (v:Bool):Prop:=amT y I J k v [] (aG au (0:Nat) (0:Nat)=aG au (0:Nat) (0:Nat)) (λp=>p) (λp=>p)
abbrev amT1(y I J:Tar×Int) (k:Int) (v:Bool) (z:AwX):Prop:=amT y I J k v (aw (aa (AwX.L z)) (cx (0:Nat) (AwX.L z))) ((0:Nat)=(0:Nat)/\aa (AwX.L z)=aa (AwX.L z)/\True) (λp=>(AwX.L z=AwX.L z/\mx2 (0:Nat) (aa (AwX.L z))=mx2 (0:Nat) (aa (AwX.L z)))/\p) (λp=>(0:Nat)+aa (AwX.L z)<=aa (AwX.L z)/\p)
abbrev Zvm(y:Tar×Int):Prop:=
 ba (ak y)=ba (ak y)/\aZ (ak y)=aZ (ak y)/\False/\True
abbrev Zao(I:AwX) (J:AwX):Prop:=
 wr ag ((↑(AwX.k I):Int)+(1:Int))=(↑(AwX.k J):Int)/\True
abbrev Zk8(I:AwX) (J:AwX):Prop:=
 wr ag ((↑(AwX.k I):Int)+(1:Int))=(↑(AwX.k J):Int)/\True
abbrev Zec(J:AwX) (I:Tar×Int):Prop:=
 (↑(AwX.k J):Int)<(↑(aa (ar (ak I))):Int)
abbrev Zvn(y:Tar×Int):Prop:=
 ba (ak y)=ba (ak y)/\aZ (ak y)=aZ (ak y)/\aG au (0:Nat) (0:Nat)=aG au (0:Nat) (0:Nat)/\True
abbrev Zvo(I:AwX):Prop:=
 aa (AwX.L I)<=aa (AwX.L I)/\(0:Nat)<=aa (AwX.L I)/\(aa (AwX.L I)+(1:Nat))*(112:Nat)<=(140737488355328:Nat)
abbrev Zo8(R:Bool×AwX->Prop) (U:AwX) (k:Int) (J:Tar×Int) (y:Tar×Int) (a0:Tar×Int):Prop:=
 ∃(I:AwX),R (ab,I)/\I.2+(1:Nat)<=U.2/\ac=ac/\sfH k J (Zk8 U I)/\(Zvm y)/\sf3 y a0 J
abbrev Zo9(I:AwX) (y:Tar×Int):Prop:=
 (↑(AwX.k I):Int)<(↑(aa (ar (ak y))):Int)
abbrev Z2j(I:AwX):Prop:=
 aa (AwX.L I)<=aa (AwX.L I)/\(0:Nat)<=aa (AwX.L I)/\(aa (AwX.L I)+(1:Nat))*(112:Nat)<=(140737488355328:Nat)
abbrev Z2k(y:Tar×Int) (I:AwX):Prop:=
 ba (ak y)=ba (ak y)/\aZ (ak y)=aZ (ak y)/\((0:Nat)=(0:Nat)/\aa (AwX.L I)=aa (AwX.L I)/\True)
 /\True
abbrev Zse(y:Tar×Int) (I:AwX) (J:AwX):Prop:=
 ba (ak y)=ba (ak y)/\aZ (ak y)=aZ (ak y)/\((0:Nat)=(0:Nat)/\aa (AwX.L I)+(1:Nat)=aa (AwX.L
 J)/\True)/\True
abbrev Zsf(y:Tar×Int) (I:AwX) (J:AwX):Prop:=
 ba (ak y)=ba (ak y)/\aZ (ak y)=aZ (ak y)/\((0:Nat)=(0:Nat)/\aa (AwX.L I)+(1:Nat)=aa (AwX.L
 J)/\True)/\True
abbrev Zsg(y:Tar×Int) (I:AwX):Prop:=
 ba (ak y)=ba (ak y)/\aZ (ak y)=aZ (ak y)/\((0:Nat)=(0:Nat)/\(1:Nat)=aa (AwX.L I)/\True)/\True
abbrev Zsh(y:Tar×Int) (I:AwX) (J:AwX):Prop:=
 ba (ak y)=ba (ak y)/\aZ (ak y)=aZ (ak y)/\((0:Nat)=(0:Nat)/\aa (AwX.L I)=aa (AwX.L J)/\True)
 /\True
abbrev Zmj(R:Bool×AwX->Prop) (U:AwX) (k:Int) (J:Tar×Int) (y:Tar×Int) (a0:Tar×Int):Prop:=
 ∃(I:AwX),R (ab,I)/\I.2+(1:Nat)<=U.2/\ac=ac/\sfH k J (Zao U I)/\(Zvm y)/\False/\sf3 y a0 J
abbrev Zmk(R:Bool×AwX->Prop) (U:AwX) (k:Int) (J:Tar×Int) (y:Tar×Int) (a0:Tar×Int):Prop:=
 ∃(I:AwX),R (ab,I)/\I.2+(1:Nat)<=U.2/\ac=ac/\sfH k J (Zao U I)/\(Zvm y)/\sf3 y a0 J
abbrev qEK1(I:Tar×Int):=(ar (ak I))
abbrev qEK2(I:AwX):=(↑(AwX.k I):Int)
abbrev qEK3(I:Cls):=(aK I==toL (dZ #[]))
abbrev qEK6:=(0:Nat)
abbrev qEK4(I:AwX) (J:Cls) (R:AwX):=(aw (aa (AwX.L I)) (AwX.L I)++ [cT J]=AwX.L R/\qEK6=qEK6)
abbrev qEK5(I:Tar×Int):=(↑(aa (qEK1 I)):Int)
abbrev qEK7:=(0:Int)
abbrev qEK8(I:Tar×Int) (J:AwX) (R:AwX):=(ba (ak I)=ba (ak I)/\aZ (ak I)=aZ (ak I)/\(qEK6=qEK6/\aa (AwX.L J)=aa (AwX.L R)/\True)/\True)
abbrev qEK9:=(1:Nat)
abbrev qEKa:=(1:Int)
abbrev qEKb:=(1000000:Nat)
theorem Z83(s1 s2:List Nat) (k:Int) (v:Bool):Zk E FamL (vc E FamL 400) 4 [.str ab s1,.str ab s2,.int ab .i64 k] hp0 0 (λr=>ret E (patch hp0 0 r) r.v (.bool ab v))=(
 True/\∀(y:Bool),y=ac->((!y)=ac->ab=v)/\((!y)=ab->True/\∀(y:Bool),y=fewE (rp2 k s1 s2)->((!y)=ac->ac=v)/\((!y)=ab->True/\∀(y:Tar×Int),y=Z0 s1 k->True/\∀(J:Tar×Int),J=Z0 s2 k->2<=8/\∀(a0:Tar×Int),a0=inF (rp2 k s1 s2) qEK7 k 7->((aD y !=qEK7)=ac->((aD a0==220)=ac->ac=v)/\((aD a0==220)=ab->((aD a0==qEKa)=ac->ac=v)/\((aD a0==qEKa)=ab->ab=v)))/\((aD y !=qEK7)=ab->((aD J !=qEK7)=ac->((aD a0==qEK7)=ac->SmT1 (ak y)/\∀(U:Bool),U=eqE (ak y) (ak a0)->U=v)/\((aD a0==qEK7)=ab->ab=v))/\((aD J !=qEK7)=ab->∃(R:Bool×AwX->Prop),((∃(U:AwX),R (ab,U)/\ac=ac/\sfH k a0 (qEK7=(qEK2 U)/\True)/\(Zvn y)/\sf3 y J a0)\/∃(y:AwX),R (ac,y)/\ac=ac/\False)/\(∀(U:AwX),R (ab,U)->(decide (Zo9 U y)=ac->qEK7<=(qEK2 U)/\(qEK2 U)+qEKa<=(qEK5 y)/\∀(x:Cls),(qEK1 y)[af (qEK2 U)]? =ae x->aa (qEK1 J)<=qEKb/\∀(I:Cls),I=clF (qEK1 J) (aK x)->((qEK3 I)=ac->qEK7<=(qEK2 U)/\(qEK2 U)+qEKa<=(qEK5 y)/\∀(x:Cls),(qEK1 y)[af (qEK2 U)]? =ae x->(Zo8 R U k a0 y J)\/∃(a2:AwX),R (ac,a2)/\a2.2+qEK9<=U.2/\ac=ac/\sfH k a0 (Zk8 U a2)/\([cT x]=AwX.L a2/\qEK6=qEK6)/\(Zsg y a2)/\sf3 y J a0)/\((qEK3 I)=ab->(Zo8 R U k a0 y J)\/∃(a2:AwX),R (ac,a2)/\a2.2+qEK9<=U.2/\ac=ac/\sfH k a0 (Zk8 U a2)/\([cT I]=AwX.L a2/\qEK6=qEK6)/\(Zsg y a2)/\sf3 y J a0))/\(decide (Zo9 U y)=ab->∃(R:Bool×AwX->Prop),((∃(I:AwX),R (ab,I)/\ac=ac/\sfH k a0 (qEK7=(qEK2 I)/\True)/\(Zvn y)/\sf3 y J a0)\/∃(y:AwX),R (ac,y)/\ac=ac/\False)/\(∀(I:AwX),R (ab,I)->(decide (Zec I J)=ac->qEK7<=(qEK2 I)/\(qEK2 I)+qEKa<=(qEK5 J)/\∀(x:Cls),(qEK1 J)[af (qEK2 I)]? =ae x->aa (qEK1 y)<=qEKb/\∀(a2:Cls),a2=clF (qEK1 y) (aK x)->((qEK3 a2)=ac->qEK7<=(qEK2 I)/\(qEK2 I)+qEKa<=(qEK5 J)/\∀(x:Cls),(qEK1 J)[af (qEK2 I)]? =ae x->(Zmk R I k a0 y J)\/∃(a1:AwX),R (ac,a1)/\a1.2+qEK9<=I.2/\ac=ac/\sfH k a0 (Zao I a1)/\([cT x]=AwX.L a1/\qEK6=qEK6)/\(ba (ak y)=ba (ak y)/\aZ (ak y)=aZ (ak y)/\(qEK6=qEK6/\qEK9=aa (AwX.L a1)/\True)/\True)/\sf3 y J a0)/\((qEK3 a2)=ab->(∃(a1:AwX),R (ab,a1)/\a1.2+qEK9<=I.2/\ac=ac/\sfH k a0 (Zao I a1)/\(Zvn y)/\sf3 y J a0)\/∃(y:AwX),R (ac,y)/\y.2+qEK9<=I.2/\ac=ac/\False))/\(decide (Zec I J)=ab->amT0 y J a0 k v))/\∀(I:AwX),R (ac,I)->(decide (Zec I J)=ac->qEK7<=(qEK2 I)/\(qEK2 I)+qEKa<=(qEK5 J)/\∀(x:Cls),(qEK1 J)[af (qEK2 I)]? =ae x->aa (qEK1 y)<=qEKb/\∀(a2:Cls),a2=clF (qEK1 y) (aK x)->((qEK3 a2)=ac->qEK7<=(qEK2 I)/\(qEK2 I)+qEKa<=(qEK5 J)/\∀(x:Cls),(qEK1 J)[af (qEK2 I)]? =ae x->(Z2j I)/\((Zmk R I k a0 y J)\/∃(a1:AwX),R (ac,a1)/\a1.2+qEK9<=I.2/\ac=ac/\sfH k a0 (Zao I a1)/\(qEK4 I x a1)/\(Zse y I a1)/\sf3 y J a0))/\((qEK3 a2)=ab->(Zmk R I k a0 y J)\/∃(a1:AwX),R (ac,a1)/\a1.2+qEK9<=I.2/\ac=ac/\sfH k a0 (Zao I a1)/\(AwX.L I=AwX.L a1/\qEK6=qEK6)/\(Zsh y I a1)/\sf3 y J a0))/\(decide (Zec I J)=ab->amT1 y J a0 k v I)))/\∀(U:AwX),R (ac,U)->(decide (Zo9 U y)
=ac->qEK7<=(qEK2 U)/\(qEK2 U)+qEKa<=(qEK5 y)/\∀(x:Cls),(qEK1 y)[af (qEK2 U)]? =ae x->aa (qEK1 J)<=qEKb/\∀(I:Cls),I=clF (qEK1 J) (aK x)->((qEK3 I)=ac->qEK7<=(qEK2 U)/\(qEK2 U)+qEKa<=(qEK5 y)/\∀(x:Cls),(qEK1 y)[af (qEK2 U)]? =ae x->(Zvo U)/\((Zo8 R U k a0 y J)\/∃(a2:AwX),R (ac,a2)/\a2.2+qEK9<=U.2/\ac=ac/\sfH k a0 (Zk8 U a2)/\(qEK4 U x a2)/\(Zsf y U a2)/\sf3 y J a0))/\((qEK3 I)=ab->(Zvo U)/\((Zo8 R U k a0 y J)\/∃(a2:AwX),R (ac,a2)/\a2.2+qEK9<=U.2/\ac=ac/\sfH k a0 (Zk8 U a2)/\(qEK4 U I a2)/\(Zsf y U a2)/\sf3 y J a0)))/\(decide (Zo9 U y)=ab->∃(R:Bool×AwX->Prop),((∃(I:AwX),R (ab,I)/\ac=ac/\sfH k a0 (qEK7=(qEK2 I)/\True)/\(Z2k y U)/\(AwX.L U=AwX.L U/\qEK6=qEK6)/\sf3 y J a0)\/∃(I:AwX),R (ac,I)/\ac=ac/\sfH k a0 (qEK7=(qEK2 I)/\True)/\(AwX.L U=AwX.L I/\qEK6=qEK6)/\(qEK8 y U I)/\sf3 y J a0)/\(∀(I:AwX),R (ab,I)->(decide (Zec I J)=ac->qEK7<=(qEK2 I)/\(qEK2 I)+qEKa<=(qEK5 J)/\∀(x:Cls),(qEK1 J)[af (qEK2 I)]? =ae x->aa (qEK1 y)<=qEKb/\∀(a2:Cls),a2=clF (qEK1 y) (aK x)->((qEK3 a2)=ac->qEK7<=(qEK2 I)/\(qEK2 I)+qEKa<=(qEK5 J)/\∀(x:Cls),(qEK1 J)[af (qEK2 I)]? =ae x->(Zvo U)/\((Zmj R I k a0 y J)\/∃(a1:AwX),R (ac,a1)/\a1.2+qEK9<=I.2/\ac=ac/\sfH k a0 (Zao I a1)/\(qEK4 U x a1)/\(ba (ak y)=ba (ak y)/\aZ (ak y)=aZ (ak y)/\(qEK6=qEK6/\aa (AwX.L U)+qEK9=aa (AwX.L a1)/\True)/\True)/\sf3 y J a0))/\((qEK3 a2)=ab->(∃(a1:AwX),R (ab,a1)/\a1.2+qEK9<=I.2/\ac=ac/\sfH k a0 (Zao I a1)/\(Z2k y U)/\(AwX.L U=AwX.L U/\qEK6=qEK6)/\sf3 y J a0)\/∃(a1:AwX),R (ac,a1)/\a1.2+qEK9<=I.2/\ac=ac/\sfH k a0 (Zao I a1)/\(AwX.L U=AwX.L a1/\qEK6=qEK6)/\(qEK8 y U a1)/\sf3 y J a0))/\(decide (Zec I J)=ab->amT1 y J a0 k v U))/\∀(I:AwX),R (ac,I)->(decide (Zec I J)=ac->qEK7<=(qEK2 I)/\(qEK2 I)+qEKa<=(qEK5 J)/\∀(x:Cls),(qEK1 J)[af (qEK2 I)]? =ae x->aa (qEK1 y)<=qEKb/\∀(a2:Cls),a2=clF (qEK1 y) (aK x)->((qEK3 a2)=ac->qEK7<=(qEK2 I)/\(qEK2 I)+qEKa<=(qEK5 J)/\∀(x:Cls),(qEK1 J)[af (qEK2 I)]? =ae x->(Z2j I)/\((Zmj R I k a0 y J)\/∃(a1:AwX),R (ac,a1)/\a1.2+qEK9<=I.2/\ac=ac/\sfH k a0 (Zao I a1)/\(qEK4 I x a1)/\(Zse y I a1)/\sf3 y J a0))/\((qEK3 a2)=ab->(Zmj R I k a0 y J)\/∃(a1:AwX),R (ac,a1)/\a1.2+qEK9<=I.2/\ac=ac/\sfH k a0 (Zao I a1)/\(AwX.L I=AwX.L a1/\qEK6=qEK6)/\(Zsh y I a1)/\sf3 y J a0))/\(decide (Zec I J)=ab->amT1 y J a0 k v I))))))):=by kernel_rfl
theorem Z2l{t a:List Cls} {c:Cls} (h:c∈Zgz t a):c∈t\/c∈a\/c=zCE:=by
 rcases cf.1 h with h|h
 ·obtain⟨d,hd,rfl⟩:=List.mem_map.1 h
  unfold repC;split
  ·exact .inl hd
  ·exact .inr (Yjn d.name)
 ·exact .inr (.inl (cM.1 h).1)
theorem Z84{t a:Tar} (I:SmE t) (J:SmE a) (U:t.clauses.length<=64) (l2:a.clauses.length<=64) (n:List Nat) (f:Int):SmE ⟨n,f,Zgz t.clauses a.clauses⟩:=by
 refine⟨λc R=> ?_,?_⟩
 ·rcases Z2l R with h|h|h
  ·exact I.1 c h
  ·exact J.1 c h
  ·rw[h];decide
 ·show(Zgz _ _).length<_
  unfold Zgz;rw[az,cK];have:=dc (newC t.clauses) a.clauses;omega
theorem Zvp(t:Tar):sfT t:=⟨rfl,rfl,⟨rfl,id⟩,jX⟩
theorem Yds{y I y2:Tar×Int} {k:Int} {L:List Cls} {P:Prop} {X Y:Prop->Prop} (sm:SmE y.1) (a2:SmE I.1) (hk:1<=k/\k<=6) (hf:y.1.for_=k) (ht:NmE y.1.clauses) (ha:NmE I.1.clauses) (l1:y.1.clauses.length<=64) (l2:I.1.clauses.length<=64) (hz:L=Zgz y.1.clauses I.1.clauses) (h2:y2=if eckF ⟨y.1.name,y.1.for_,L⟩=0 then(⟨y.1.name,y.1.for_,L⟩,0) else(y.1,0)) (hP:P) (hX:∀p,p->X p) (hY:∀p,p->Y p):amT y I y2 k ac L P X Y:=by
 have a0:SmE ⟨y.1.name,y.1.for_,L⟩:=by rw[hz];exact Z84 sm a2 l1 l2 _ _
 unfold amT;simp only[eT,cT,gF,Zdq,true_and,and_true,ku,kK,fO,fG,bk,iz,gp,ij,fV,bj,bY,aN,aP];refine hY _ ⟨⟨λc J=>a0.1 c J,a0.2⟩,λp hp q U=> ?_⟩;have hs:=Ynn (w:=⟨y.1.name,y.1.for_,L⟩) (k:=k) hf hk;rw[<-hp,<-U] at hs
 refine⟨λb=>b=ac↔¬eckF ⟨y.1.name,y.1.for_,L⟩=0,⟨λh=>⟨λ_ e=>h (hs.2 e).1,λ_=>rfl⟩,λh=>⟨λh'=>⟨λ_ e=>h' (hs.2 e).2,λ_=>rfl⟩,λh'=>⟨(λe=>by cases e),λe=>ka (hs.1 ⟨h,h'⟩) e⟩⟩⟩,λU=> ?_,λU=> ?_⟩
 ·have h0:=U.1 rfl
  rw[jJ h0] at h2;subst h2;exact⟨λ_=>⟨Z3d sm,λb R=>by rw[R];exact Um _⟩,λh=>h rfl⟩
 ·have h0:eckF ⟨y.1.name,y.1.for_,L⟩=0:=bB.1 λh=>by have:=U.2 h;cases this
  rw[jM h0] at h2;subst h2;have a3:L.length<=1000000:=by
   have:=X6 (Yz h0);exact bS this (by decide)
  refine⟨λx=>x.k<=I.1.clauses.length/\x.r=I.1.clauses.length-x.k,⟨⟨0,I.1.clauses.length,ac⟩,⟨aW _,rfl⟩,rfl,hP,hX _ ⟨Zvp _,Zvp _⟩⟩,?_⟩;rintro x ⟨hx,hr⟩;refine aC (λg=>⟨by omega,by omega,λc J=>⟨a3,λd hd=>⟨by omega,by omega,λc2 a1=> ?_⟩⟩⟩) (λg=>⟨λ_=>hY _ ⟨⟨λc J=>⟨?_,(a0.1 c J).2⟩,a0.2⟩,λb R=>by rw[R];exact Um _⟩,λh=>h rfl⟩)
  ·rw[J] at a1
   cases a1;have hm:=aL J;have e:d=c:=by rw[hd];show clF L c.name=c;rw[hz];exact Z0m ht ha hm
   subst e;have s:=a2.1 d hm;refine⟨⟨by have:=s.1;omega,s.2⟩,λb R=>⟨λh=> ?_,λh=>⟨⟨x.k+1,I.1.clauses.length-(x.k+1),ac⟩,⟨by dsimp only;omega,rfl⟩,by dsimp only;omega,wr64 (by omega) (by omega),hP,hX _ ⟨Zvp _,Zvp _⟩⟩⟩⟩;rw[R,Um] at h;cases h
  ·have:=(a0.1 c J).1;show c.pay.sz+1<=_;omega
theorem Z2m(s1 s2:List Nat) (k:Int):PureC E 4 [.str ab s1,.str ab s2,.int ab .i64 k] (.bool ab ac):=by
 refine Za E_ok (Zd E_ok Yfl 400) ?_;rw[Z83];delta qEK1 qEK2 qEK3 qEK6 qEK4 qEK5 qEK7 qEK8 qEK9 qEKa qEKb;unfold Zmk Zmj Zsh Zsg Zsf Zse Z2k Z2j Zo9 Zo8 Zvo Zvn Zec Zk8 Zao Zvm;simp only[sfT,sf3,sfH,eT,cT,gF,Zdq,bk,bq,fO,fG,true_and,and_true,ku,kK,and_false,false_and,exists_false,or_false,false_or,aV,dW,iz,gp,ij,fV,bj,bY,aN,aP,av,aW];intro b hb
 refine⟨λh=>(by rw[hb] at h;cases h),λ_ b2 _ _ y hy y1 a1=>⟨by decide,λy2 h2=> ?_⟩⟩;rw[in2,<-hy,<-a1] at h2;have sm:SmE y.1:=by rw[hy];exact Zjt _ _
 have a2:SmE y1.1:=by rw[a1];exact Zjt _ _
 refine⟨λh0 n1 n2=> ?_,λh0=>⟨λh1=> ?_,λh1=> ?_⟩⟩
 ·rw[jM h0] at h2
  subst h2;split at n1
  ·exact n1 rfl
  ·rename_i q;rw[jJ q] at n2;exact n2 rfl
 ·rw[jJ (λh=>h h0),jM h1] at h2
  subst h2;exact⟨λ_=>⟨Z3d sm,λb hb=>by rw[hb];exact Um _⟩,λh=>h rfl⟩
 ·rw[jJ (λh=>h h0),jJ (λh=>h h1)] at h2
  have hk:=Yjp (hy▸h0:(Z0 s1 k).2=0);have hf:y.1.for_=k:=by rw[hy];exact Zrj (hy▸h0)
  have e1:eckF y.1=0:=by rw[hy];exact Zco (hy▸h0)
  have e2:eckF y1.1=0:=by rw[a1];exact Zco (a1▸h1)
  have ht:=Yer (Yz e1);have ha:=Yer (Yz e2);have l1:=X6 (Yz e1);have l2:=X6 (Yz e2);rw[Ynm ht ha] at h2;clear hy a1 e1 e2;have z0:toL {data:= #[]}= []:=rfl;rw[z0];have f0:Zgz y.1.clauses y1.1.clauses= []->amT0 y y1 y2 k true:=λh=>Yds sm a2 hk hf ht ha l1 l2 h.symm (by rw[<-h];exact h2) rfl (λ_ h=>h) (λ_ h=>h);have f1:∀z:AwX,z.L=Zgz y.1.clauses y1.1.clauses->amT1 y y1 y2 k ac z:=λz h=>by
   unfold amT1;rw[dW,aV];exact Yds sm a2 hk hf ht ha l1 l2 h (by rw[h];exact h2) ⟨rfl,rfl,jX⟩ (λ_ h=>⟨⟨rfl,rfl⟩,h⟩) (λ_ h=>⟨by omega,h⟩)
  generalize y.1.clauses=T at*;generalize y1.1.clauses=A at*;have hr:∀x,((clF A x.name).name= []->repC A x=x)/\((clF A x.name).name≠ []->repC A x=clF A x.name):=λx=>⟨λh=>jM h,λh=>jJ h⟩;have hn:∀x,((clF T x.name).name= []->newC T x=ac)/\((clF T x.name).name≠ []->newC T x=ab):=λx=>⟨λh=>jq h,λh=>jI h⟩
  let J:Bool×AwX->List Cls:=λp=>if p.1=ac then p.2.L else[]
  let I1:Bool×AwX->Prop:=λp=>p.2.k<=T.length/\p.2.r=T.length-p.2.k/\J p=(T.take p.2.k).map (repC A)
  let I2:Bool×AwX->Prop:=λp=>p.2.k<=A.length/\p.2.r=A.length-p.2.k/\J p=T.map (repC A)++(A.take p.2.k).filter (newC T)
  have tk:∀{l:List Cls} {k:Nat} {x:Cls},l[k]? =ae x->l.take (k+1)=l.take k++ [x]:=λh=>by rw[cA,h];rfl
  have s1:∀(b:Bool) (z:AwX) (x v:Cls),I1 (b,z)->T[z.k]? =ae x->repC A x=v->∃w:AwX,I1 (ac,w)/\w.r+1<=z.r/\wr .i64 (↑z.k+1)=↑w.k/\J (b,z)++ [v]=w.L/\(J (b,z)).length+1=w.L.length:=λb z x v ⟨h1,h2,h3⟩ R hv=>by
   have:=(ai.1 R).1;refine⟨⟨z.k+1,T.length-(z.k+1),J (b,z)++ [v]⟩,⟨this,rfl,?_⟩,by dsimp only at*;omega,wr64 (by omega) (by omega),rfl,by rw[az];rfl⟩;show J (b,z)++ [v]=_;rw[h3,tk R,eC,<-hv];rfl
  have s2:∀(b:Bool) (z:AwX) (x:Cls),I2 (b,z)->A[z.k]? =ae x->(newC T x=ac->∃w:AwX,I2 (ac,w)/\w.r+1<=z.r/\wr .i64 (↑z.k+1)=↑w.k/\J (b,z)++ [x]=w.L/\(J (b,z)).length+1=w.L.length)/\(newC T x=ab->∃w:AwX,I2 (b,w)/\w.r+1<=z.r/\wr .i64 (↑z.k+1)=↑w.k/\z.L=w.L/\z.L.length=w.L.length):=λb z x ⟨h1,h2,h3⟩ R=>by
   have:=(ai.1 R).1;refine⟨λhv=>⟨⟨z.k+1,A.length-(z.k+1),J (b,z)++ [x]⟩,⟨this,rfl,?_⟩,by dsimp only at*;omega,wr64 (by omega) (by omega),rfl,by rw[az];rfl⟩,λhv=>⟨⟨z.k+1,A.length-(z.k+1),z.L⟩,⟨this,rfl,?_⟩,by dsimp only at*;omega,wr64 (by omega) (by omega),rfl,rfl⟩⟩
   ·show J (b,z)++ [x]=_
    rw[h3,tk R,fX,<-be]
    congr 1
    rw[eW,jM hv];rfl
   ·show J (b,z)=_
    rw[h3,tk R,fX]
    congr 1
    rw[eW,jJ (by rw[hv];decide)];exact(cG _).symm
  have b1:∀(b:Bool) (z:AwX),I1 (b,z)->(J (b,z)).length<=64:=λb z h=>by
   rw[show J (b,z)=(T.take z.k).map (repC A) from h.2.2,cK,bi];omega
  have b2:∀(b:Bool) (z:AwX),I2 (b,z)->(J (b,z)).length<=128:=λb z h=>by
   rw[show J (b,z)=T.map (repC A)++(A.take z.k).filter (newC T) from h.2.2,az,cK];have q1:=dc (newC T) (A.take z.k);have q2:=List.length_take_le z.k A;have q3:(A.take z.k).length<=A.length:=List.length_take_le' ..;omega
  have e1:∀(b:Bool) (z:AwX),I1 (b,z)->¬(↑z.k:Int)<↑T.length->J (b,z)=T.map (repC A):=λb z h I=>by
   rw[show J (b,z)=(T.take z.k).map (repC A) from h.2.2,bh (by omega)]
  have e2:∀(b:Bool) (z:AwX),I2 (b,z)->¬(↑z.k:Int)<↑A.length->J (b,z)=Zgz T A:=λb z h I=>by
   rw[show J (b,z)=T.map (repC A)++(A.take z.k).filter (newC T) from h.2.2,bh (by omega)];rfl
  have hA:A.length<=1000000:=by omega
  have hT:T.length<=1000000:=by omega
  refine⟨I1,⟨⟨0,T.length,[]⟩,⟨aW _,rfl,rfl⟩,rfl⟩,λz I=>aC (λg=> ?_) (λg=> ?_),λz I=>aC (λg=> ?_) (λg=> ?_)⟩
  ·refine⟨by omega,by omega,λx R=>⟨hA,λd hd=>⟨λU=>⟨by omega,by omega,λx2 a0=> ?_⟩,λU=> ?_⟩⟩⟩
   ·rw[R] at a0;cases a0
    exact s1 ab z x x I R ((hr x).1 (by rw[<-hd];exact U))
   ·exact s1 ab z x d I R (((hr x).2 (by rw[<-hd];exact U)).trans hd.symm)
  ·have q:=e1 _ _ I g
   refine⟨I2,⟨⟨0,A.length,[]⟩,⟨aW _,rfl,by rw[<-q];rfl⟩,rfl⟩,λz I=>aC (λg=> ?_) (λg=> ?_),λz I=>aC (λg=> ?_) (λg=> ?_)⟩
   ·refine⟨by omega,by omega,λx R=>⟨hT,λd hd=>⟨λU=>⟨by omega,by omega,λx2 a0=> ?_⟩,λU=> ?_⟩⟩⟩
    ·rw[R] at a0;cases a0
     exact(s2 ab z x I R).1 ((hn x).1 (by rw[<-hd];exact U))
    ·obtain⟨w,w1,w2,w3,_⟩:=(s2 ab z x I R).2 ((hn x).2 (by rw[<-hd];exact U))
     exact⟨w,w1,w2,w3⟩
   ·exact f0 (e2 _ _ I g).symm
   ·refine⟨by omega,by omega,λx R=>⟨hT,λd hd=>⟨λU=>⟨by omega,by omega,λx2 a0=> ?_⟩,λU=> ?_⟩⟩⟩
    ·rw[R] at a0;cases a0
     exact⟨by have:=b2 _ _ I;show(z.L.length+1)*112<=_;have:z.L.length<=128:=this;omega,(s2 ac z x I R).1 ((hn x).1 (by rw[<-hd];exact U))⟩
    ·exact(s2 ac z x I R).2 ((hn x).2 (by rw[<-hd];exact U))
   ·exact f1 z (e2 _ _ I g)
  ·refine⟨by omega,by omega,λx R=>⟨hA,λd hd=>⟨λU=>⟨by omega,by omega,λx2 a0=> ?_⟩,λU=> ?_⟩⟩⟩
   ·rw[R] at a0;cases a0
    exact⟨by have:z.L.length<=64:=b1 _ _ I;omega,s1 ac z x x I R ((hr x).1 (by rw[<-hd];exact U))⟩
   ·exact⟨by have:z.L.length<=64:=b1 _ _ I;omega,s1 ac z x d I R (((hr x).2 (by rw[<-hd];exact U)).trans hd.symm)⟩
  ·have q:=e1 _ _ I g
   refine⟨λp=>p.1=ac/\I2 p,.inr ⟨⟨0,A.length,z.L⟩,⟨rfl,aW _,rfl,q.trans (cG _).symm⟩,rfl,rfl,rfl⟩,(λz I=>by cases I.1),λz I=>aC (λg=> ?_) (λg=> ?_)⟩
   ·refine⟨by omega,by omega,λx R=>⟨hT,λd hd=>⟨λU=>⟨by omega,by omega,λx2 a0=> ?_⟩,λU=> ?_⟩⟩⟩
    ·rw[R] at a0;cases a0
     obtain⟨w,w1,w2⟩:=(s2 ac z x I.2 R).1 ((hn x).1 (by rw[<-hd];exact U));exact⟨by have:z.L.length<=128:=b2 _ _ I.2;omega,w,⟨rfl,w1⟩,w2⟩
    ·obtain⟨w,w1,w2⟩:=(s2 ac z x I.2 R).2 ((hn x).2 (by rw[<-hd];exact U))
     exact⟨w,⟨rfl,w1⟩,w2⟩
   ·exact f1 z (e2 _ _ I.2 g)
end
section
open Go.ChangeShapes Go.WideShapes Go.ChangeAt Go.RowKit

theorem editionsAmend_lifted(os:Os) (started:os.Started) (H:Type) (enc:TypeId×Value->H):
    ReturnsInHanded {} Tryz.checked os 4 .any (λw args=>(Rows.editionsAmendSpec.pre enc Tryz.prog Tryz.f4 [] ab w args/\laidMetH Tryz.prog Zky w)/\sizedMet enc Tryz.prog Tryz.f4 (OpenSpec.ofChange Rows.editionsAmendSpec) ab w args)
      (Rows.editionsAmendSpec.post enc Tryz.prog Tryz.f4 ab ac ab ab):=by
  refine returnsInHanded_of_change_and (C:=Tryz.checked) (X:=λw _=>laidMetH Tryz.prog Zky w) (λ_ _ _ hh h=>h.of_heap hh) Tryz.own started (by kernel_rfl) Tryz.func4
    (ChangeSpec.witness_shaped (enc:=enc) (C:=Tryz.checked) (os:=os) (X:=λw _=>laidMetH Tryz.prog Zky w) ab (Zqa os) #[.string ⟨#[]⟩,.string ⟨#[]⟩,.int .i64 0] 8 (Z4r os) (Yaq os _) (by kernel_rfl) (by kernel_rfl) (by kernel_rfl) (Yar os _)) ?_
  intro W base args ds gs before hval0 hW _ hz hL _
  have hval:∀(j:Nat) t v,Tryz.f4.params[j]? =ae t->args[j]? =ae v->Value.okWide Tryz.prog W .any base t v:=hval0
  have hW':=hW
  obtain⟨p,q,hA0,hV,rfl,hfz,hnd⟩:=hW
  have hA:DataW.TrodAll enc Tryz.prog W 0 (λ_=>ac) ac Tryz.f4.params.toList args.toList ds p:=hA0
  rw[Tryz.params4] at hA hval hz
  obtain⟨v0,v1,v2,d0,d1,d2,p0,p1,p2,rfl,rfl,rfl,h0,h1,h2⟩:=trodAll_three hA
  obtain⟨rfl,rfl⟩:=trodVars_none hV
  obtain⟨tx,rfl,_,_,_⟩:=ig Tryz.underlying9 (hval 0 9 v0 rfl rfl) h0
  obtain⟨ty,rfl,_,_,_⟩:=ig Tryz.underlying9 (hval 1 9 v1 rfl rfl) h1
  obtain⟨kd,rfl,_,hrkd,_⟩:=open_int Tryz.underlying3 (hval 2 3 v2 rfl rfl) h2
  refine(Z7h (Z2m (toL tx) (toL ty) kd) hL (Zrc (.str _ rfl) (Zrc (.str _ rfl) (Ypn (.int _ _ _))))).mono λen W' ⟨hen,hw⟩=> ?_
  exact⟨_,hen,Z2n Tryz.laidOut rfl Tryz.underlying4 (by kernel_rfl) rfl hW' rfl rfl rfl hw⟩

end
section
open Go.ChangeShapes Go.WideShapes Go.ChangeAt Go.RowKit

theorem Zay:(Rows.editionsAmendRow.inPlace==Tryz.prog.inPlace 4)=true:=by kernel_rfl
theorem Uv:(Rows.editionsAmendRow.unfollowed==Tryz.prog.unfollowed 4)=true:=by kernel_rfl
theorem Zaj:(Rows.editionsAmendRow.recurses==Tryz.prog.recurses 4)=true:=by kernel_rfl
theorem Zcy:(Rows.editionsAmendRow.named==Tryz.prog.varsNamed 4)=true:=by kernel_rfl
theorem Zcz:joinedFacts Tryz.prog 4 Tryz.f4 Rows.editionsAmendSpec Rows.editionsAmendRow=true:=by
  unfold joinedFacts;rw[Zay,Uv,Zaj,Zcy]
  kernel_rfl
theorem Zdv:Tryz.prog.funcNamed Rows.editionsAmendRow.func=ae 4:=by kernel_rfl
theorem editionsAmend_holds:Rows.EditionsAmendSaid:=
  OpenClaim.holds_of_wide 4 Tryz.f4 rfl rfl rfl rfl rfl rfl rfl ⟨rfl,rfl,rfl,rfl,rfl⟩ rfl rfl rfl rfl rfl Zdv Tryz.func4 Zcz
    (jk (by kernel_rfl)) (by unfold Func.isWrapper;first|(rw[jM (by decide+kernel)];kernel_rfl)|(rw[jJ (by decide+kernel)];exact⟨rfl,rfl⟩))
    (λos started H enc _=>editionsAmend_lifted os started H enc)

end
end Go.Proofs.YtbkgpcknakidkaaGreatDoor
