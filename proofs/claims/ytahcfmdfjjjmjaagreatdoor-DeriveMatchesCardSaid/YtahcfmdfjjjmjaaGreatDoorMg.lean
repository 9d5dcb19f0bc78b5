/- Merged texts: TvWb, TvWd, DvY, TvWe, DvZ, DvMt, RowDeriveMatchesA, RowDeriveMatchesB. -/
import Derived.Test.YtahcfmdfjjjmjaaGreatDoorMf
open And renaming intro->aK
open Bool renaming and_eq_false_iff->aX,and_eq_true->az,and_self->dv,and_true->bZ,false->ae,false_eq_true->bc,not_eq_false'->bJ,not_eq_true'->bh,or_eq_false_iff->bD,or_eq_true->bw,true->af,true_and->cm,true_eq_false->bu
open Decidable renaming by_contra->eJ,not_not->bV
open Go.IntKind renaming bits->ak,i64->ac,u8->ax
open Go.Proofs.YtahcfmdfjjjmjaaGreatDoor.DX renaming D->aC,j->eY,k->dx
open Go.Proofs.YtahcfmdfjjjmjaaGreatDoor.Drv renaming amount->dp,code->dr,env->cT,err->ez,leaves->cz
open Go.Proofs.YtahcfmdfjjjmjaaGreatDoor.Env renaming has->bC,v0->bM,v1->bN,v10->bp,v11->bj,v12->bq,v13->bk,v14->br,v15->bm,v2->bO,v3->bP,v4->bQ,v5->bR,v6->bK,v7->bS,v8->bT,v9->bL
open Go.Proofs.YtahcfmdfjjjmjaaGreatDoor.Opn renaming clause->gp,depth->gR,fuel->iE,pc->jK,rest->cP,status->gn,top->fe
open Go.Proofs.YtahcfmdfjjjmjaaGreatDoor.St renaming clause->aw,fuel->aQ,pc->be,stack->aF,start->eR,status->av
open Go.Proofs.YtahcfmdfjjjmjaaGreatDoor.Th renaming bys->cu,digs->dD,ints->gG,vals->eQ
open Go.Proofs.YtahcfmdfjjjmjaaGreatDoor.Val renaming b->cQ,ht->kW,k->cI,l->cM,mk->bd,n->cY
open Go.Value renaming slice->bI
open Int renaming eq_ofNat_of_zero_le->de,ofNat_eq_natCast->bi,toNat->ag,toNat_natCast->bB
open List renaming append_nil->dW,drop->aV,flatten->eE,foldl_append->dZ,getD->aa,getElem?_eq_getElem->aq,getElem?_eq_none->eH,length->ab,length_append->aO,length_cons->aT,length_nil->bF,length_pos_iff->fB,length_take->aW,mem_of_getElem?->cp,take->aj,take_append_drop->dz,take_length->aM,take_of_length_le->aN
open Nat renaming le_refl->aE,le_trans->bY,zero_add->bX,zero_le->bg
open Option renaming none->aD,some->ah
open Option.some renaming inj->aU
open Prod renaming fst->ay,snd->aJ
namespace Go.Proofs.YtahcfmdfjjjmjaaGreatDoor
set_option linter.unusedVariables false
set_option linter.unusedSimpArgs false
set_option linter.unnecessarySimpa false
set_option maxRecDepth 100000
section
open Go
def Adg:Fr thy->Hp thy->Nat->Ann thy:=λT h i=>{X:=DX,fr:=λx=> [(0,T 0),(3,.sl i 0 x.D.length 1 aD),(4,.int ae .i64 x.j)],bl:=λx=> [(i,.rows cu x.D 0)],src:=λ_=> [(i,3)],md:= [bOf (T 3)],ih:=i+1,M:=i+40,meas:=λx=>x.r}
noncomputable def Fdg:Fns thy:=addL F0 183 3 Adg E
theorem Ya5:FnsOk E Fdg:=Zn E_ok F0_ok _ _ _
abbrev qDI1(j:Int) (t:DX):=(Int.fdiv j ((2:Int)^min (ag (eY t)) (ak ac)))
abbrev qDI2:=(0:Nat)
theorem Zlk(n:Int) (z:List Int):Zk E Fdg (vc E Fdg 400) 183 [.int ae .i64 n] hp0 0 (λr=>ret E (patch hp0 0 r) r.v (.psl cu z ae))=(
 ∃(R:DX->Prop),(∃(x:DX),R x/\af=af/\(n=n/\(qDI2=qDI2/\qDI2=ab (aC x)/\True)/\56=eY x/\True)/\ []=aC x/\True)/\∀(x:DX),R x->(decide (eY x>=0)=af->0<=eY x/\∃(Q:Bool->Prop),(((wr ax (qDI1 n x) !=0)=af->Q af)/\((wr ax (qDI1 n x) !=0)=ae->(decide ((↑(ab (aC x)):Int)>0)=af->Q af)/\(decide ((↑(ab (aC x)):Int)>0)=ae->Q ae)))/\(Q af->(ab (aC x)<=ab (aC x)/\qDI2<=ab (aC x)/\(ab (aC x)+1)*1<=140737488355328)/\∃(j:DX),R j/\j.2+1<=x.2/\af=af/\(n=n/\(qDI2=qDI2/\ab (aC x)+1=ab (aC j)/\True)/\wr ac (eY x-8)=eY j/\True)/\(aj (ab (aC x)) (aC x)++ [wr ax (qDI1 n x)]=aC j/\qDI2=qDI2)/\True)/\(Q ae->∃(j:DX),R j/\j.2+1<=x.2/\af=af/\(n=n/\(qDI2=qDI2/\ab (aC x)=ab (aC j)/\True)/\wr ac (eY x-8)=eY j/\True)/\(aC x=aC j/\qDI2=qDI2)/\True))/\(decide (eY x>=0)=ae->qDI2+ab (aC x)<=ab (aC x)/\aj (ab (aC x)) (aC x)=z)):=by kernel_rfl
theorem Zll(n:Int):(digI n).length<=8:=by
 obtain⟨u,j⟩:=de (wru n).1;have:=wru n;rw[Zmx,j,Zhv u (by omega)];exact Zfg 8 u (by omega)
theorem Zlm(n:Int):PureC E 183 [.int ae .i64 n] (.psl cu (digI n) ae):=by
 refine Za E_ok (Zb E_ok Ya5 400) ?_;rw[Zlk];delta qDI1 qDI2;refine⟨λx=>x.r<=8/\x.j=8*(x.r:Int)-8/\x.D.length<=8-x.r/\digG n x.r x.D=digI n,⟨⟨0,8,[],[],0,0,0,56⟩,⟨aE _,rfl,aE _,rfl⟩,rfl,⟨rfl,⟨rfl,rfl,js⟩,rfl,js⟩,rfl,js⟩,?_⟩;rintro x ⟨h1,h2,h3,j⟩;refine aK (λt=> ?_) (λt=> ?_)
 ·have t:=iK t
  obtain⟨q,hq⟩:∃q,x.r=q+1:=⟨x.r-1,by omega⟩;rw[hq] at j;have ej:x.j=((8*q:Nat):Int):=by omega
  have ew:wr .i64 (x.j-8)=8*(q:Int)-8:=by rw[wr64 (by omega) (by omega)];omega
  have U:wr .u8 (n.fdiv (2^min (ag x.j) (ak .i64)))=btI n (8*q):=by rw[ej,bB];rfl
  rw[ew,U];rw[digG] at j;refine⟨by omega,λb=>b=af↔(btI n (8*q)≠0\/x.D≠ []),⟨λJ=> ?_,λJ=>⟨λI=> ?_,λI=> ?_⟩⟩,λR=> ?_,λR=> ?_⟩
  ·exact⟨λ_=>Or.inl (by simpa using J),λ_=>rfl⟩
  ·exact⟨λ_=>Or.inr (λe=>by rw[e] at I;simp at I),λ_=>rfl⟩
  ·refine⟨(λh=>by cases h),λh=> ?_⟩
   rcases h with h|h
   ·exact jv (by simpa using J) h
   ·have:=fB.2 h
    have:=iT I;omega
  ·rw[jh (R.1 rfl)] at j
   exact⟨⟨aE _,bg _,by omega⟩,⟨0,q,x.D++ [btI n (8*q)],[],0,0,0,8*(q:Int)-8⟩,⟨by show q<=8;omega,rfl,by show(x.D++ [btI n (8*q)]).length<=8-q;simp;omega,j⟩,by show q+1<=x.r;omega,rfl,⟨rfl,⟨rfl,by simp,js⟩,rfl,js⟩,⟨by rw[aM],rfl⟩,js⟩
  ·rw[jb (λh=>by have:=R.2 h;cases this)] at j
   exact⟨⟨0,q,x.D,[],0,0,0,8*(q:Int)-8⟩,⟨by show q<=8;omega,rfl,by show x.D.length<=8-q;omega,j⟩,by show q+1<=x.r;omega,rfl,⟨rfl,⟨rfl,rfl,js⟩,rfl,js⟩,⟨rfl,rfl⟩,js⟩
 ·have t:=iT t
  have hr:x.r=0:=by omega
  rw[hr] at j;have j:x.D=digI n:=j;rw[aM];exact⟨by omega,j⟩
def Ain:Fr thy->Hp thy->Nat->Ann thy:=λT h i=>{X:=DX,fr:=λx=> [(5,T 5),(6,.sl i 0 x.D.length 1 aD),(7,.int ae .i64 x.k)],bl:=λx=> [(i,.rows cu x.D 0)],src:=λ_=> [(i,6)],md:= [bOf (T 6)],ih:=i+1,M:=i+40,meas:=λx=>x.r}
noncomputable def Sdg:Sum thy:=Ub (.cons (dInt (E:=E) .i64) .nil) (λ_=>True) (λx=>digI x.1) λy=> .psl cu y ae
noncomputable def Fin1:Fns thy:=addL (addS F0 183 Sdg) 148 8 Ain E
abbrev qDI3(j:List Int):=(↑(ab j):Int)
abbrev qDI4:=(1:Nat)
abbrev qDI5(j:DX):=(↑(dx j):Int)
theorem Zi8(n:Int) (z:List Int):Zk E Fin1 (vc E Fin1 400) 148 [.int ae .i64 n] hp0 0 (λr=>ret E (patch hp0 0 r) r.v (.psl cu z ae))=(
 (decide (n>=0)=af->True/\∀(y:List Int),y=digI n->(y= []-> [wr ax (wr ac (32+(qDI3 y)))]=z)/\(y≠ []->(qDI4+qDI4<=qDI4+ab y/\(qDI4+ab y)*qDI4<=140737488355328)/\0+(qDI4+ab y)<=ab ([wr ax (wr ac (32+(qDI3 y)))]++y)/\aj (qDI4+ab y) ([wr ax (wr ac (32+(qDI3 y)))]++y)=z))/\(decide (n>=0)=ae->True/\∀(y:List Int),y=digI (wr ac (0-wr ac (n+1)))->∃(R:DX->Prop),(∃(x:DX),R x/\af=af/\((y=y/\(ae=af->ae=af))/\(0=0/\qDI4=ab (aC x)/\True)/\0=(qDI5 x)/\True)/\ [wr ax (wr ac (31-(qDI3 y)))]=aC x/\True)/\∀(x:DX),R x->(decide ((qDI5 x)<(qDI3 y))=af->0<=(qDI5 x)/\(qDI5 x)+1<=(qDI3 y)/\∀(t:Int),y[ag (qDI5 x)]? =ah t->(ab (aC x)<=ab (aC x)/\0<=ab (aC x)/\(ab (aC x)+qDI4)*qDI4<=140737488355328)/\∃(j:DX),R j/\j.2+qDI4<=x.2/\af=af/\((y=y/\(ae=af->ae=af))/\(0=0/\ab (aC x)+qDI4=ab (aC j)/\True)/\wr ac ((qDI5 x)+1)=(qDI5 j)/\True)/\(aj (ab (aC x)) (aC x)++ [wr ax (255-t)]=aC j/\0=0)/\True)/\(decide ((qDI5 x)<(qDI3 y))=ae->0+ab (aC x)<=ab (aC x)/\aj (ab (aC x)) (aC x)=z))):=by kernel_rfl
theorem Ya6:SumOk E 183 Sdg:=Yn E_ok (Ze (f:=183) rfl) λx _=>Zlm x.1
theorem Z8l:FnsOk E Fin1:=Zn E_ok (Zc F0_ok Ya6) _ _ _
theorem Zi9(n:Int):PureC E 148 [.int ae .i64 n] (.psl cu (encI n) ae):=by
 refine Za E_ok (Zb E_ok Z8l 400) ?_;rw[Zi8];delta qDI3 qDI4 qDI5;refine aK (λj=>⟨js,λy I=> ?_⟩) (λj=>⟨js,λy I=> ?_⟩)
 ·have j:=iK j
  have R:=Zll n;rw[<-I] at R;have e:encI n= [wr .u8 (wr .i64 (32+(y.length:Int)))]++y:=by rw[Z04 j,<-I,wr64 (by omega) (by omega)];rfl
  refine⟨λh=> ?_,λh=>⟨⟨by have:=fB.2 h;omega,by omega⟩,by simp;omega,?_⟩⟩
  ·rw[e,h];rfl
  ·rw[e,aN (by simp;omega)]
 ·have j:=iT j
  have R:=Zll (wr .i64 (0-wr .i64 (n+1)));rw[<-I] at R;have e:encI n= [wr .u8 (wr .i64 (31-(y.length:Int)))]++y.map λx=>wr .u8 (255-x):=by rw[Z05 (by omega) rfl,<-I,wr64 (by omega) (by omega)];rfl
  generalize wr .u8 (wr .i64 (31-(y.length:Int)))=t at*;refine⟨λx=>x.k+x.r=y.length/\x.D= [t]++(y.take x.k).map λx=>wr .u8 (255-x),⟨⟨0,y.length,[t],[],0,0,0,0⟩,⟨bX _,rfl⟩,rfl,⟨⟨rfl,id⟩,⟨rfl,rfl,js⟩,rfl,js⟩,rfl,js⟩,?_⟩;rintro x ⟨a0,J⟩;refine aK (λj=> ?_) (λj=> ?_)
  ·have j:=iK j
   refine⟨by omega,by omega,λa U=> ?_⟩;rw[bB] at U;have hl:x.D.length=x.k+1:=by rw[J];simp;omega
   refine⟨⟨aE _,bg _,by omega⟩,⟨x.k+1,x.r-1,x.D++ [wr .u8 (255-a)],[],0,0,0,0⟩,⟨by show x.k+1+(x.r-1)=_;omega,?_⟩,by show x.r-1+1<=x.r;omega,rfl,⟨⟨rfl,id⟩,⟨rfl,by simp,js⟩,wr64 (by omega) (by omega),js⟩,⟨by rw[aM],rfl⟩,js⟩;show x.D++ [wr .u8 (255-a)]= [t]++(y.take (x.k+1)).map λx=>wr .u8 (255-x);rw[Ye U,J];simp
  ·have j:=iT j
   rw[aM,J,aN (by omega)];exact⟨by simp,e.symm⟩
noncomputable def Ya7:Sum thy:=Ub (.cons (dInt (E:=E) .i64) .nil) (λ_=>True) (λx=>encI x.1) λy=> .psl cu y ae
theorem Z3b:SumOk E 148 Ya7:=Yn E_ok (Ze (f:=148) rfl) λx _=>Zi9 x.1
noncomputable def Ycb(m:Nat):Sum thy:=Ub dVal (λx=>x.1.ht<=m/\OkV x.1) (λx=>encV x.1) λy=> .psl cu y ae
def Abb:Fr thy->Hp thy->Nat->Ann thy:=λT h i=>{X:=DX,fr:=λx=> [(1,T 1),(3,.sl i 0 x.D.length 1 aD),(4,.int ae .i64 x.k)],bl:=λx=>(i,.rows cu x.D 0)::blkP h (T 1),src:=λ_=> [(i,3)],md:= [bOf (T 3)],ih:=i+1,M:=i+40,meas:=λx=>x.r}
def Abl:Fr thy->Hp thy->Nat->Ann thy:=λT h i=>{X:=DX,fr:=λx=> [(1,T 1),(3,.sl i 0 x.D.length 1 aD),(5,.int ae .i64 x.k)],bl:=λx=>(i,.rows cu x.D 0)::blkP h (T 1),src:=λ_=> [(i,3)],md:= [bOf (T 3)],ih:=i+1,M:=i+40,meas:=λx=>x.r}
noncomputable def Ya8(m:Nat):Fns thy:=addL (addL (addS (addS F0 148 Ya7) 103 (Ycb m)) 103 7 Abb E) 103 15 Abl E
abbrev qDIh:=(ae=af->ae=af)
abbrev qDI6(j:Val):=(cI j=cI j/\cY j=cY j/\(cQ j=cQ j/\qDIh)/\(cM j=cM j/\qDIh)/\True)
abbrev qDI7:=(0:Nat)
abbrev qDI8(j:DX):=(↑(dx j):Int)
abbrev qDIa:=(1:Nat)
abbrev qDIi(j:DX):=(ab (aC j)+qDIa)
abbrev qDIe:=(140737488355328:Nat)
abbrev qDI9(j:DX):=(ab (aC j)<=ab (aC j)/\qDI7<=ab (aC j)/\(qDIi j)*qDIa<=qDIe)
abbrev qDIb(j:DX):=(ab (aC j))
abbrev qDIg:=(0:Int)
abbrev qDIc(j:DX):=(qDI7=qDI7/\(qDI7=qDI7/\qDI7+qDIa=ab (aC j)/\True)/\qDIg=(qDI8 j)/\True)
abbrev qDId(j:Val):=(bd (cI j) (cY j) (cQ j) (cM j))
abbrev qDIf(j:Val):=(↑(ab (cQ j)):Int)
theorem Zop(m:Nat) (v:Val) (z:List Int):Zk E F0 (vc E (Ya8 m) 400) 103 [.agg (encF ae .vals v)] hp0 0 (λr=>ret E (patch hp0 0 r) r.v (.psl cu z ae))=(
 ((cI v==1)=af->True/\∀(y:List Int),y=encI (cY v)->y=z/\qDIh)/\((cI v==1)=ae->((cI v==2)=af->∃(R:DX->Prop),(∃(x:DX),R x/\af=af/\(qDIc x)/\([]++ [48]=aC x/\qDI7=qDI7)/\(qDI6 v)/\True)/\∀(x:DX),R x->(decide ((qDI8 x)<(qDIf v))=af->qDIg<=(qDI8 x)/\(qDI8 x)+1<=(qDIf v)/\∀(I:Int),(cQ v)[ag (qDI8 x)]? =ah I->(qDI9 x)/\qDIg<=(qDI8 x)/\(qDI8 x)+1<=(qDIf v)/\∀(j:Int),(cQ v)[ag (qDI8 x)]? =ah j->((j==qDIg)=af->(ab (aC x)+qDIa<=ab (aj (qDIb x) (aC x)++ [I])/\qDI7<=ab (aC x)+qDIa/\(ab (aC x)+qDIa+qDIa)*qDIa<=qDIe)/\∃(t:DX),R t/\t.2+qDIa<=x.2/\af=af/\(qDI7=qDI7/\(qDI7=qDI7/\ab (aC x)+qDIa+qDIa=ab (aC t)/\True)/\wr ac ((qDI8 x)+1)=(qDI8 t)/\True)/\(aj (qDIi x) (aj (qDIb x) (aC x)++ [I])++ [255]=aC t/\qDI7=qDI7)/\(qDI6 v)/\True)/\((j==qDIg)=ae->∃(t:DX),R t/\t.2+qDIa<=x.2/\af=af/\(qDI7=qDI7/\(qDI7=qDI7/\ab (aC x)+qDIa=ab (aC t)/\True)/\wr ac ((qDI8 x)+1)=(qDI8 t)/\True)/\(aj (qDIb x) (aC x)++ [I]=aC t/\qDI7=qDI7)/\(qDI6 v)/\True))/\(decide ((qDI8 x)<(qDIf v))=ae->(ab (aC x)<=ab (aC x)/\qDI7<=ab (aC x)/\(ab (aC x)+2)*qDIa<=qDIe)/\qDI7+(ab (aC x)+2)<=ab (aj (qDIb x) (aC x)++ [qDIg,qDIg])/\aj (ab (aC x)+2) (aj (qDIb x) (aC x)++ [qDIg,qDIg])=z))/\((cI v==2)=ae->∃(R:DX->Prop),(∃(x:DX),R x/\af=af/\(qDIc x)/\([]++ [64]=aC x/\qDI7=qDI7)/\(qDI6 v)/\True)/\∀(x:DX),R x->(decide ((qDI8 x)<(↑(ab (cM v)):Int))=af->qDIg<=(qDI8 x)/\(qDI8 x)+1<=(↑(ab (cM v)):Int)/\∀(I:Val),(cM v)[ag (qDI8 x)]? =ah I->(kW (qDId I)<=m/\OkV (qDId I))/\∀(y:List Int),y=encV (qDId I)->(y= []->∃(j:DX),R j/\j.2+qDIa<=x.2/\af=af/\(qDI7=qDI7/\(qDI7=qDI7/\ab (aC x)=ab (aC j)/\True)/\wr ac ((qDI8 x)+1)=(qDI8 j)/\True)/\(aC x=aC j/\qDI7=qDI7)/\(qDI6 v)/\True)/\(y≠ []->(ab (aC x)<=ab (aC x)/\qDI7<=ab (aC x)/\(ab (aC x)+ab y)*qDIa<=qDIe)/\∃(j:DX),R j/\j.2+qDIa<=x.2/\af=af/\(qDI7=qDI7/\(qDI7=qDI7/\ab (aC x)+ab y=ab (aC j)/\True)/\wr ac ((qDI8 x)+1)=(qDI8 j)/\True)/\(aj (qDIb x) (aC x)++y=aC j/\qDI7=qDI7)/\(qDI6 v)/\True))/\(decide ((qDI8 x)<(↑(ab (cM v)):Int))=ae->(qDI9 x)/\qDI7+(qDIi x)<=ab (aj (qDIb x) (aC x)++ [qDIg])/\aj (qDIi x) (aj (qDIb x) (aC x)++ [qDIg])=z)))):=by kernel_rfl
theorem Zq1{α:Type} {l:List α} {q:Nat} {y:α} (h:l[q]? =ah y):l.drop q=y::l.drop (q+1):=by
 have j:=(List.getElem?_eq_some_iff.1 h).1;rw[List.drop_eq_getElem_cons j];congr 1;rw[aq j] at h;exact aU h
theorem Ztl:∀(m:Nat) (v:Val),v.ht<=m->OkV v->PureC E 103 [.agg (encF ae .vals v)] (.psl cu (encV v) ae):=by
 intro m
 induction m with
 |zero=>intro v h;rw[Zcb] at h;omega
 |succ m ih=>
  intro v hm hv;have hF:FnsOk E (Ya8 m):=Zn E_ok (Zn E_ok (Zc (Zc F0_ok Z3b) (Yn E_ok (Ze (f:=103) rfl) λx h=>ih x.1 h.1 h.2)) _ _ _) _ _ _;refine Za E_ok (Ws E_ok F0_ok λf N c=>(Zjv E_ok hF 400 f N c).1) ?_;rw[Zop];delta qDIh qDI6 qDI7 qDI8 qDIa qDIi qDIe qDI9 qDIb qDIg qDIc qDId qDIf
  simp only[Zz,Zs,Ys,Yt,Yu,gF,gM,fV,fX,fw,fk,bw,bD,bh,bJ,az,bZ,cm,aX,ib,Zx,Z4,ne_eq,and_true,true_and,bu,bc,false_or,or_false,jn,jC,bi,il,iF,bV,Wl];have hl:=hv.ln;have hb:=hv.bn;have a0:=hv.en;rw[Zag] at a0;rw[Zag]
  refine aK (λI=> ?_) (λI=>aK (λU=> ?_) (λU=> ?_))
  ·rw[jh I]
   exactλy j=>j
  ·rw[jb I,jh U] at a0
   rw[jb I,jh U];simp only[aO,aT,bF] at a0;refine⟨λx=>∃q,q<=v.b.length/\x.k=q/\x.D=48::escB (v.b.take q)/\x.r=v.b.length-q,⟨⟨0,v.b.length,[48],[],0,0,0,0⟩,⟨0,by omega,rfl,rfl,rfl⟩,⟨rfl,rfl⟩,rfl⟩,?_⟩;rintro x ⟨q,a8,R,t,a9⟩;have J:(escB v.b).length=(escB (v.b.take q)).length+(escB (v.b.drop q)).length:=by rw[<-aO,<-Wo,dz]
   have a3:x.D.length=1+(escB (v.b.take q)).length:=by rw[t];simp;omega
   refine aK (λh=>⟨by omega,by omega,λy j=> ?_⟩) (λh=> ?_)
   ·have j:v.b[q]? =ah y:=by rw[<-R];exact j
    rw[Zq1 j] at J;have a1:wr .i64 ((x.k:Int)+1)=((q+1:Nat):Int):=by rw[R,wr64 (by omega) (by omega)];omega
    have b0:1+(escB (v.b.take q)).length+2<=1+(escB v.b).length+2:=by omega
    refine⟨⟨aE _,by omega,by omega⟩,by omega,by omega,λy2 a4=> ?_⟩;have a4:v.b[q]? =ah y2:=by rw[<-R];exact a4
    obtain rfl:y=y2:=aU (j.symm.trans a4);refine aK (λh0=> ?_) (λh0=> ?_)
    ·rw[escB,jh h0] at J
     simp only[aT] at J;refine⟨⟨by simp,by omega,by omega⟩,⟨q+1,v.b.length-(q+1),x.D++ [y,255],[],0,0,0,0⟩,⟨q+1,by omega,rfl,?_,rfl⟩,by show v.b.length-(q+1)+1<=x.r;omega,⟨by simp,a1⟩,by rw[aM,aN (by simp)];simp⟩;show x.D++ [y,255]=_;rw[Ye j,Wo,t];simp[escB,h0]
    ·refine⟨⟨q+1,v.b.length-(q+1),x.D++ [y],[],0,0,0,0⟩,⟨q+1,by omega,rfl,?_,rfl⟩,by show v.b.length-(q+1)+1<=x.r;omega,⟨by simp,a1⟩,by rw[aM]⟩
     show x.D++ [y]=_;rw[Ye j,Wo,t];simp[escB,h0]
   ·obtain rfl:q=v.b.length:=by omega
    rw[aM] at t a3;refine⟨⟨aE _,by omega,by omega⟩,by simp,?_⟩;rw[aM,aN (by simp),t]
  ·rw[jb I,jb U] at a0
   rw[jb I,jb U];simp only[aO,aT,bF] at a0;refine⟨λx=>∃q,q<=v.l.length/\x.k=q/\x.D=64::encL (v.l.take q)/\x.r=v.l.length-q,⟨⟨0,v.l.length,[64],[],0,0,0,0⟩,⟨0,by omega,rfl,rfl,rfl⟩,⟨rfl,rfl⟩,rfl⟩,?_⟩;rintro x ⟨q,a8,R,t,a9⟩;have J:(encL v.l).length=(encL (v.l.take q)).length+(encL (v.l.drop q)).length:=by rw[<-aO,<-Zaf,dz]
   have a3:x.D.length=1+(encL (v.l.take q)).length:=by rw[t];simp;omega
   refine aK (λh=>⟨by omega,by omega,λy j=> ?_⟩) (λh=> ?_)
   ·have j:v.l[q]? =ah y:=by rw[<-R];exact j
    have a5:y∈v.l:=cp j;rw[Zq1 j,encL,aO] at J;have a1:wr .i64 ((x.k:Int)+1)=((q+1:Nat):Int):=by rw[R,wr64 (by omega) (by omega)];omega
    have a7:y.ht<=m:=by have:=Zdj a5;rw[Zcb] at hm;omega
    have a2:x.D++encV y=64::encL (v.l.take (q+1)):=by
     rw[Ye j,Zaf,t];simp[encL]
    refine⟨⟨a7,hv.mem a5⟩,λz hz=>aK (λa6=> ?_) (λa6=> ?_)⟩
    ·rw[<-hz,a6,dW] at a2
     exact⟨⟨q+1,v.l.length-(q+1),x.D,[],0,0,0,0⟩,⟨q+1,by omega,rfl,a2,rfl⟩,by show v.l.length-(q+1)+1<=x.r;omega,⟨rfl,a1⟩,rfl⟩
    ·rw[<-hz] at a2 J
     exact⟨⟨aE _,by omega,by omega⟩,⟨q+1,v.l.length-(q+1),x.D++z,[],0,0,0,0⟩,⟨q+1,by omega,rfl,a2,rfl⟩,by show v.l.length-(q+1)+1<=x.r;omega,⟨by simp,a1⟩,by rw[aM]⟩
   ·obtain rfl:q=v.l.length:=by omega
    rw[aM] at t a3;refine⟨⟨aE _,by omega,by omega⟩,by simp,?_⟩;rw[aM,aN (by simp),t]
noncomputable def Srsh(m:Nat):Sum thy:=Ub dVal (λx=>x.1.ht<=m/\OkV x.1) (λx=>(Zp x.1).2) λy=> .bool ae y
def Arsh:Fr thy->Hp thy->Nat->Ann thy:=λT h i=>{X:=DX,fr:=λx=> [(1,T 1),(3,.int ae .i64 x.k)],bl:=λx=>blkP h (T 1),src:=λ_=> [],md:= [],ih:=i,M:=i+30,meas:=λx=>x.r}
noncomputable def Frsh(m:Nat):Fns thy:=addL (addS F0 146 (Srsh m)) 146 4 Arsh E
abbrev qDIm(j:Val):=(↑(ab (cM j)):Int)
abbrev qDIj(j:Val) (t:Bool->Prop):=((cI j !=(3:Int))=af->(decide ((qDIm j)>(0:Int))=af->t af)/\(decide ((qDIm j)>(0:Int))=ae->t ae))
abbrev qDIk(j:Val) (t:Bool->Prop):=((cI j !=(2:Int))=af->(decide ((↑(ab (cQ j)):Int)>(0:Int))=af->t af)/\(decide ((↑(ab (cQ j)):Int)>(0:Int))=ae->(qDIj j t)/\((cI j !=(3:Int))=ae->t ae)))
abbrev qDIl(j:Val):=(cI j=cI j/\cY j=cY j/\(cQ j=cQ j/\(ae=af->ae=af))/\(cM j=cM j/\(ae=af->ae=af))/\True)
abbrev qDIn(j:Val):=(bd (cI j) (cY j) (cQ j) (cM j))
abbrev qDIo(j:DX):=(↑(dx j):Int)
theorem Zoq(m:Nat) (v:Val) (z:Bool):Zk E F0 (vc E (Frsh m) 400) 146 [.agg (encF ae .vals v)] hp0 0 (λr=>ret E (patch hp0 0 r) r.v (.bool ae z))=(
 ∃(Q:Bool->Prop),(((cI v !=1)=af->((cY v !=0)=af->Q af)/\((cY v !=0)=ae->(qDIk v Q)/\((cI v !=2)=ae->(qDIj v Q)/\((cI v !=3)=ae->Q ae))))/\((cI v !=1)=ae->(qDIk v Q)/\((cI v !=2)=ae->(qDIj v Q)/\((cI v !=3)=ae->Q ae))))/\(Q af->ae=z)/\(Q ae->∃(R:DX->Prop),(∃(x:DX),R x/\af=af/\(0=0/\0=(qDIo x)/\True)/\(qDIl v)/\True)/\∀(x:DX),R x->(decide ((qDIo x)<(qDIm v))=af->0<=(qDIo x)/\(qDIo x)+1<=(qDIm v)/\∀(j:Val),(cM v)[ag (qDIo x)]? =ah j->(kW (qDIn j)<=m/\OkV (qDIn j))/\∀(y:Bool),y=aJ (Zp (qDIn j))->((!y)=af->ae=z)/\((!y)=ae->∃(t:DX),R t/\t.2+1<=x.2/\af=af/\(0=0/\wr ac ((qDIo x)+1)=(qDIo t)/\True)/\(qDIl v)/\True))/\(decide ((qDIo x)<(qDIm v))=ae->((cI v==1)=af->af=z)/\((cI v==1)=ae->((cI v==2)=af->af=z)/\((cI v==2)=ae->((cI v==3)=af->af=z)/\((cI v==3)=ae->ae=z)))))):=by kernel_rfl
theorem Ztm:∀(m:Nat) (v:Val),v.ht<=m->OkV v->PureC E 146 [.agg (encF ae .vals v)] (.bool ae (Zp v).2):=by
 intro m
 induction m with
 |zero=>intro v h;rw[Zcb] at h;omega
 |succ m ih=>
  intro v hm hv;have hF:FnsOk E (Frsh m):=Zn E_ok (Zc F0_ok (Yn E_ok (Ze (f:=146) rfl) λx h=>ih x.1 h.1 h.2)) _ _ _;refine Za E_ok (Ws E_ok F0_ok λf N c=>(Zjv E_ok hF 400 f N c).1) ?_;rw[Zoq];delta qDIm qDIj qDIk qDIl qDIn qDIo;have hl:=hv.ln;have hn:∀{α:Type} (l:List α),((l.length:Int)>0)↔l≠ []:=λl=>by rw[<-fB];omega
  simp only[Zz,Zs,Ys,Yt,Yu,gF,gM,fV,fX,fw,fk,bw,bD,bh,bJ,az,bZ,cm,aX,ib,Zx,Z4,ne_eq,and_true,true_and,bu,bc,false_or,or_false,jn,jC,bi,il,iF,bV,Wl,hn];have a0:(Zp v).2=af↔¬(v.k≠1/\v.n≠0\/v.k≠2/\v.b≠ []\/v.k≠3/\v.l≠ [])/\(∀y∈v.l,(Zp y).2=af)/\(v.k=1\/v.k=2\/v.k=3):=by
   rw[Zcc];by_cases J:v.k=1
   ·rw[jh J];simp[J];intro _ b;simp[b]
   ·rw[jb J]
    by_cases t:v.k=2
    ·rw[jh t];simp[t];intro _ b;simp[b]
    ·rw[jb t]
     by_cases j:v.k=3
     ·rw[jh j]
      split
      ·rename_i h;simp[j];intro a b;simp[a,b] at h
      ·rename_i h
       rw[V8];simp only[not_or,ne_eq,bV] at h;simp[j,h.1,h.2];split<;>simp_all
     ·rw[jb j];simp[J,t,j]
  refine⟨λb=>b=af↔(v.k≠1/\v.n≠0\/v.k≠2/\v.b≠ []\/v.k≠3/\v.l≠ []),?_,λU=> ?_,λU=> ?_⟩
  ·refine aK (λJ=>aK (λt=> ?_) (λt=>aK (λj=>aK (λh4=> ?_) (λh4=>aK (λI=>aK (λR=> ?_) (λR=> ?_)) (λI=> ?_))) (λj=>aK (λI=>aK (λR=> ?_) (λR=> ?_)) (λI=> ?_)))) (λJ=>aK (λj=>aK (λh4=> ?_) (λh4=>aK (λI=>aK (λR=> ?_) (λR=> ?_)) (λI=> ?_))) (λj=>aK (λI=>aK (λR=> ?_) (λR=> ?_)) (λI=> ?_)))<;>simp_all
  ·have:=U.1 rfl
   cases hb:(Zp v).2
   ·rfl
   ·exact jv this (a0.1 hb).1
  ·have U:¬(v.k≠1/\v.n≠0\/v.k≠2/\v.b≠ []\/v.k≠3/\v.l≠ []):=λh=>by have:=U.2 h;cases this
   refine⟨λx=>x.k+x.r=v.l.length/\∀y∈v.l.take x.k,(Zp y).2=af,⟨⟨0,v.l.length,[],[],0,0,0,0⟩,⟨bX _,by simp⟩,rfl⟩,?_⟩;rintro x ⟨J,t⟩;refine aK (λh=>⟨by omega,by omega,λy hy=> ?_⟩) (λh=> ?_)
   ·have hy:v.l[x.k]? =ah y:=hy
    have a1:y∈v.l:=cp hy;have a3:y.ht<=m:=by have:=Zdj a1;rw[Zcb] at hm;omega
    refine⟨⟨a3,hv.mem a1⟩,λb hb=>aK (λj=> ?_) (λj=> ?_)⟩
    ·cases a2:(Zp v).2
     ·rfl
     ·have:=(a0.1 a2).2.1 y a1;rw[<-hb,j] at this;cases this
    ·refine⟨⟨x.k+1,x.r-1,[],[],0,0,0,0⟩,⟨by show x.k+1+(x.r-1)=_;omega,?_⟩,by show x.r-1+1<=x.r;omega,wr64 (by omega) (by omega)⟩
     intro z hz;rw[show(⟨x.k+1,x.r-1,[],[],0,0,0,0⟩:DX).k=x.k+1 from rfl,Ye hy,List.mem_append] at hz;rcases hz with hz|hz
     ·exact t z hz
     ·rw[List.mem_singleton.1 hz,<-hb];exact j
   ·rw[aN (by omega)] at t
    refine aK (λj=> ?_) (λj=>aK (λh4=> ?_) (λh4=>aK (λI=> ?_) (λI=> ?_)))
    ·exact(a0.2 ⟨U,t,Or.inl j⟩).symm
    ·exact(a0.2 ⟨U,t,Or.inr (Or.inl h4)⟩).symm
    ·exact(a0.2 ⟨U,t,Or.inr (Or.inr I)⟩).symm
    ·cases a2:(Zp v).2
     ·rfl
     ·have:=(a0.1 a2).2.2;omega
noncomputable def Srne(m:Nat):Sum thy:=Ub dVal (λx=>x.1.ht<=m/\OkV x.1/\(Zp x.1).2=af) (λx=>(Zp x.1).1) λy=> .int ae .i64 y
def Arne:Fr thy->Hp thy->Nat->Ann thy:=λT h i=>{X:=DX,fr:=λx=> [(1,T 1),(3,.int ae .i64 x.j),(4,.int ae .i64 x.k)],bl:=λx=>blkP h (T 1),src:=λ_=> [],md:= [],ih:=i,M:=i+30,meas:=λx=>x.r}
noncomputable def Frne(m:Nat):Fns thy:=addL (addS F0 147 (Srne m)) 147 3 Arne E
theorem Ztn(m:Nat) (v:Val) (z:Int):Zk E F0 (vc E (Frne m) 400) 147 [.agg (encF ae .vals v)] hp0 0 (λr=>ret E (patch hp0 0 r) r.v (.int ae .i64 z))=(
∃(R:DX->Prop),(∃(x:DX),R x/\af=af/\(0=0/\0=eY x/\0=(↑(dx x):Int)/\True)/\(cI v=cI v/\cY v=cY v/\(cQ v=cQ v/\(ae=af->ae=af))/\(cM v=cM v/\(ae=af->ae=af))/\True)/\True)/\∀(x:DX),R x->(decide ((↑(dx x):Int)<(↑(ab (cM v)):Int))=af->0<=(↑(dx x):Int)/\(↑(dx x):Int)+1<=(↑(ab (cM v)):Int)/\∀(j:Val),(cM v)[ag (↑(dx x):Int)]? =ah j->(kW (bd (cI j) (cY j) (cQ j) (cM j))<=m/\OkV (bd (cI j) (cY j) (cQ j) (cM j))/\aJ (Zp (bd (cI j) (cY j) (cQ j) (cM j)))=af)/\∀(y:Int),y=ay (Zp (bd (cI j) (cY j) (cQ j) (cM j)))->∃(t:DX),R t/\t.2+1<=x.2/\af=af/\(0=0/\mm2 af (eY x) y=eY t/\wr ac ((↑(dx x):Int)+1)=(↑(dx t):Int)/\True)/\(cI v=cI v/\cY v=cY v/\(cQ v=cQ v/\(ae=af->ae=af))/\(cM v=cM v/\(ae=af->ae=af))/\True)/\True)/\(decide ((↑(dx x):Int)<(↑(ab (cM v)):Int))=ae->((cI v==3)=af->wr ac (eY x+1)=z)/\((cI v==3)=ae->eY x=z))):=by kernel_rfl
theorem Z8m(l:List Val):∀(q:Nat),q<=l.length->0<=(l.take q).foldl (λd v=>max d (Zp v).1) 0/\(l.take q).foldl (λd v=>max d (Zp v).1) 0<=htL l:=by
 intro q
 induction q with
 |zero=>intro _;simp
 |succ q t=>
  intro U;have j:=aq (l:=l) (i:=q) (by omega);rw[Ye j,dZ];have I:=t (by omega);have J:=Zip _ l[q] (aE _);have R:=Zdj (List.getElem_mem (l:=l) (n:=q) (by omega));simp only[List.foldl_cons,List.foldl_nil];omega
theorem Zys:∀(m:Nat) (v:Val),v.ht<=m->OkV v->(Zp v).2=af->PureC E 147 [.agg (encF ae .vals v)] (.int ae .i64 (Zp v).1):=by
 intro m
 induction m with
 |zero=>intro v h;rw[Zcb] at h;omega
 |succ m ih=>
  intro v hm hv j;have hF:FnsOk E (Frne m):=Zn E_ok (Zc F0_ok (Yn E_ok (Ze (f:=147) rfl) λx h=>ih x.1 h.1 h.2.1 h.2.2)) _ _ _;refine Za E_ok (Ws E_ok F0_ok λf N c=>(Zjv E_ok hF 400 f N c).1) ?_;rw[Ztn]
  simp only[Zz,Zs,Ys,Yt,Yu,gF,gM,fV,fX,fw,fk,bw,bD,bh,bJ,az,bZ,cm,aX,ib,Zx,Z4,ne_eq,and_true,true_and,bu,bc,false_or,or_false,jn,jC,bi,il,iF,bV,Wl];have hl:=hv.ln
  have a1:(∀y∈v.l,(Zp y).2=af)/\(Zp v).1=(if v.k=3 then v.l.foldl (λd v=>max d (Zp v).1) 0+1 else v.l.foldl (λd v=>max d (Zp v).1) 0):=by
   rw[Zcc] at j;rw[Zcc];by_cases J:v.k=1
   ·rw[jh J] at j⊢;simp at j;simp[j,J]
   ·rw[jb J] at j⊢
    by_cases t:v.k=2
    ·rw[jh t] at j⊢;simp at j;simp[j,t]
    ·rw[jb t] at j⊢
     by_cases I:v.k=3
     ·rw[jh I] at j⊢
      split at j
      ·cases j
      ·rename_i h
       rw[V8] at j;rw[jb h,V8];split at j
       ·rename_i R
        rw[jh R,jh I];exact⟨by simpa using R,rfl⟩
       ·cases j
     ·rw[jb I] at j;cases j
  obtain⟨R,a3⟩:=a1;rw[a3];refine⟨λx=>x.k+x.r=v.l.length/\x.j=(v.l.take x.k).foldl (λd v=>max d (Zp v).1) 0,⟨⟨0,v.l.length,[],[],0,0,0,0⟩,⟨bX _,rfl⟩,rfl,rfl⟩,?_⟩;rintro x ⟨J,t⟩;refine aK (λh=>⟨by omega,by omega,λy U=> ?_⟩) (λh=> ?_)
  ·have U:v.l[x.k]? =ah y:=U
   have a0:y∈v.l:=cp U;have a2:y.ht<=m:=by have:=Zdj a0;rw[Zcb] at hm;omega
   refine⟨⟨a2,hv.mem a0,R y a0⟩,λb hb=>⟨⟨x.k+1,x.r-1,[],[],0,0,0,max x.j b⟩,⟨by show x.k+1+(x.r-1)=_;omega,?_⟩,by show x.r-1+1<=x.r;omega,rfl,wr64 (by omega) (by omega)⟩⟩;show max x.j b=_;rw[show(⟨x.k+1,x.r-1,[],[],0,0,0,max x.j b⟩:DX).k=x.k+1 from rfl,Ye U,dZ,<-t,hb];rfl
  ·have hb:=Z8m v.l v.l.length (aE _)
   rw[aN (by omega)] at t;rw[aM,<-t] at hb;rw[<-t];have a4:htL v.l<=1000000000000:=by
    have:=hv.sz;have:=Z7i v;rw[Zcb] at this;omega
   refine aK (λI=> ?_) (λI=> ?_)
   ·rw[jh I,wr64 (by omega) (by omega)]
   ·rw[jb I]
noncomputable def Ya9:Sum thy:=Ub dVal (λx=>OkV x.1) (λx=>encV x.1) λy=> .psl cu y ae
noncomputable def Ycc:Sum thy:=Ub dVal (λx=>OkV x.1) (λx=>(Zp x.1).2) λy=> .bool ae y
noncomputable def Ycd:Sum thy:=Ub dVal (λx=>OkV x.1/\(Zp x.1).2=af) (λx=>(Zp x.1).1) λy=> .int ae .i64 y
noncomputable def Z8n:Fns thy:=addS (addS (addS F0 103 Ya9) 146 Ycc) 147 Ycd
theorem Zln(v:Val) (l:List Int) (e:Int):Zk E Z8n (vc E Z8n 400) 78 [.agg (encF ae .vals v)] hp0 0 (λr=>ret E (patch hp0 0 r) r.v (.tup [.psl cu l ae,.int ae .i64 e]))=(
OkV (bd (cI v) (cY v) (cQ v) (cM v))/\∀(y:Bool),y=aJ (Zp (bd (cI v) (cY v) (cQ v) (cM v)))->((!y)=af->l= []/\10=e/\True)/\((!y)=ae->(OkV (bd (cI v) (cY v) (cQ v) (cM v))/\aJ (Zp (bd (cI v) (cY v) (cQ v) (cM v)))=af)/\∀(y:Int),y=ay (Zp (bd (cI v) (cY v) (cQ v) (cM v)))->(decide (y>16)=af->l= []/\2=e/\True)/\(decide (y>16)=ae->OkV (bd (cI v) (cY v) (cQ v) (cM v))/\∀(y:List Int),y=encV (bd (cI v) (cY v) (cQ v) (cM v))->(decide ((↑(ab y):Int)>65536)=af->l= []/\2=e/\True)/\(decide ((↑(ab y):Int)>65536)=ae->OkV (bd (cI v) (cY v) (cQ v) (cM v))/\∀(y:List Int),y=encV (bd (cI v) (cY v) (cQ v) (cM v))->(y=l/\(ae=af->ae=af))/\0=e/\True)))):=by kernel_rfl
theorem Z3c:FnsOk E Z8n:=Zc (Zc (Zc F0_ok (Yn E_ok (Ze (f:=103) rfl) λx h=>Ztl _ x.1 (aE _) h)) (Yn E_ok (Ze (f:=146) rfl) λx h=>Ztm _ x.1 (aE _) h)) (Yn E_ok (Ze (f:=147) rfl) λx h=>Zys _ x.1 (aE _) h.1 h.2)
theorem Zlo(v:Val) (t:OkV v):PureC E 78 [.agg (encF ae .vals v)] (.tup [.psl cu (Z9 v).1 ae,.int ae .i64 (Z9 v).2]):=by
 refine Za E_ok (Zb E_ok Z3c 400) ?_;rw[Zln];simp only[Zz,Zs,Ys,Yt,Yu,gF,gM,fV,fX,fw,fk,bw,bD,bh,bJ,az,bZ,cm,aX,ib,Zx,Z4,ne_eq,and_true,true_and,bu,bc,false_or,or_false,jn,jC,bi,il,iF,bV,Wl];unfold Z9
 refine⟨t,λy j=>aK (λh=> ?_) (λh=>⟨⟨t,by rw[<-j,h]⟩,λd I=>aK (λR=> ?_) (λR=>⟨t,λb J=>aK (λU=> ?_) (λU=>⟨t,λb2 a0=> ?_⟩)⟩)⟩)⟩
 ·rw[jh (by rw[<-j,h])];exact⟨rfl,rfl⟩
 ·rw[jb (by rw[<-j,h];simp),jh (by rw[<-I];omega)];exact⟨rfl,rfl⟩
 ·rw[jb (by rw[<-j,h];simp),jb (by rw[<-I];omega),jh (by rw[<-J];omega)];exact⟨rfl,rfl⟩
 ·rw[jb (by rw[<-j,h];simp),jb (by rw[<-I];omega),jb (by rw[<-J];omega)];exact⟨a0,rfl⟩
end
section
open Go
noncomputable def Z6z:Sum thy:=Yh E2 gthV 4 (.cons (dBys E2) .nil) (λx=>x.1.length<=100000) (λx=>shaF x.1) Zm
theorem Zqj:SumOk E2 104 Z6z:=Zl Zd (Ze (f:=104) rfl) λx h=>Zx1 x.1 h
def hdF(i:Nat) (b:List Int):List Int:= [((tagB i).length:Int)]++tagB i++b
abbrev qDJ1:=([(5:Int)]++ [(↑(115:Nat):Int),(↑(116:Nat):Int),(↑(97:Nat):Int),(↑(99:Nat):Int),(↑(107:Nat):Int)])
abbrev qDJ2:=(1:Nat)
abbrev qDJ3:=(qDJ2+(5:Nat))
theorem Zxj(b:List Int) (z:List Int):Zk E2 F0 (vc E2 F0 400) 105 [.str af [115,116,97,99,107],.psl cu b ae] hp0 0 (λr=>ret E2 (patch hp0 0 r) r.v (.psl cu z ae))=(
 ([(↑(115:Nat):Int),(↑(116:Nat):Int),(↑(97:Nat):Int),(↑(99:Nat):Int),(↑(107:Nat):Int)]= []->(b= []-> [5]=z)/\(b≠ []->(qDJ2+qDJ2<=qDJ2+ab b/\(qDJ2+ab b)*qDJ2<=140737488355328)/\0+(qDJ2+ab b)<=ab ([5]++b)/\aj (qDJ2+ab b) ([5]++b)=z))/\([(↑(115:Nat):Int),(↑(116:Nat):Int),(↑(97:Nat):Int),(↑(99:Nat):Int),(↑(107:Nat):Int)]≠ []->(qDJ2+qDJ2<=qDJ2+5/\qDJ3*qDJ2<=140737488355328)/\(b= []->0+qDJ3<=ab qDJ1/\aj qDJ3 qDJ1=z)/\(b≠ []->(qDJ2+5<=ab qDJ1/\0<=qDJ2+5/\(qDJ2+5+ab b)*qDJ2<=140737488355328)/\0+(qDJ2+5+ab b)<=ab (aj qDJ3 qDJ1++b)/\aj (qDJ2+5+ab b) (aj qDJ3 qDJ1++b)=z))):=by kernel_rfl
abbrev qDJ6:=(↑(114:Nat):Int)
abbrev qDJ4:=([(7:Int)]++ [(↑(112:Nat):Int),qDJ6,(↑(111:Nat):Int),(↑(103:Nat):Int),qDJ6,(↑(97:Nat):Int),(↑(109:Nat):Int)])
abbrev qDJ5:=(1:Nat)
abbrev qDJ7:=(qDJ5+(7:Nat))
theorem Zxk(b:List Int) (z:List Int):Zk E2 F0 (vc E2 F0 400) 105 [.str af [112,114,111,103,114,97,109],.psl cu b ae] hp0 0 (λr=>ret E2 (patch hp0 0 r) r.v (.psl cu z ae))=(
 ([(↑(112:Nat):Int),qDJ6,(↑(111:Nat):Int),(↑(103:Nat):Int),qDJ6,(↑(97:Nat):Int),(↑(109:Nat):Int)]= []->(b= []-> [7]=z)/\(b≠ []->(qDJ5+qDJ5<=qDJ5+ab b/\(qDJ5+ab b)*qDJ5<=140737488355328)/\0+(qDJ5+ab b)<=ab ([7]++b)/\aj (qDJ5+ab b) ([7]++b)=z))/\([(↑(112:Nat):Int),qDJ6,(↑(111:Nat):Int),(↑(103:Nat):Int),qDJ6,(↑(97:Nat):Int),(↑(109:Nat):Int)]≠ []->(qDJ5+qDJ5<=qDJ5+7/\qDJ7*qDJ5<=140737488355328)/\(b= []->0+qDJ7<=ab qDJ4/\aj qDJ7 qDJ4=z)/\(b≠ []->(qDJ5+7<=ab qDJ4/\0<=qDJ5+7/\(qDJ5+7+ab b)*qDJ5<=140737488355328)/\0+(qDJ5+7+ab b)<=ab (aj qDJ7 qDJ4++b)/\aj (qDJ5+7+ab b) (aj qDJ7 qDJ4++b)=z))):=by kernel_rfl
abbrev qDJ8:=([(6:Int)]++ [(↑(105:Nat):Int),(↑(110:Nat):Int),(↑(112:Nat):Int),(↑(117:Nat):Int),(↑(116:Nat):Int),(↑(115:Nat):Int)])
abbrev qDJ9:=(1:Nat)
abbrev qDJa:=(qDJ9+(6:Nat))
theorem Zxl(b:List Int) (z:List Int):Zk E2 F0 (vc E2 F0 400) 105 [.str af [105,110,112,117,116,115],.psl cu b ae] hp0 0 (λr=>ret E2 (patch hp0 0 r) r.v (.psl cu z ae))=(
 ([(↑(105:Nat):Int),(↑(110:Nat):Int),(↑(112:Nat):Int),(↑(117:Nat):Int),(↑(116:Nat):Int),(↑(115:Nat):Int)]= []->(b= []-> [6]=z)/\(b≠ []->(qDJ9+qDJ9<=qDJ9+ab b/\(qDJ9+ab b)*qDJ9<=140737488355328)/\0+(qDJ9+ab b)<=ab ([6]++b)/\aj (qDJ9+ab b) ([6]++b)=z))/\([(↑(105:Nat):Int),(↑(110:Nat):Int),(↑(112:Nat):Int),(↑(117:Nat):Int),(↑(116:Nat):Int),(↑(115:Nat):Int)]≠ []->(qDJ9+qDJ9<=qDJ9+6/\qDJa*qDJ9<=140737488355328)/\(b= []->0+qDJa<=ab qDJ8/\aj qDJa qDJ8=z)/\(b≠ []->(qDJ9+6<=ab qDJ8/\0<=qDJ9+6/\(qDJ9+6+ab b)*qDJ9<=140737488355328)/\0+(qDJ9+6+ab b)<=ab (aj qDJa qDJ8++b)/\aj (qDJ9+6+ab b) (aj qDJa qDJ8++b)=z))):=by kernel_rfl
abbrev qDJd:=(↑(116:Nat):Int)
abbrev qDJb:=([(5:Int)]++ [(↑(115:Nat):Int),qDJd,(↑(97:Nat):Int),qDJd,(↑(101:Nat):Int)])
abbrev qDJc:=(1:Nat)
abbrev qDJe:=(qDJc+(5:Nat))
theorem Zxm(b:List Int) (z:List Int):Zk E2 F0 (vc E2 F0 400) 105 [.str af [115,116,97,116,101],.psl cu b ae] hp0 0 (λr=>ret E2 (patch hp0 0 r) r.v (.psl cu z ae))=(
 ([(↑(115:Nat):Int),qDJd,(↑(97:Nat):Int),qDJd,(↑(101:Nat):Int)]= []->(b= []-> [5]=z)/\(b≠ []->(qDJc+qDJc<=qDJc+ab b/\(qDJc+ab b)*qDJc<=140737488355328)/\0+(qDJc+ab b)<=ab ([5]++b)/\aj (qDJc+ab b) ([5]++b)=z))/\([(↑(115:Nat):Int),qDJd,(↑(97:Nat):Int),qDJd,(↑(101:Nat):Int)]≠ []->(qDJc+qDJc<=qDJc+5/\qDJe*qDJc<=140737488355328)/\(b= []->0+qDJe<=ab qDJb/\aj qDJe qDJb=z)/\(b≠ []->(qDJc+5<=ab qDJb/\0<=qDJc+5/\(qDJc+5+ab b)*qDJc<=140737488355328)/\0+(qDJc+5+ab b)<=ab (aj qDJe qDJb++b)/\aj (qDJc+5+ab b) (aj qDJe qDJb++b)=z))):=by kernel_rfl
theorem Z2b(i:Nat) (hi:i<4) (b:List Int) (j:b.length<=65536):PureC E2 105 [.str af (tags.getD i []),.psl cu b ae] (.psl cu (hdF i b) ae):=by
 match i,hi with
 |0,_=>
  refine Za Zd (Zb Zd Z7 400) ?_;show Zk E2 F0 (vc E2 F0 400) 105 [.str af [115,116,97,99,107],.psl cu b ae] hp0 0 _;rw[Zxj];delta qDJ1 qDJ2 qDJ3;refine⟨(λh=>by cases h),λ_=>⟨by decide,λh=>⟨by decide,by rw[h];rfl⟩,λh=>⟨⟨by decide,by decide,by omega⟩,by simp;omega,by rw[aN (by simp;omega)];rfl⟩⟩⟩
 |1,_=>
  refine Za Zd (Zb Zd Z7 400) ?_;show Zk E2 F0 (vc E2 F0 400) 105 [.str af [112,114,111,103,114,97,109],.psl cu b ae] hp0 0 _;rw[Zxk];delta qDJ6 qDJ4 qDJ5 qDJ7;refine⟨(λh=>by cases h),λ_=>⟨by decide,λh=>⟨by decide,by rw[h];rfl⟩,λh=>⟨⟨by decide,by decide,by omega⟩,by simp;omega,by rw[aN (by simp;omega)];rfl⟩⟩⟩
 |2,_=>
  refine Za Zd (Zb Zd Z7 400) ?_;show Zk E2 F0 (vc E2 F0 400) 105 [.str af [105,110,112,117,116,115],.psl cu b ae] hp0 0 _;rw[Zxl];delta qDJ8 qDJ9 qDJa;refine⟨(λh=>by cases h),λ_=>⟨by decide,λh=>⟨by decide,by rw[h];rfl⟩,λh=>⟨⟨by decide,by decide,by omega⟩,by simp;omega,by rw[aN (by simp;omega)];rfl⟩⟩⟩
 |3,_=>
  refine Za Zd (Zb Zd Z7 400) ?_;show Zk E2 F0 (vc E2 F0 400) 105 [.str af [115,116,97,116,101],.psl cu b ae] hp0 0 _;rw[Zxm];delta qDJd qDJb qDJc qDJe;refine⟨(λh=>by cases h),λ_=>⟨by decide,λh=>⟨by decide,by rw[h];rfl⟩,λh=>⟨⟨by decide,by decide,by omega⟩,by simp;omega,by rw[aN (by simp;omega)];rfl⟩⟩⟩
noncomputable def Srhd:Sum thy:=Yh E2 gthV 4 (.cons (dTag tags) (.cons (dBys E2) .nil)) (λx=>x.1<4/\x.2.1.length<=65536) (λx=>hdF x.1 x.2.1) λy=> .psl cu y ae
noncomputable def Yak:Sum thy:=Yh E2 gthV 8 (.cons (dRow Zd eQ λ_ _ h=>Zex (th:=eQ) h:Dc E2 Val) .nil) (λx=>OkV x.1) (λx=>Z9 x.1) λy=> .tup [.psl cu y.1 ae,.int ae .i64 y.2]
theorem Z2c:SumOk E2 78 Yak:=Zl Zd (Ze (f:=78) rfl) λx h=>up2 (Zlo x.1 h)
theorem Z60:SumOk E2 105 Srhd:=Zl Zd (Ze (f:=105) rfl) λx h=>Z2b x.1 h.1 x.2.1 h.2
noncomputable def Ut:Fns thy:=addS (addS (addS F0 104 Z6z) 78 Yak) 105 Srhd
theorem Znk(l:List Val) (d:List Int):Zk E2 Ut (vc E2 Ut 400) 51 [.str af [115,116,97,99,107],.psl eQ l ae] hp0 0 (λr=>ret E2 (patch hp0 0 r) r.v (Zm d))=(
OkV (bd 3 0 [] l)/\∀(y:List Int×Int),y=Z9 (bd 3 0 [] l)->(0+1<=4/\ab (ay y)<=65536)/\∀(j:List Int),j=hdF 0 (ay y)->ab j<=100000/\∀(y:List Int),y=shaF j->e32q y d):=by kernel_rfl
theorem Znl(l:List Val) (d:List Int):Zk E2 Ut (vc E2 Ut 400) 51 [.str af [112,114,111,103,114,97,109],.psl eQ l ae] hp0 0 (λr=>ret E2 (patch hp0 0 r) r.v (Zm d))=(
OkV (bd 3 0 [] l)/\∀(y:List Int×Int),y=Z9 (bd 3 0 [] l)->(0+1+1<=4/\ab (ay y)<=65536)/\∀(j:List Int),j=hdF (0+1) (ay y)->ab j<=100000/\∀(y:List Int),y=shaF j->e32q y d):=by kernel_rfl
theorem Znm(l:List Val) (d:List Int):Zk E2 Ut (vc E2 Ut 400) 51 [.str af [105,110,112,117,116,115],.psl eQ l ae] hp0 0 (λr=>ret E2 (patch hp0 0 r) r.v (Zm d))=(
OkV (bd 3 0 [] l)/\∀(y:List Int×Int),y=Z9 (bd 3 0 [] l)->(0+1+1+1<=4/\ab (ay y)<=65536)/\∀(j:List Int),j=hdF (0+1+1) (ay y)->ab j<=100000/\∀(y:List Int),y=shaF j->e32q y d):=by kernel_rfl
theorem Znn(l:List Val) (d:List Int):Zk E2 Ut (vc E2 Ut 400) 51 [.str af [115,116,97,116,101],.psl eQ l ae] hp0 0 (λr=>ret E2 (patch hp0 0 r) r.v (Zm d))=(
OkV (bd 3 0 [] l)/\∀(y:List Int×Int),y=Z9 (bd 3 0 [] l)->(0+1+1+1+1<=4/\ab (ay y)<=65536)/\∀(j:List Int),j=hdF (0+1+1+1) (ay y)->ab j<=100000/\∀(y:List Int),y=shaF j->e32q y d):=by kernel_rfl
theorem Zea:FnsOk E2 Ut:=Zc (Zc (Zc Z7 Zqj) Z2c) Z60
theorem Z61(i:Nat) (v:Val):(hdF i (Z9 v).1).length<=100000:=by
 have j:=Zba v;have t:(tagB i).length<=7:=by unfold tagB;split<;>simp
 simp only[hdF,aO,aT,bF];omega
theorem Z2d(i:Nat) (v:Val):We i v=shaF (hdF i (Z9 v).1):=by
 unfold We hdF;simp
theorem Zst(i:Nat) (hi:i<4) (l:List Val) (U:OkV (lisV l)):PureC E2 51 [.str af (tags.getD i []),.psl eQ l ae] (Zm (We i (lisV l))):=by
 have R:=Zba (lisV l);have J:=Z61 i (lisV l);rw[Z2d]
 match i,hi with
 |0,_=>
  refine Za Zd (Zb Zd Zea 400) ?_;show Zk E2 Ut (vc E2 Ut 400) 51 [.str af [115,116,97,99,107],.psl eQ l ae] hp0 0 _;rw[Znk];refine⟨U,λy j=>⟨⟨by omega,by rw[j];exact R⟩,λz t=>⟨by rw[t,j];exact J,λd I=>by rw[I,t,j];exact e32r _⟩⟩⟩
 |1,_=>
  refine Za Zd (Zb Zd Zea 400) ?_;show Zk E2 Ut (vc E2 Ut 400) 51 [.str af [112,114,111,103,114,97,109],.psl eQ l ae] hp0 0 _;rw[Znl];refine⟨U,λy j=>⟨⟨by omega,by rw[j];exact R⟩,λz t=>⟨by rw[t,j];exact J,λd I=>by rw[I,t,j];exact e32r _⟩⟩⟩
 |2,_=>
  refine Za Zd (Zb Zd Zea 400) ?_;show Zk E2 Ut (vc E2 Ut 400) 51 [.str af [105,110,112,117,116,115],.psl eQ l ae] hp0 0 _;rw[Znm];refine⟨U,λy j=>⟨⟨by omega,by rw[j];exact R⟩,λz t=>⟨by rw[t,j];exact J,λd I=>by rw[I,t,j];exact e32r _⟩⟩⟩
 |3,_=>
  refine Za Zd (Zb Zd Zea 400) ?_;show Zk E2 Ut (vc E2 Ut 400) 51 [.str af [115,116,97,116,101],.psl eQ l ae] hp0 0 _;rw[Znn];refine⟨U,λy j=>⟨⟨by omega,by rw[j];exact R⟩,λz t=>⟨by rw[t,j];exact J,λd I=>by rw[I,t,j];exact e32r _⟩⟩⟩
noncomputable def Zqk:Sum thy:=Yh E2 gthV 10 (.cons (dTag tags) (.cons (Ybq E2) .nil)) (λx=>x.1<4/\OkV (lisV x.2.1)) (λx=>We x.1 (lisV x.2.1)) Zm
theorem Zkx:SumOk E2 51 Zqk:=Zl Zd (Ze (f:=51) rfl) λx h=>Zst x.1 h.1 x.2.1 h.2
def Aron:Fr thy->Hp thy->Nat->Ann thy:=λT h i=>{X:=DX,fr:=λx=> [(1,T 1),(2,T 2),(4,T 4),(5,.int ae .i64 x.k)],bl:=λx=>(bOf (T 2),.raw (Zm x.D).cells 0 aD)::blkP h (T 4),src:=λ_=> [],md:= [bOf (T 2)],ih:=i,M:=i+60,meas:=λx=>x.r}
def Arpr:Fr thy->Hp thy->Nat->Ann thy:=λT h i=>{X:=DX,fr:=λx=> [(0,T 0),(2,T 2),(3,T 3),(4,.int ae .i64 x.k)],bl:=λx=>(bOf (T 3),.raw (Zm x.D).cells 0 aD)::blkP h (T 2),src:=λ_=> [],md:= [bOf (T 3)],ih:=i,M:=i+60,meas:=λx=>x.r}
noncomputable def Fron:Fns thy:=addL (addL (addS F0 51 Zqk) 56 2 Aron E2) 27 3 Arpr E2
theorem Zno:FnsOk E2 Fron:=Zn Zd (Zn Zd (Zc Z7 Zkx) _ _ _) _ _ _
theorem Zsu(d l:List Int) (z:List Int):Zk E2 Fron (vc E2 Fron 400) 56 [Zm d,.psl gG l ae] hp0 0 (λr=>ret E2 (patch hp0 0 r) r.v (Zm z))=(
∃(R:DX->Prop),(∃(x:DX),R x/\af=af/\((l=l/\(ae=af->ae=af))/\0=0/\0=0/\0=(↑(dx x):Int)/\True)/\(e32q d (aC x))/\z00/\True)/\∀(x:DX),R x->(decide ((↑(dx x):Int)<(↑(ab l):Int))=af->0<=(↑(dx x):Int)/\(↑(dx x):Int)+1<=(↑(ab l):Int)/\∀(t:Int),l[ag (↑(dx x):Int)]? =ah t->(0+1<=4/\OkV (lisV [bd 1 t [] [],bd 2 0 (n32q (aC x)) []]))/\∀(y:List Int),y=We 0 (lisV [bd 1 t [] [],bd 2 0 (n32q (aC x)) []])->∃(j:DX),R j/\j.2+1<=x.2/\af=af/\((l=l/\(ae=af->ae=af))/\0=0/\0=0/\wr ac ((↑(dx x):Int)+1)=(↑(dx j):Int)/\True)/\(e32q y (aC j))/\z00/\True)/\(decide ((↑(dx x):Int)<(↑(ab l):Int))=ae->e32q (aC x) z)):=by kernel_rfl
theorem Zg5:z00:=Z36▸js
theorem Z2e:z32q Zgr:=⟨rfl,rfl,rfl,rfl,rfl,rfl,rfl,rfl,rfl,rfl,rfl,rfl,rfl,rfl,rfl,rfl,rfl,rfl,rfl,rfl,rfl,rfl,rfl,rfl,rfl,rfl,rfl,rfl,rfl,rfl,rfl,rfl,js⟩
theorem Zsv(d l:List Int) (R:l.length<=1000000):PureC E2 56 [Zm d,.psl gG l ae] (Zm (Zav d l)):=by
 refine Za Zd (Zb Zd Zno 400) ?_;rw[Zsu];refine⟨λx=>∃q,q<=l.length/\x.k=q/\x.D=Zav d (l.take q)/\x.r=l.length-q,⟨⟨0,l.length,d,[],0,0,0,0⟩,⟨0,bg _,rfl,rfl,rfl⟩,rfl,⟨⟨rfl,id⟩,rfl,rfl,rfl,js⟩,e32r _,Zg5,js⟩,?_⟩;rintro x ⟨q,U,J,t,a0⟩;refine aK (λh=> ?_) (λh=> ?_)
 ·have h:=iK h
  refine⟨by omega,by omega,λn j=>⟨⟨by omega,Zkk n x.D⟩,λy I=>⟨⟨q+1,l.length-(q+1),y,[],0,0,0,0⟩,⟨q+1,by omega,rfl,?_,rfl⟩,by show l.length-(q+1)+1<=x.r;omega,rfl,⟨⟨rfl,id⟩,rfl,rfl,?_,js⟩,e32r _,Zg5,js⟩⟩⟩
  ·have j:l[q]? =ah n:=by rw[<-J];exact j
   have I:y=We 0 (Zkj n x.D):=I;show y=_;rw[Ye j,Zav,dZ,I,t];rfl
  ·show wr .i64 ((x.k:Int)+1)=((q+1:Nat):Int)
   rw[J,wr64 (by omega) (by omega)];omega
 ·have h:=iT h
  obtain rfl:q=l.length:=by omega
  rw[aM] at t;rw[t];exact e32r _
abbrev qDJf(j:DX):=(↑(dx j):Int)
abbrev qDJg(j:Ins) (t:Ins) (I:Ins) (J:DX):=(lisV [bd (1:Int) (Ins.op j) [] [],bd (1:Int) (Ins.n t) [] [],bd (1:Int) (Ins.m I) [] [],bd (2:Int) (0:Int) (n32q (aC J)) []])
abbrev qDJh:=(0:Nat)
theorem Zsw(c:List Ins) (z:List Int):Zk E2 Fron (vc E2 Fron 400) 27 [.psl Th.ins c ae] hp0 0 (λr=>ret E2 (patch hp0 0 r) r.v (Zm z))=(
 ∃(R:DX->Prop),(∃(x:DX),R x/\af=af/\((c=c/\(ae=af->ae=af))/\qDJh=qDJh/\qDJh=qDJh/\0=(qDJf x)/\True)/\(z32q (aC x))/\z00/\True)/\∀(x:DX),R x->(decide ((qDJf x)<(↑(ab c):Int))=af->0<=(qDJf x)/\(qDJf x)+1<=(↑(ab c):Int)/\∀(t:Ins),c[ag (qDJf x)]? =ah t->0<=(qDJf x)/\(qDJf x)+1<=(↑(ab c):Int)/\∀(I:Ins),c[ag (qDJf x)]? =ah I->0<=(qDJf x)/\(qDJf x)+1<=(↑(ab c):Int)/\∀(J:Ins),c[ag (qDJf x)]? =ah J->(qDJh+1+1<=4/\OkV (qDJg t I J x))/\∀(y:List Int),y=We (qDJh+1) (qDJg t I J x)->∃(j:DX),R j/\j.2+1<=x.2/\af=af/\((c=c/\(ae=af->ae=af))/\qDJh=qDJh/\qDJh=qDJh/\wr ac ((qDJf x)+1)=(qDJf j)/\True)/\(e32q y (aC j))/\z00/\True)/\(decide ((qDJf x)<(↑(ab c):Int))=ae->e32q (aC x) z)):=by kernel_rfl
theorem Zsx(c:List Ins) (hl:c.length<=1000000):PureC E2 27 [.psl Th.ins c ae] (Zm (Zdx c)):=by
 refine Za Zd (Zb Zd Zno 400) ?_;rw[Zsw];delta qDJf qDJg qDJh;refine⟨λx=>∃q,q<=c.length/\x.k=q/\x.D=Zdx (c.take q)/\x.r=c.length-q,⟨⟨0,c.length,Zgr,[],0,0,0,0⟩,⟨0,bg _,rfl,rfl,rfl⟩,rfl,⟨⟨rfl,id⟩,rfl,rfl,rfl,js⟩,Z2e,Zg5,js⟩,?_⟩;rintro x ⟨q,a0,J,t,a1⟩;refine aK (λh=> ?_) (λh=> ?_)
 ·have h:=iK h
  refine⟨by omega,by omega,λn j=>⟨by omega,by omega,λn2 R=>⟨by omega,by omega,λn3 U=> ?_⟩⟩⟩;obtain rfl:=aU (j.symm.trans R);obtain rfl:=aU (j.symm.trans U);refine⟨⟨by omega,Zp5 n x.D⟩,λy I=>⟨⟨q+1,c.length-(q+1),y,[],0,0,0,0⟩,⟨q+1,by omega,rfl,?_,rfl⟩,by show c.length-(q+1)+1<=x.r;omega,rfl,⟨⟨rfl,id⟩,rfl,rfl,?_,js⟩,e32r _,Zg5,js⟩⟩
  ·have j:c[q]? =ah n:=by rw[<-J];exact j
   have I:y=We 1 (Zwf n x.D):=I;show y=_;rw[Ye j,Zdx,dZ,I,t];rfl
  ·show wr .i64 ((x.k:Int)+1)=((q+1:Nat):Int)
   rw[J,wr64 (by omega) (by omega)];omega
 ·have h:=iT h
  obtain rfl:q=c.length:=by omega
  rw[aM] at t;rw[t];exact e32r _
abbrev qDJj:=(1:Nat)
abbrev qDJy:=(qDJj+qDJj+qDJj+qDJj+qDJj+qDJj+qDJj+qDJj+qDJj)
abbrev Z62:=(qDJj+qDJj+qDJj+qDJj+qDJj+qDJj+qDJj+qDJj)
abbrev Z2f:=(qDJj+qDJj+qDJj+qDJj+qDJj+qDJj)
abbrev qDJx:=(1:Int)
abbrev Z63(j:Env):=(aj qDJj [bd qDJx (bM j) [] []]++ [bd qDJx (bN j) [] []])
abbrev qDJo(j:Env):=(aj (qDJj+qDJj) (Z63 j)++ [bd qDJx (bO j) [] []])
abbrev Z64(j:Env):=(aj (qDJj+qDJj+qDJj) (qDJo j)++ [bd qDJx (bP j) [] []])
abbrev qDJw(j:Env):=(aj (qDJj+qDJj+qDJj+qDJj) (Z64 j)++ [bd qDJx (bQ j) [] []])
abbrev qDJk(j:Env):=(aj (qDJj+qDJj+qDJj+qDJj+qDJj) (qDJw j)++ [bd qDJx (bR j) [] []])
abbrev Z65:=(qDJj+qDJj+qDJj+qDJj+qDJj+qDJj+qDJj)
abbrev qDJt(j:Env):=(aj Z65 (aj Z2f (qDJk j)++ [bd qDJx (bK j) [] []])++ [bd qDJx (bS j) [] []])
abbrev qDJm(j:Env):=(aj Z62 (qDJt j)++ [bd qDJx (bT j) [] []])
abbrev Z66:=(qDJj+qDJj+qDJj+qDJj+qDJj+qDJj+qDJj+qDJj+qDJj+qDJj)
abbrev qDJi(j:Env):=(aj Z66 (aj qDJy (qDJm j)++ [bd qDJx (bL j) [] []])++ [bd qDJx (bp j) [] []])
abbrev qDJz:=(qDJj+qDJj+qDJj+qDJj+qDJj+qDJj+qDJj+qDJj+qDJj+qDJj+qDJj+qDJj+qDJj+qDJj)
abbrev qDJu:=(qDJj+qDJj+qDJj+qDJj+qDJj+qDJj+qDJj+qDJj+qDJj+qDJj+qDJj+qDJj+qDJj)
abbrev qDJv:=(qDJj+qDJj+qDJj+qDJj+qDJj+qDJj+qDJj+qDJj+qDJj+qDJj+qDJj)
abbrev Z67:=(qDJj+qDJj+qDJj+qDJj+qDJj+qDJj+qDJj+qDJj+qDJj+qDJj+qDJj+qDJj)
abbrev qDJn(j:Env):=(aj Z67 (aj qDJv (qDJi j)++ [bd qDJx (bj j) [] []])++ [bd qDJx (bq j) [] []])
abbrev qDJl(j:Env):=(aj qDJz (aj qDJu (qDJn j)++ [bd qDJx (bk j) [] []])++ [bd qDJx (br j) [] []])
abbrev qDJr:=(qDJj+qDJj+qDJj+qDJj+qDJj+qDJj+qDJj+qDJj+qDJj+qDJj+qDJj+qDJj+qDJj+qDJj+qDJj+qDJj)
abbrev Vr:=(0:Nat)
abbrev qDJs:=(qDJj+qDJj+qDJj+qDJj+qDJj+qDJj+qDJj+qDJj+qDJj+qDJj+qDJj+qDJj+qDJj+qDJj+qDJj)
abbrev qDJp(j:Env):=(lisV [bd qDJx (bC j) [] [],bd (3:Int) (0:Int) [] (aj qDJr (aV Vr (aj qDJs (qDJl j)++ [bd qDJx (bm j) [] []])))])
abbrev qDJq:=(140737488355328:Nat)
abbrev Zaw:=(64:Nat)
theorem Zky(v:Env) (z:List Int):Zk E2 Fron (vc E2 Fron 400) 28 [envV v] hp0 0 (λr=>ret E2 (patch hp0 0 r) r.v (Zm z))=(
 (qDJj<=qDJj/\Vr<=qDJj/\(qDJj+qDJj)*Zaw<=qDJq)/\(qDJj+qDJj<=ab (Z63 v)/\Vr<=qDJj+qDJj/\(qDJj+qDJj+qDJj)*Zaw<=qDJq)/\(qDJj+qDJj+qDJj<=ab (qDJo v)/\Vr<=qDJj+qDJj+qDJj/\(qDJj+qDJj+qDJj+qDJj)*Zaw<=qDJq)/\(qDJj+qDJj+qDJj+qDJj<=ab (Z64 v)/\Vr<=qDJj+qDJj+qDJj+qDJj/\(qDJj+qDJj+qDJj+qDJj+qDJj)*Zaw<=qDJq)/\(qDJj+qDJj+qDJj+qDJj+qDJj<=ab (qDJw v)/\Vr<=qDJj+qDJj+qDJj+qDJj+qDJj/\Z2f*Zaw<=qDJq)/\(qDJj+qDJj+qDJj+qDJj+qDJj+qDJj<=ab (qDJk v)/\Vr<=qDJj+qDJj+qDJj+qDJj+qDJj+qDJj/\Z65*Zaw<=qDJq)/\(qDJj+qDJj+qDJj+qDJj+qDJj+qDJj+qDJj<=ab (aj Z2f (qDJk v)++ [bd qDJx (bK v) [] []])/\Vr<=qDJj+qDJj+qDJj+qDJj+qDJj+qDJj+qDJj/\Z62*Zaw<=qDJq)/\(qDJj+qDJj+qDJj+qDJj+qDJj+qDJj+qDJj+qDJj<=ab (qDJt v)/\Vr<=qDJj+qDJj+qDJj+qDJj+qDJj+qDJj+qDJj+qDJj/\qDJy*Zaw<=qDJq)/\(qDJj+qDJj+qDJj+qDJj+qDJj+qDJj+qDJj+qDJj+qDJj<=ab (qDJm v)/\Vr<=qDJj+qDJj+qDJj+qDJj+qDJj+qDJj+qDJj+qDJj+qDJj/\Z66*Zaw<=qDJq)/\(qDJj+qDJj+qDJj+qDJj+qDJj+qDJj+qDJj+qDJj+qDJj+qDJj<=ab (aj qDJy (qDJm v)++ [bd qDJx (bL v) [] []])/\Vr<=qDJj+qDJj+qDJj+qDJj+qDJj+qDJj+qDJj+qDJj+qDJj+qDJj/\qDJv*Zaw<=qDJq)/\(qDJj+qDJj+qDJj+qDJj+qDJj+qDJj+qDJj+qDJj+qDJj+qDJj+qDJj<=ab (qDJi v)/\Vr<=qDJj+qDJj+qDJj+qDJj+qDJj+qDJj+qDJj+qDJj+qDJj+qDJj+qDJj/\Z67*Zaw<=qDJq)/\(qDJj+qDJj+qDJj+qDJj+qDJj+qDJj+qDJj+qDJj+qDJj+qDJj+qDJj+qDJj<=ab (aj qDJv (qDJi v)++ [bd qDJx (bj v) [] []])/\Vr<=qDJj+qDJj+qDJj+qDJj+qDJj+qDJj+qDJj+qDJj+qDJj+qDJj+qDJj+qDJj/\qDJu*Zaw<=qDJq)/\(qDJj+qDJj+qDJj+qDJj+qDJj+qDJj+qDJj+qDJj+qDJj+qDJj+qDJj+qDJj+qDJj<=ab (qDJn v)/\Vr<=qDJj+qDJj+qDJj+qDJj+qDJj+qDJj+qDJj+qDJj+qDJj+qDJj+qDJj+qDJj+qDJj/\qDJz*Zaw<=qDJq)/\(qDJj+qDJj+qDJj+qDJj+qDJj+qDJj+qDJj+qDJj+qDJj+qDJj+qDJj+qDJj+qDJj+qDJj<=ab (aj qDJu (qDJn v)++ [bd qDJx (bk v) [] []])/\Vr<=qDJj+qDJj+qDJj+qDJj+qDJj+qDJj+qDJj+qDJj+qDJj+qDJj+qDJj+qDJj+qDJj+qDJj/\qDJs*Zaw<=qDJq)/\(qDJj+qDJj+qDJj+qDJj+qDJj+qDJj+qDJj+qDJj+qDJj+qDJj+qDJj+qDJj+qDJj+qDJj+qDJj<=ab (qDJl v)/\Vr<=qDJj+qDJj+qDJj+qDJj+qDJj+qDJj+qDJj+qDJj+qDJj+qDJj+qDJj+qDJj+qDJj+qDJj+qDJj/\qDJr*Zaw<=qDJq)/\Vr+qDJr<=ab (aj qDJs (qDJl v)++ [bd qDJx (bm v) [] []])/\(Vr+qDJj+qDJj+qDJj<=4/\OkV (qDJp v))/\∀(y:List Int),y=We (Vr+qDJj+qDJj) (qDJp v)->e32q y z):=by kernel_rfl
theorem Zkz(v:Env):PureC E2 28 [envV v] (Zm (Vh v)):=by
 refine Za Zd (Zb Zd Zno 400) ?_;rw[Zky];delta qDJj qDJy Z62 Z2f qDJx Z63 qDJo Z64 qDJw qDJk Z65 qDJt qDJm Z66 qDJi qDJz qDJu qDJv Z67 qDJn qDJl qDJr Vr qDJs qDJp qDJq Zaw
 refine⟨iK (by kernel_rfl),iK (by kernel_rfl),iK (by kernel_rfl),iK (by kernel_rfl),iK (by kernel_rfl),iK (by kernel_rfl),iK (by kernel_rfl),iK (by kernel_rfl),iK (by kernel_rfl),iK (by kernel_rfl),iK (by kernel_rfl),iK (by kernel_rfl),iK (by kernel_rfl),iK (by kernel_rfl),iK (by kernel_rfl),iK (by kernel_rfl),⟨by omega,Zhd v⟩,λy j=> ?_⟩
 have e:y=Vh v:=j.trans (by kernel_rfl);rw[e];exact e32r _
noncomputable def Zk0:Sum thy:=Yh E2 gthV 4 (.cons (dDig E2) (.cons (Zpf E2) .nil)) (λx=>x.2.1.length<=1000000) (λx=>Zav x.1 x.2.1) Zm
theorem Zk1:SumOk E2 56 Zk0:=Zl Zd (Ze (f:=56) rfl) λx h=>Zsv x.1 x.2.1 h
noncomputable def Frst:Fns thy:=addS F0 56 Zk0
theorem Znp(l:List Int) (z:List Int):Zk E2 Frst (vc E2 Frst 400) 55 [.psl gG l ae] hp0 0 (λr=>ret E2 (patch hp0 0 r) r.v (Zm z))=(
ab l<=1000000/\∀(y:List Int),y=Zav Zgr l->e32q y z):=by kernel_rfl
theorem Znq(l:List Int) (j:l.length<=1000000):PureC E2 55 [.psl gG l ae] (Zm (Ze7 l)):=by
 refine Za Zd (Zb Zd (Zc Z7 Zk1) 400) ?_;rw[show addS F0 56 Zk0=Frst from rfl,Znp];exact⟨j,λy t=>by rw[t];exact e32r _⟩
noncomputable def Fjn:Fns thy:=addS (addS F0 51 Zqk) 56 Zk0
theorem Zsy(p q:List Int) (o:Opn) (z:List Int):Zk E2 Fjn (vc E2 Fjn 400) 30 [Zm p,Zm q,opnV o] hp0 0 (λr=>ret E2 (patch hp0 0 r) r.v (Zm z))=(
ab (fe o)<=1000000/\∀(y:List Int),y=Zav (n32q (cP o)) (fe o)->(0+1+1+1+1<=4/\OkV (lisV [bd 2 0 (n32q p) [],bd 2 0 (n32q q) [],bd 1 (jK o) [] [],bd 1 (iE o) [] [],bd 1 (gn o) [] [],bd 1 (gp o) [] [],bd 1 (wr ac (gR o+(↑(ab (fe o)):Int))) [] [],bd 2 0 (n32q y) []]))/\∀(j:List Int),j=We (0+1+1+1) (lisV [bd 2 0 (n32q p) [],bd 2 0 (n32q q) [],bd 1 (jK o) [] [],bd 1 (iE o) [] [],bd 1 (gn o) [] [],bd 1 (gp o) [] [],bd 1 (wr ac (gR o+(↑(ab (fe o)):Int))) [] [],bd 2 0 (n32q y) []])->e32q j z):=by kernel_rfl
noncomputable def Zk2(p q:List Int) (o:Opn):List Int:=We 3 (Zfs p q o (Zav (n32 o.rest) o.top))
theorem Zsz(p q:List Int) (o:Opn) (j:o.top.length<=1000000):PureC E2 30 [Zm p,Zm q,opnV o] (Zm (Zk2 p q o)):=by
 refine Za Zd (Zb Zd (Zc (Zc Z7 Zkx) Zk1) 400) ?_;rw[show addS (addS F0 51 Zqk) 56 Zk0=Fjn from rfl,Zsy];refine⟨j,λy t=>⟨⟨by omega,Zlq p q o y⟩,λz I=> ?_⟩⟩;have e:z=Zk2 p q o:=by
  rw[I];show We 3 (Zfs p q o y)=_;rw[t];rfl
 rw[e];exact e32r _
noncomputable def Z68:Sum thy:=Yh E2 gthV 4 (.cons (Zbv E2) .nil) (λx=>x.1.length<=1000000) (λx=>Zdx x.1) Zm
theorem Zql:SumOk E2 27 Z68:=Zl Zd (Ze (f:=27) rfl) λx h=>Zsx x.1 h
noncomputable def Z69:Sum thy:=Ub (.cons Zku .nil) (λ_=>True) (λx=>Vh x.1) Zm
theorem Zqm:SumOk E2 28 Z69:=Yn Zd (Ze (f:=28) rfl) λx _=>Zkz x.1
noncomputable def Yal:Sum thy:=Yh E2 gthV 4 (.cons (Zpf E2) .nil) (λx=>x.1.length<=1000000) (λx=>Ze7 x.1) Zm
theorem Z2g:SumOk E2 55 Yal:=Zl Zd (Ze (f:=55) rfl) λx h=>Znq x.1 h
noncomputable def Z7a:Sum thy:=Ub (.cons (dDig E2) (.cons (dDig E2) (.cons Yac .nil))) (λx=>x.2.2.1.top.length<=1000000) (λx=>Zk2 x.1 x.2.1 x.2.2.1) Zm
theorem Zqn:SumOk E2 30 Z7a:=Yn Zd (Ze (f:=30) rfl) λx h=>Zsz x.1 x.2.1 x.2.2.1 h
noncomputable def Frdg:Fns thy:=addS (addS (addS (addS F0 27 Z68) 28 Z69) 55 Yal) 30 Z7a
theorem Z7b:FnsOk E2 Frdg:=Zc (Zc (Zc (Zc Z7 Zql) Zqm) Z2g) Zqn
theorem Zs0(s:St) (n:Int) (z:Opn):Zk E2 Frdg (vc E2 Frdg 400) 29 [stV s,.int ae .i64 n] hp0 0 (λr=>ret E2 (patch hp0 0 r) r.v (opnV z))=(
(0<=wr ac ((↑(ab (aF s)):Int)-mm2 af (mm2 ae n (↑(ab (aF s)):Int)) 0)/\wr ac ((↑(ab (aF s)):Int)-mm2 af (mm2 ae n (↑(ab (aF s)):Int)) 0)<=(↑(ab (aF s)):Int))/\(0<=wr ac ((↑(ab (aF s)):Int)-mm2 af (mm2 ae n (↑(ab (aF s)):Int)) 0)/\wr ac ((↑(ab (aF s)):Int)-mm2 af (mm2 ae n (↑(ab (aF s)):Int)) 0)<=(↑(ab (aF s)):Int))/\ab (aj (ag (wr ac ((↑(ab (aF s)):Int)-mm2 af (mm2 ae n (↑(ab (aF s)):Int)) 0))) (aF s))<=1000000/\∀(y:List Int),y=Ze7 (aj (ag (wr ac ((↑(ab (aF s)):Int)-mm2 af (mm2 ae n (↑(ab (aF s)):Int)) 0))) (aF s))->be s=jK z/\aQ s=iE z/\av s=gn z/\aw s=gp z/\(aV (ag (wr ac ((↑(ab (aF s)):Int)-mm2 af (mm2 ae n (↑(ab (aF s)):Int)) 0))) (aF s)=fe z/\(ae=af->ae=af))/\wr ac ((↑(ab (aF s)):Int)-mm2 af (mm2 ae n (↑(ab (aF s)):Int)) 0)=gR z/\e32q y (cP z)):=by kernel_rfl
theorem Yam(len:Nat) (n:Int) (h:len<=1000000):wr .i64 ((len:Int)-mm2 af (mm2 ae n (len:Int)) 0)=((len-(min (max n 0) len).toNat:Nat):Int):=by
 rw[Zx,Z4,wr64 (by omega) (by omega)];omega
theorem Zs1(s:St) (n:Int) (j:s.stack.length<=1000000):PureC E2 29 [stV s,.int ae .i64 n] (opnV (Zcq s n)):=by
 refine Za Zd (Zb Zd Z7b 400) ?_;rw[Zs0,Yam _ n j,bB];have I:s.stack.length-(min (max n 0) (s.stack.length:Int)).toNat<=s.stack.length:=by omega
 refine⟨⟨by omega,by omega⟩,⟨by omega,by omega⟩,by rw[aW];omega,λy t=> ?_⟩;rw[t];exact⟨rfl,rfl,rfl,rfl,⟨rfl,id⟩,rfl,e32r _⟩
theorem Yan(p q:List Int) (o:Opn):Zk2 (n32q p) (n32q q) (Opn.mk o.pc o.fuel o.status o.clause o.top o.depth (n32q o.rest))=Zk2 p q o:=by kernel_rfl
end
section
open Go Go.RowKit
structure YX where
 k:Nat
 p:Nat
 row:List (List Int)
 pad:List Int
 D:List Int
 r:Nat
def Apow:Fr thy->Hp thy->Nat->Ann thy:=λT h i=>{X:=YX,fr:=λx=> [(0,T 0),(3,.int ae .i64 x.p),(4,.int ae .i64 x.k)],bl:=λ_=> [],src:=λ_=> [],md:= [],ih:=i,M:=i+30,meas:=λx=>x.r}
noncomputable def Fpow:Fns thy:=addL F0 87 3 Apow E2
theorem Z6s:FnsOk E2 Fpow:=Zn Zd Z7 _ _ _
theorem Zw2(n:Int) (v:Int):Zk E2 Fpow (vc E2 Fpow 400) 87 [.int ae .i64 n] hp0 0 (λr=>ret E2 (patch hp0 0 r) r.v (.int ae .i64 v))=(
∃(R:YX->Prop),(∃(x:YX),R x/\af=af/\(n=n/\1=(↑(YX.p x):Int)/\0=(↑(YX.k x):Int)/\True)/\True)/\∀(x:YX),R x->(decide ((↑(YX.k x):Int)<n)=af->∃(j:YX),R j/\j.6+1<=x.6/\af=af/\(n=n/\wr ac (2*(↑(YX.p x):Int))=(↑(YX.p j):Int)/\wr ac ((↑(YX.k x):Int)+1)=(↑(YX.k j):Int)/\True)/\True)/\(decide ((↑(YX.k x):Int)<n)=ae->(↑(YX.p x):Int)=v)):=by kernel_rfl
noncomputable def Z4p:Sum thy:=Yh E2 gthV 10 (.cons dI2 .nil) (λx=>0<=x.1/\x.1<=60) (λx=>2^x.1.toNat) λ(y:Nat)=> .int ae .i64 (y:Int)
def Adep:Fr thy->Hp thy->Nat->Ann thy:=λT h i=>{X:=YX,fr:=λx=> [(0,T 0),(3,.int ae .i64 x.k)],bl:=λ_=> [],src:=λ_=> [],md:= [],ih:=i,M:=i+30,meas:=λx=>x.r}
noncomputable def Fdep:Fns thy:=addL (addS F0 87 Z4p) 60 4 Adep E2
theorem Zw3(n:Int) (v:Int):Zk E2 Fdep (vc E2 Fdep 400) 60 [.int ae .i64 n] hp0 0 (λr=>ret E2 (patch hp0 0 r) r.v (.int ae .i64 v))=(
∃(Q:Bool->Prop),((decide (n<0)=af->Q af)/\(decide (n<0)=ae->(decide (n>65536)=af->Q af)/\(decide (n>65536)=ae->Q ae)))/\(Q af->(-1:Int)=v)/\(Q ae->∃(R:YX->Prop),(∃(x:YX),R x/\af=af/\(n=n/\0=(↑(YX.k x):Int)/\True)/\True)/\∀(x:YX),R x->(0<=(↑(YX.k x):Int)/\(↑(YX.k x):Int)<=60)/\∀(y:Nat),y=2^ag (↑(YX.k x):Int)->(decide ((↑y:Int)<n)=af->∃(j:YX),R j/\j.6+1<=x.6/\af=af/\(n=n/\wr ac ((↑(YX.k x):Int)+1)=(↑(YX.k j):Int)/\True)/\True)/\(decide ((↑y:Int)<n)=ae->(↑(YX.k x):Int)=v))):=by kernel_rfl
noncomputable def FsmY:Fns thy:=addS F0 104 Z6z
theorem Zw4(d:List Int):Zk E2 FsmY (vc E2 FsmY 400) 84 [] hp0 0 (λr=>ret E2 (patch hp0 0 r) r.v (Zm d))=(
([(↑(112:Nat):Int),(↑(97:Nat):Int),(↑(100:Nat):Int)]= []->1<=100000/\∀(y:List Int),y=shaF [3]->e32q y d)/\([(↑(112:Nat):Int),(↑(97:Nat):Int),(↑(100:Nat):Int)]≠ []->(1+1<=1+3/\(1+3)*1<=140737488355328)/\0+(1+3)<=ab ([3]++ [(↑(112:Nat):Int),(↑(97:Nat):Int),(↑(100:Nat):Int)])/\ab (aj (1+3) (aV 0 ([3]++ [(↑(112:Nat):Int),(↑(97:Nat):Int),(↑(100:Nat):Int)])))<=100000/\∀(y:List Int),y=shaF (aj (1+3) (aV 0 ([3]++ [(↑(112:Nat):Int),(↑(97:Nat):Int),(↑(100:Nat):Int)])))->e32q y d)):=by kernel_rfl
def pcC(k:Int) (st:Nat->Prop):Nat->Nat->Prop
 |0,_=>True
 |n+1,j=>((k==(j:Int))=af->st j)/\((k==(j:Int))=ae->pcC k st n (j+1))
theorem Zw5{k:Nat} {st:Nat->Prop} (h:st k):∀n j,pcC (k:Int) st n j
 |0,_=>js
 |n+1,j=>⟨λe=>by
  have:k=j:=by have:=eq_of_beq e;omega
  exact this▸h,λ_=>Zw5 h n (j+1)⟩
def Apa1:Fr thy->Hp thy->Nat->Ann thy:=λT h i=>{X:=YX,fr:=λx=> [(2,T 2),(3,T 3),(5,.sl i 0 x.D.length 1 aD),(6,.int ae .i64 x.k)],bl:=λx=>(i,.rows cu x.D 0)::(blkP h (T 2)++blkP h (T 3)),src:=λ_=> [(i,5)],md:= [bOf (T 5)],ih:=i+1,M:=i+60,meas:=λx=>x.r}
def Apa2:Fr thy->Hp thy->Nat->Ann thy:=λT h i=>{X:=YX,fr:=λx=> [(3,T 3),(5,.sl i 0 x.D.length 1 aD),(7,.int ae .i64 x.k)],bl:=λx=>(i,.rows cu x.D 0)::(blkP h (T 3)),src:=λ_=> [(i,5)],md:= [bOf (T 5)],ih:=i+1,M:=i+60,meas:=λx=>x.r}
noncomputable def Fpai:Fns thy:=addL (addL F0 110 3 Apa1 E2) 110 7 Apa2 E2
theorem Z6t:FnsOk E2 Fpai:=Zn Zd (Zn Zd Z7 _ _ _) _ _ _
abbrev pB(x:YX):Prop:=ab (YX.D x)<=ab (YX.D x)/\0<=ab (YX.D x)/\(ab (YX.D x)+1)*1<=140737488355328
abbrev pN(x j:YX):Prop:=(0=0/\ab (YX.D x)+1=ab (YX.D j)/\True)/\wr ac ((↑(YX.k x):Int)+1)=(↑(YX.k j):Int)/\True
abbrev qDK1:=(0:Nat)
abbrev qDK2(j:YX):=(↑(YX.k j):Int)
theorem Zsr(a b:List Int) (z:List Int):Zk E2 Fpai (vc E2 Fpai 4000) 110 [Zm a,Zm b] hp0 0 (λr=>ret E2 (patch hp0 0 r) r.v (.psl cu z ae))=(
 ∃(R:YX->Prop),(∃(x:YX),R x/\af=af/\(qDK1=qDK1/\qDK1=qDK1/\(qDK1=qDK1/\qDK1=ab (YX.D x)/\True)/\0=(qDK2 x)/\True)/\ []=YX.D x/\(e32q a a)/\(e32q b b)/\True)/\∀(x:YX),R x->(decide ((qDK2 x)<32)=af->0<=(qDK2 x)/\(qDK2 x)+1<=(↑(32:Nat):Int)/\pcC (qDK2 x) (λj=>pB x/\∃(t:YX),R t/\t.6+1<=x.6/\af=af/\(qDK1=qDK1/\qDK1=qDK1/\pN x t)/\(aj (ab (YX.D x)) (YX.D x)++ [aa a j 0]=YX.D t/\qDK1=qDK1)/\(e32q a a)/\(e32q b b)/\True) 32 0)/\(decide ((qDK2 x)<32)=ae->∃(R:YX->Prop),(∃(t:YX),R t/\af=af/\(qDK1=qDK1/\(qDK1=qDK1/\ab (YX.D x)=ab (YX.D t)/\True)/\0=(qDK2 t)/\True)/\(YX.D x=YX.D t/\qDK1=qDK1)/\(e32q b b)/\True)/\∀(x:YX),R x->(decide ((qDK2 x)<32)=af->0<=(qDK2 x)/\(qDK2 x)+1<=(↑(32:Nat):Int)/\pcC (qDK2 x) (λj=>pB x/\∃(t:YX),R t/\t.6+1<=x.6/\af=af/\(qDK1=qDK1/\pN x t)/\(aj (ab (YX.D x)) (YX.D x)++ [aa b j 0]=YX.D t/\qDK1=qDK1)/\(e32q b b)/\True) 32 0)/\(decide ((qDK2 x)<32)=ae->qDK1+ab (YX.D x)<=ab (YX.D x)/\aj (ab (YX.D x)) (YX.D x)=z))):=by kernel_rfl
theorem Zqh{a:List Int} {k:Nat} (h:k<32):(n32 a).take k++ [aa a k 0]=(n32 a).take (k+1):=by
 rw[List.take_add_one];unfold n32;rw[List.getElem?_map,List.getElem?_range h];rfl
theorem Zss(a b:List Int):PureC E2 110 [Zm a,Zm b] (.psl cu (n32 a++n32 b) ae):=by
 refine Za Zd (Zb Zd Z6t 4000) ?_;rw[Zsr];delta qDK1 qDK2;have J:=Uh (rfl:n32 a=n32 a);have t:=Uh (rfl:n32 b=n32 b);have R:=Uu a;have lb:=Uu b;refine⟨λx=>x.k<=32/\x.D=(n32 a).take x.k/\x.r=32-x.k,⟨⟨0,0,[],[],[],32⟩,⟨by decide,rfl,rfl⟩,rfl,⟨rfl,rfl,⟨rfl,rfl,js⟩,rfl,js⟩,rfl,J,t,js⟩,?_⟩;rintro x ⟨U,j,hr⟩;have hl:x.D.length=x.k:=by rw[j,aW,R];omega
 refine aK (λg=> ?_) (λg=> ?_)
 ·have g:=iK g
  refine⟨by omega,by show(x.k:Int)+1<=32;omega,Zw5 ⟨⟨aE _,bg _,by omega⟩,⟨x.k+1,0,[],[],x.D++ [aa a x.k 0],32-(x.k+1)⟩,⟨by dsimp only;omega,by dsimp only;rw[j];exact Zqh (by omega),rfl⟩,by dsimp only;omega,rfl,⟨rfl,rfl,⟨rfl,by simp,js⟩,wr64 (by omega) (by omega),js⟩,⟨by rw[aM],rfl⟩,J,t,js⟩ 32 0⟩
 ·have g:=iT g
  have j:x.D=n32 a:=by rw[j,aN (by omega)]
  refine⟨λy=>y.k<=32/\y.D=n32 a++(n32 b).take y.k/\y.r=32-y.k,⟨⟨0,0,[],[],x.D,32⟩,⟨bg _,by dsimp only;rw[j,List.take_zero,dW],rfl⟩,rfl,⟨rfl,⟨rfl,rfl,js⟩,rfl,js⟩,⟨rfl,rfl⟩,t,js⟩,?_⟩;rintro y ⟨U,I,hr⟩;have hl:y.D.length=32+y.k:=by rw[I,aO,R,aW,lb];omega
  refine aK (λg=> ?_) (λg=> ?_)
  ·have g:=iK g
   refine⟨by omega,by show(y.k:Int)+1<=32;omega,Zw5 ⟨⟨aE _,bg _,by omega⟩,⟨y.k+1,0,[],[],y.D++ [aa b y.k 0],32-(y.k+1)⟩,⟨by dsimp only;omega,by dsimp only;rw[I,List.append_assoc,Zqh (by omega)],rfl⟩,by dsimp only;omega,rfl,⟨rfl,⟨rfl,by simp,js⟩,wr64 (by omega) (by omega),js⟩,⟨by rw[aM],rfl⟩,t,js⟩ 32 0⟩
  ·have g:=iT g
   refine⟨by omega,?_⟩;rw[aM,I,aN (by omega)]
noncomputable def Z4q:Sum thy:=Yh E2 gthV 10 (.cons (dDig E2) (.cons (dDig E2) .nil)) (λ_=>True) (λx=>n32 x.1++n32 x.2.1) λy=> .psl cu y ae
theorem Zw6:SumOk E2 110 Z4q:=Zl Zd (Ze (f:=110) rfl) λx _=>Zss x.1 x.2.1
noncomputable def Z6u:Fns thy:=addS FsmY 110 Z4q
abbrev qDK3:=([(4:Int)]++ [(↑(110:Nat):Int),(↑(111:Nat):Int),(↑(100:Nat):Int),(↑(101:Nat):Int)])
abbrev qDK4:=(1:Nat)
abbrev qDK5:=(qDK4+(4:Nat))
abbrev qDK6(j:List Int):=(aj (qDK4+(4:Nat)+ab j) (aV (0:Nat) (aj qDK5 qDK3++j)))
abbrev qDK7(j:List Int):=(aj (qDK4+ab j) (aV (0:Nat) ([(4:Int)]++j)))
theorem Zw7(a b:List Int) (d:List Int):Zk E2 Z6u (vc E2 Z6u 400) 86 [Zm a,Zm b] hp0 0 (λr=>ret E2 (patch hp0 0 r) r.v (Zm d))=(
 True/\∀(y:List Int),y=n32 (n32q a)++n32 (n32q b)->([(↑(110:Nat):Int),(↑(111:Nat):Int),(↑(100:Nat):Int),(↑(101:Nat):Int)]= []->(y= []->qDK4<=100000/\∀(y:List Int),y=shaF [4]->e32q y d)/\(y≠ []->(qDK4+qDK4<=qDK4+ab y/\(qDK4+ab y)*qDK4<=140737488355328)/\0+(qDK4+ab y)<=ab ([4]++y)/\ab (qDK7 y)<=100000/\∀(j:List Int),j=shaF (qDK7 y)->e32q j d))/\([(↑(110:Nat):Int),(↑(111:Nat):Int),(↑(100:Nat):Int),(↑(101:Nat):Int)]≠ []->(qDK4+qDK4<=qDK4+4/\qDK5*qDK4<=140737488355328)/\(y= []->0+qDK5<=ab qDK3/\ab (aj qDK5 (aV 0 qDK3))<=100000/\∀(y:List Int),y=shaF (aj qDK5 (aV 0 qDK3))->e32q y d)/\(y≠ []->(qDK4+4<=ab qDK3/\0<=qDK4+4/\(qDK4+4+ab y)*qDK4<=140737488355328)/\0+(qDK4+4+ab y)<=ab (aj qDK5 qDK3++y)/\ab (qDK6 y)<=100000/\∀(j:List Int),j=shaF (qDK6 y)->e32q j d))):=by kernel_rfl
noncomputable def Z6v:Sum thy:=Yh E2 gthV 10 (.cons (dDig E2) (.cons (dDig E2) .nil)) (λ_=>True) (λx=>mP x.1 x.2.1) Zm
noncomputable def Yag:Sum thy:=Yh E2 gthV 10 .nil (λ_=>True) (λ_=>mPad) Zm
noncomputable def Yah:Sum thy:=Yh E2 gthV 10 (.cons dI2 .nil) (λx=>0<=x.1/\x.1<=65536) (λx=>depM x.1.toNat) λ(y:Nat)=> .int ae .i64 (y:Int)
def Aabv:Fr thy->Hp thy->Nat->Ann thy:=λT h i=>{X:=YX,fr:=λx=> [(0,T 0),(3,T 3),(5,.sl i 0 x.row.length 32 aD),(6,.int ae .i64 x.k)],bl:=λx=>(i,.rows dD x.row 0)::blkP h (T 3),src:=λ_=> [(i,5)],md:= [bOf (T 5)],ih:=i+1,M:=i+60,meas:=λx=>x.r}
noncomputable def Fabv:Fns thy:=addL (addS F0 86 Z6v) 85 3 Aabv E2
abbrev qDKb:=(0:Nat)
abbrev qDKa(j:YX):=(↑(YX.k j):Int)
abbrev qDK8(j:List (List Int)) (t:YX) (I:YX):=((j=j/\(ae=af->ae=af))/\qDKb=qDKb/\(qDKb=qDKb/\ab (YX.row t)+(1:Nat)=ab (YX.row I)/\True)/\wr ac ((qDKa t)+(2:Int))=(qDKa I)/\True)
abbrev qDK9(j:YX):=(ab (YX.row j)<=ab (YX.row j)/\qDKb<=ab (YX.row j)/\(ab (YX.row j)+(1:Nat))*(32:Nat)<=(140737488355328:Nat))
abbrev qDKc(j:List (List Int)):=(↑(ab j):Int)
theorem Zw8(L:List (List Int)) (p:List Int) (z:List (List Int)):Zk E2 Fabv (vc E2 Fabv 400) 85 [.psl dD L ae,Zm p] hp0 0 (λr=>ret E2 (patch hp0 0 r) r.v (.psl dD z ae))=(
 ∃(R:YX->Prop),(∃(x:YX),R x/\af=af/\((L=L/\(ae=af->ae=af))/\qDKb=qDKb/\(qDKb=qDKb/\qDKb=ab (YX.row x)/\True)/\0=(qDKa x)/\True)/\ []=YX.row x/\(e32q p p)/\True)/\∀(x:YX),R x->(decide ((qDKa x)<(qDKc L))=af->(decide (wr ac ((qDKa x)+1)<(qDKc L))=af->0<=wr ac ((qDKa x)+1)/\wr ac ((qDKa x)+1)+1<=(qDKc L)/\∀(t:List Int),L[ag (wr ac ((qDKa x)+1))]? =ah t->0<=(qDKa x)/\(qDKa x)+1<=(qDKc L)/\∀(j:List Int),L[ag (qDKa x)]? =ah j->True/\∀(y:List Int),y=mP (n32q j) (n32q t)->(qDK9 x)/\∃(I:YX),R I/\I.6+1<=x.6/\af=af/\(qDK8 L x I)/\(aj (ab (YX.row x)) (YX.row x)++ [(n32q y)]=YX.row I/\qDKb=qDKb)/\(e32q p p)/\True)/\(decide (wr ac ((qDKa x)+1)<(qDKc L))=ae->0<=(qDKa x)/\(qDKa x)+1<=(qDKc L)/\∀(t:List Int),L[ag (qDKa x)]? =ah t->True/\∀(y:List Int),y=mP (n32q t) (n32q p)->(qDK9 x)/\∃(j:YX),R j/\j.6+1<=x.6/\af=af/\(qDK8 L x j)/\(aj (ab (YX.row x)) (YX.row x)++ [(n32q y)]=YX.row j/\qDKb=qDKb)/\(e32q p p)/\True))/\(decide ((qDKa x)<(qDKc L))=ae->qDKb+ab (YX.row x)<=ab (YX.row x)/\aj (ab (YX.row x)) (YX.row x)=z)):=by kernel_rfl
noncomputable def Yai:Sum thy:=Yh E2 gthV 10 (.cons Zr9 (.cons (dDig E2) .nil)) (λx=>x.1.length<=65536) (λx=>Wk mP x.1 x.2.1) λy=> .psl dD y ae
def Anod:Fr thy->Hp thy->Nat->Ann thy:=λT h i=>{X:=YX,fr:=λx=> [(1,T 1),(2,T 2),(6,T 6),(7,.psl dD x.row ae),(8,T 8),(9,.int ae .i64 x.k)],bl:=λx=>(bOf (T 8),.raw (Zm x.pad).cells 0 aD)::blkP h (T 6),src:=λ_=> [],md:= [bOf (T 8)],ih:=i,M:=i+60,meas:=λx=>x.r}
noncomputable def Z6w:Fns thy:=addL (addS (addS (addS F0 86 Z6v) 84 Yag) 85 Yai) 59 4 Anod E2
theorem Zw9(L:List (List Int)) (t k:Int) (d:List Int):Zk E2 Z6w (vc E2 Z6w 400) 59 [.psl dD L ae,.int ae .i64 t,.int ae .i64 k] hp0 0 (λr=>ret E2 (patch hp0 0 r) r.v (Zm d))=(
True/\∀(y:List Int),y=mPad->∃(R:YX->Prop),(∃(x:YX),R x/\af=af/\(t=t/\k=k/\0=0/\(L=YX.row x/\(ae=af->ae=af))/\0=0/\0=(↑(YX.k x):Int)/\True)/\(e32q y (YX.pad x))/\z00/\True)/\∀(x:YX),R x->(decide ((↑(YX.k x):Int)<t)=af->ab (YX.row x)<=65536/\∀(y:List (List Int)),y=Wk mP (YX.row x) (n32q (YX.pad x))->True/\∀(I:List Int),I=mP (n32q (YX.pad x)) (n32q (YX.pad x))->∃(j:YX),R j/\j.6+1<=x.6/\af=af/\(t=t/\k=k/\0=0/\(y=YX.row j/\(ae=af->ae=af))/\0=0/\wr ac ((↑(YX.k x):Int)+1)=(↑(YX.k j):Int)/\True)/\(e32q I (YX.pad j))/\z00/\True)/\(decide ((↑(YX.k x):Int)<t)=ae->(decide (k<(↑(ab (YX.row x)):Int))=af->0<=k/\k+1<=(↑(ab (YX.row x)):Int)/\∀(j:List Int),(YX.row x)[ag k]? =ah j->e32q j d)/\(decide (k<(↑(ab (YX.row x)):Int))=ae->e32q (YX.pad x) d))):=by kernel_rfl
theorem Zxa(n:Nat) (h:n<=60):PureC E2 87 [.int ae .i64 (n:Int)] (.int ae .i64 ((2^n:Nat):Int)):=by
 refine Za Zd (Zb Zd Z6s 400) ?_;rw[Zw2];refine⟨λx=>x.k<=n/\x.p=2^x.k/\x.r=n-x.k,⟨⟨0,1,[],[],[],n⟩,⟨bg _,rfl,rfl⟩,rfl,⟨rfl,rfl,rfl,js⟩,js⟩,?_⟩;rintro x ⟨I,j,J⟩;refine aK (λg=> ?_) (λg=> ?_)
 ·have g:=iK g
  have t:2^x.k<=2^59:=Nat.pow_le_pow_right (by decide) (by omega);refine⟨⟨x.k+1,2*x.p,[],[],[],n-(x.k+1)⟩,⟨by dsimp only;omega,by dsimp only;rw[j,Nat.pow_succ,Nat.mul_comm],rfl⟩,by dsimp only;omega,rfl,⟨rfl,?_,wr64 (by omega) (by omega),js⟩,js⟩;rw[<-j] at t;exact(wr64 (by omega) (by omega)).trans (by push_cast;rfl)
 ·have g:=iT g
  have:x.k=n:=by omega
  rw[j,this]
theorem Zxb:SumOk E2 87 Z4p:=Zl Zd (Ze (f:=87) rfl) λx h=>by
 obtain⟨a,_⟩:=x;obtain⟨j,t⟩:=h;dsimp only at j t;obtain⟨n,rfl⟩:=de j;exact Zxa n (by omega)
theorem Z6x:FnsOk E2 Fdep:=Zn Zd (Zc Z7 Zxb) _ _ _
theorem Znj{n:Nat} (h:n<=65536):depM n<=16:=by
 refine eJ λq=> ?_;have:=Zxt (n:=n) (k:=16) (by omega);omega
theorem Zxc(n:Nat) (h:n<=65536):PureC E2 60 [.int ae .i64 (n:Int)] (.int ae .i64 (depM n:Int)):=by
 refine Za Zd (Zb Zd Z6x 400) ?_;rw[Zw3];have I:=Znj h;refine⟨λb=>b=ae,⟨λg=>jv (iK g) (by omega),λ_=>⟨λg=>jv (iK g) (by omega),λ_=>rfl⟩⟩,(λe=>by cases e),λ_=>⟨λx=>x.k<=depM n/\x.r=depM n-x.k,⟨⟨0,0,[],[],[],depM n⟩,⟨bg _,rfl⟩,rfl,⟨rfl,rfl,js⟩,js⟩,?_⟩⟩;rintro x ⟨J,R⟩;refine⟨⟨by omega,by omega⟩,λy j=> ?_⟩;rw[bB] at j;refine aK (λg=> ?_) (λg=> ?_)
 ·have g:=iK g
  have t:x.k<depM n:=by
   refine eJ λq=> ?_;have e:x.k=depM n:=by omega
   have:=Z7c n;rw[e] at j;omega
  exact⟨⟨x.k+1,0,[],[],[],depM n-(x.k+1)⟩,⟨t,rfl⟩,by dsimp only;omega,rfl,⟨rfl,wr64 (by omega) (by omega),js⟩,js⟩
 ·have g:=iT g
  have:¬x.k<depM n:=λq=>by
   have:=Zxt q;omega
  have e:x.k=depM n:=by omega
  rw[e]
theorem Z15:SumOk E2 60 Yah:=Zl Zd (Ze (f:=60) rfl) λx h=>by
 obtain⟨a,_⟩:=x;obtain⟨j,t⟩:=h;dsimp only at j t;obtain⟨n,rfl⟩:=de j;exact Zxc n (by omega)
theorem Zxd:FnsOk E2 FsmY:=Zc Z7 Zqj
theorem Zxe:PureC E2 84 [] (Zm mPad):=by
 refine Za Zd (Zb Zd Zxd 400) ?_;rw[Zw4];refine⟨(λh=>by cases h),λ_=>⟨by decide,by decide,by decide,λy j=> ?_⟩⟩;have e:aj (1+3) (aV 0 ([3]++ [((112:Nat):Int),((97:Nat):Int),((100:Nat):Int)]))=eE [[3],[((112:Nat):Int),((97:Nat):Int),((100:Nat):Int)],[]]:=by simp
 rw[e] at j;rw[j];exact Z9m _
theorem Z16:FnsOk E2 Z6u:=Zc Zxd Zw6
theorem Zxf(a b:List Int):PureC E2 86 [Zm a,Zm b] (Zm (mP a b)):=by
 refine Za Zd (Zb Zd Z16 400) ?_;rw[Zw7];delta qDK3 qDK4 qDK5 qDK6 qDK7;refine⟨js,λy j=>⟨(λh=>by cases h),λ_=>⟨by decide,λh=> ?_,λh=> ?_⟩⟩⟩
 ·rw[h,Y1,Y1] at j
  have:=jy ab j;rw[aO,Uu,Uu] at this;cases this
 ·rw[Y1,Y1,Zcx,Zcx] at j
  have I:y.length=64:=by rw[j,aO,Uu,Uu]
  have e:aj (1+4+y.length) (aV 0 (aj (1+4) ([4]++ [((110:Nat):Int),((111:Nat):Int),((100:Nat):Int),((101:Nat):Int)])++y))=eE [[4],[((110:Nat):Int),((111:Nat):Int),((100:Nat):Int),((101:Nat):Int)],n32 a++n32 b]:=by
   rw[<-j,List.drop_zero,aN (by simp;omega)];simp
  refine⟨⟨by decide,by decide,by omega⟩,by simp;omega,by rw[e,<-j];simp;omega,λz t=> ?_⟩;rw[e] at t;rw[t];exact Z9m _
theorem Zqi:SumOk E2 86 Z6v:=Zl Zd (Ze (f:=86) rfl) λx _=>Zxf x.1 x.2.1
theorem Z17:SumOk E2 84 Yag:=Zl Zd (Ze (f:=84) rfl) λ_ _=>Zxe
theorem Z6y:FnsOk E2 Fabv:=Zn Zd (Zc Z7 Zqi) _ _ _
theorem Zxg(L:List (List Int)) (p:List Int) (h:L.length<=65536):PureC E2 85 [.psl dD L ae,Zm p] (.psl dD (Wk mP L p) ae):=by
 refine Za Zd (Zb Zd Z6y 400) ?_;rw[Zw8];delta qDKb qDKa qDK8 qDK9 qDKc;have ep:=Uh (rfl:n32 p=n32 p);have ml:=Zb5 (P:=mP) L p;refine⟨λx=>∃m,x.k=2*m/\m<=(L.length+1)/2/\x.row=(Wk mP L p).take m/\x.r=(L.length+1)/2-m,⟨⟨0,0,[],[],[],(L.length+1)/2⟩,⟨0,rfl,bg _,rfl,rfl⟩,rfl,⟨⟨rfl,λh=>h⟩,rfl,⟨rfl,rfl,js⟩,rfl,js⟩,rfl,ep,js⟩,?_⟩;rintro x ⟨m,J,hm,R,hr⟩;have hl:x.row.length=m:=by rw[R,aW,ml];omega
 have st:∀(u z:List Int),x.k<L.length->L[x.k]? =ah u->z=mP u (mAt L (2*m+1) p)->∃(t:YX),(∃m,t.k=2*m/\m<=(L.length+1)/2/\t.row=(Wk mP L p).take m/\t.r=(L.length+1)/2-m)/\t.6+1<=x.6/\af=af/\((L=L/\(ae=af->ae=af))/\0=0/\(0=0/\ab (YX.row x)+1=ab (YX.row t)/\True)/\wr ac ((x.k:Int)+2)=(t.k:Int)/\True)/\(aj (ab (YX.row x)) (YX.row x)++ [(n32q z)]=YX.row t/\0=0)/\(e32q p p)/\True:=λu z a0 hu hz=>
  ⟨⟨x.k+2,0,x.row++ [n32q z],[],[],(L.length+1)/2-(m+1)⟩,⟨m+1,by dsimp only;omega,by omega,by dsimp only;rw[R];exact Zgp (by rw[<-J];exact hu) hz,rfl⟩,by dsimp only;omega,rfl,⟨⟨rfl,λh=>h⟩,rfl,⟨rfl,by simp,js⟩,wr64 (by omega) (by omega),js⟩,⟨by rw[aM],rfl⟩,ep,js⟩
 have w1:x.k<L.length->wr .i64 ((x.k:Int)+1)=((x.k+1:Nat):Int):=λ_=>wr64 (by omega) (by omega);refine aK (λg=>aK (λj=> ?_) (λj=> ?_)) (λg=> ?_)
 ·have g:=iK g
  have j:=iK j;rw[w1 (by omega)] at j⊢;rw[bB,bB];refine⟨by omega,by omega,λx1 h1=>⟨by omega,by omega,λx2 I=>⟨js,λy U=>⟨⟨aE _,bg _,by omega⟩,st x2 y (by omega) I ?_⟩⟩⟩⟩;rw[U,Y1,Y1,mP_l,mP_r];unfold mAt;rw[<-J,h1];rfl
 ·have g:=iK g
  have j:=iT j;rw[w1 (by omega)] at j;rw[bB];refine⟨by omega,by omega,λx2 I=>⟨js,λy U=>⟨⟨aE _,bg _,by omega⟩,st x2 y (by omega) I ?_⟩⟩⟩;rw[U,Y1,Y1,mP_l,mP_r];unfold mAt;rw[<-J,eH (by omega)];rfl
 ·have g:=iT g
  refine⟨by omega,?_⟩;rw[aM,R,aN (by rw[ml];omega)]
theorem Z18:SumOk E2 85 Yai:=Zl Zd (Ze (f:=85) rfl) λx h=>Zxg x.1 x.2.1 h
theorem Z19:FnsOk E2 Z6w:=Zn Zd (Zc (Zc (Zc Z7 Zqi) Z17) Z18) _ _ _
theorem Zxh(row:List (List Int)) (p:List Int):Wk mP row (n32 p)=Wk mP row p:=by
 unfold Wk;refine List.map_congr_left λk _=> ?_;have e:∀i,n32 (mAt row i (n32 p))=n32 (mAt row i p):=λi=>by
  unfold mAt;cases row[i]? with
  |none=>exact Zcx p
  |some u=>rfl
 rw[<-mP_l,<-mP_r,e,e,mP_l,mP_r]
theorem Zxi(L:List (List Int)) (n:Nat) (U:L.length<=65536) (hn:n<=16):PureC E2 59 [.psl dD L ae,.int ae .i64 (n:Int),.int ae .i64 0] (Zm (Zdw mP mPad L n)):=by
 refine Za Zd (Zb Zd Z19 400) ?_;rw[Zw9];refine⟨js,λy hy=>⟨λx=>x.k<=n/\x.row=mRow mP mPad L x.k/\x.pad=mPd mP mPad x.k/\x.r=n-x.k,⟨⟨0,0,L,mPad,[],n⟩,⟨bg _,rfl,rfl,rfl⟩,rfl,⟨rfl,rfl,rfl,⟨rfl,λh=>h⟩,rfl,rfl,js⟩,by rw[hy];exact Uh rfl,Zg5,js⟩,?_⟩⟩;rintro x ⟨hk,I,J,hr⟩;refine aK (λg=>⟨by rw[I];exact bY (Zmn L x.k) U,λy1 t=>⟨js,λy2 R=> ?_⟩⟩) (λg=>aK (λj=> ?_) (λj=> ?_))
 ·have g:=iK g
  rw[Y1,Zxh,I,J] at t;rw[Y1,mP_l,mP_r,J] at R;exact⟨⟨x.k+1,0,y1,y2,[],n-(x.k+1)⟩,⟨by dsimp only;omega,t,R,rfl⟩,by dsimp only;omega,rfl,⟨rfl,rfl,rfl,⟨rfl,λh=>h⟩,rfl,wr64 (by omega) (by omega),js⟩,Uh rfl,Zg5,js⟩
 ·have g:=iT g
  have j:=iK j;refine⟨by omega,by omega,λx1 t=>Uh ?_⟩;have e:x.k=n:=by omega
  rw[I,e] at t;unfold Zdw mAt;rw[show(mRow mP mPad L n)[0]? =ah x1 from t];rfl
 ·have g:=iT g
  have j:=iT j;have e:x.k=n:=by omega
  refine Uh ?_;rw[I,e] at j;unfold Zdw mAt;rw[eH (by omega),J,e];rfl
noncomputable def Yaj:Sum thy:=Yh E2 gthV 10 (.cons Zr9 (.cons dI2 (.cons dI2 .nil))) (λx=>x.1.length<=65536/\0<=x.2.1/\x.2.1<=16/\x.2.2.1=0) (λx=>Zdw mP mPad x.1 x.2.1.toNat) Zm
theorem Z2a:SumOk E2 59 Yaj:=Zl Zd (Ze (f:=59) rfl) λx h=>by
 obtain⟨L,a,b,_⟩:=x;obtain⟨j,t,J,I⟩:=h;dsimp only at j t J I;obtain⟨n,rfl⟩:=de t;subst I;exact Zxi L n j (by omega)
end
section
open Go
noncomputable def Ya3:Sum thy:=Ub (.cons dSt2 (.cons (dInt (E:=E2) .i64) .nil)) (λx=>x.1.stack.length<=1000000) (λx=>Zcq x.1 x.2.1) opnV
theorem Z28:SumOk E2 29 Ya3:=Yn Zd (Ze (f:=29) rfl) λx h=>Zs1 x.1 x.2.1 h
end
section
open Go Go.RowKit
noncomputable def Z95:Sum thy:=Yh E2 gthV 10 (.cons (Zbv E2) .nil) (λ_=>True) (λx=>verF x.1) λy=> .tup [.int ae .i64 y.1,.int ae .i64 y.2]
theorem Z1r:SumOk E2 24 Z95:=Zl Zd (Ze (f:=24) rfl) λx _=>up2 (Zme x.1)
noncomputable def Z96:Sum thy:=Yh E2 gthV 10 (.cons (Zbv E2) (.cons Zku (.cons dI2 .nil))) (λx=>(verF x.1).2=0/\0<=x.2.2.1/\x.2.2.1<=32768) (λx=>stsF x.1 x.2.1 (x.2.2.1.toNat+1) (eR x.2.2.1)) λy=> .psl Th.sts y ae
theorem Z1s:SumOk E2 50 Z96:=Zl Zd (Ze (f:=50) rfl) λx h=>up2 (Zmg x.1 x.2.1 x.2.2.1 h.1 h.2.1 h.2.2)
noncomputable def Z97:Sum thy:=Yh E2 gthV 10 (.cons dSt2 .nil) (λx=>x.1.stack.length<=1000000) (λx=>Zw x.1) λy=> .tup [.int ae .i64 y.1,.int ae .i64 y.2.1,.int ae .i64 y.2.2]
theorem Z1t:SumOk E2 26 Z97:=Zl Zd (Ze (f:=26) rfl) λx h=>up2 (Zlj x.1 h)
noncomputable def FrsZ:Fns thy:=addS (addS F0 24 Z95) 50 Z96
theorem Zv5:FnsOk E2 FrsZ:=Zc (Zc Z7 Z1r) Z1s
theorem Zv6(d:Drv) (i:Int) (s:St) (e:Int):Zk E2 FrsZ (vc E2 FrsZ 400) 11 [drvV d,.int ae .i64 i] hp0 0 (λr=>ret E2 (patch hp0 0 r) r.v (.tup [stV s,.int ae .i64 e]))=(
True/\∀(y:Int×Int),y=verF (dr d)->((aJ y !=0)=af->(0=be s/\0=aQ s/\0=av s/\0=aw s/\aF s= []/\True)/\aJ y=e/\True)/\((aJ y !=0)=ae->(aJ (verF (dr d))=0/\0<=wr ac ((↑(ab (dr d)):Int)+1)/\wr ac ((↑(ab (dr d)):Int)+1)<=32768)/\∀(y:List St),y=stsF (dr d) (cT d) (ag (wr ac ((↑(ab (dr d)):Int)+1))+1) (eR (wr ac ((↑(ab (dr d)):Int)+1)))->∃(Q:Bool->Prop),((decide (i<0)=af->Q af)/\(decide (i<0)=ae->(decide (i>=(↑(ab y):Int))=af->Q af)/\(decide (i>=(↑(ab y):Int))=ae->Q ae)))/\(Q af->(0=be s/\0=aQ s/\0=av s/\0=aw s/\aF s= []/\True)/\1=e/\True)/\(Q ae->0<=i/\i+1<=(↑(ab y):Int)/\∀(x:St),y[ag i]? =ah x->(be x=be s/\aQ x=aQ s/\av x=av s/\aw x=aw s/\(aF x=aF s/\(ae=af->ae=af))/\True)/\0=e/\True))):=by kernel_rfl
def s12(T:Fr thy) (h:Hp thy):SV thy:=match T 12 with| .ptr b _=>(match h b with|some (.raw cs _ _)=>cs.getD 20 .unk|_=> .unk)|_=> .unk
def b12(T:Fr thy) (h:Hp thy) (S:SV thy):List (Nat×Blk thy):=match T 12 with| .ptr b _=>(match h b with|some (.raw cs z t)=> [(b,.raw (cs.take 20++ [S]) z t)]|_=> [])|_=> []
def i12(T:Fr thy) (h:Hp thy):List Nat:=match s12 T h with| .sl b _ _ _ _=> [b]|_=> []
noncomputable def ArnZ:Fr thy->Hp thy->Nat->Ann thy:=λT h i=>{X:=Bool×YX,fr:=λx=> [(4,T 4),(8,T 8),(12,T 12),(13,T 13),(14,T 14),(15,.int ae .i64 x.2.k)],bl:=λx=>(match x.1 with|true=>(i,.rows dD x.2.row 0)::b12 T h (.sl i 0 x.2.row.length 32 aD)|false=>b12 T h (s12 T h)++blkS h (s12 T h))++(blkP h (T 4)++(blkP h (T 13)++blkP h (T 14))),src:=λx=>(match x.1 with|true=> [(i,21012)]|false=> []),md:=bOf (T 12)::i12 T h,ih:=i+1,M:=i+60,meas:=λx=>x.2.r,ex:=ex2,al:=al2,exOk:=Z4i,alOk:=Z4j}
noncomputable def FrnZ:Fns thy:=addL (addS (addS (addS (addS (addS FrsZ 26 Z97) 27 Z68) 28 Z69) 29 Ya3) 30 Z7a) 7 10 ArnZ E2
theorem Z6c:FnsOk E2 FrnZ:=Zn Zd (Zc (Zc (Zc (Zc (Zc Zv5 Z1t) Zql) Zqm) Z28) Zqn) _ _ _
abbrev qDM4:=(0:Int)
abbrev qDM5:=(0:Nat)
abbrev qDM1:=(bI aD qDM5 qDM5=bI aD qDM5 qDM5/\qDM4=qDM4/\qDM4=qDM4/\qDM4=qDM4/\qDM4=qDM4/\qDM4=qDM4/\qDM4=qDM4/\qDM4=qDM4/\qDM4=qDM4/\qDM4=qDM4/\qDM4=qDM4/\qDM4=qDM4/\qDM4=qDM4/\qDM4=qDM4/\qDM4=qDM4/\qDM4=qDM4/\qDM4=qDM4/\qDM4=qDM4/\qDM4=qDM4/\qDM4=qDM4/\bI aD qDM5 qDM5=bI aD qDM5 qDM5/\True)
abbrev qDM6:=(ae=af->ae=af)
abbrev qDM8(j:YX):=(↑(YX.k j):Int)
abbrev qDMd:=(1:Int)
abbrev qDM3(j:List St) (t:YX) (I:YX):=(qDM5=qDM5/\(j=j/\qDM6)/\qDM5=qDM5/\qDM5=qDM5/\qDM5=qDM5/\wr ac ((qDM8 t)+qDMd)=(qDM8 I)/\True)
abbrev qDM2(a0:Bool×YX->Prop) (I:YX) (c0:List St) (J:List Ins) (j:Env) (f0:Int×Int×Int) (R:List Int) (U:List Int):=(∃(t:YX),a0 (ae,t)/\t.6+(1:Nat)<=I.6/\af=af/\(qDM3 c0 I t)/\((J=J/\qDM6)/\bC j=bC j/\bM j=bM j/\bN j=bN j/\bO j=bO j/\bP j=bP j/\bQ j=bQ j/\bR j=bR j/\bK j=bK j/\bS j=bS j/\bT j=bT j/\bL j=bL j/\bp j=bp j/\bj j=bj j/\bq j=bq j/\bk j=bk j/\br j=br j/\bm j=bm j/\ay f0=ay f0/\aJ (aJ f0)=aJ (aJ f0)/\False/\True)/\qDM1/\(e32q R R)/\(e32q U U)/\True)
abbrev qDM7(j:List St):=(↑(ab j):Int)
abbrev qDM9(j:Drv):=(cT j)
abbrev qDMa(j:Opn):=(Opn.mk (jK j) (iE j) (gn j) (gp j) (fe j) (gR j) (n32q (cP j)))
abbrev qDMb(j:List Ins):=((↑(ab j):Int)+qDMd)
abbrev qDMc:=(1000000:Nat)
theorem Zv7(c:List Ins) (v:Env) (z:Drv) (e:Int):Zk E2 FrnZ (vc E2 FrnZ 400) 7 [.psl .ins c ae,envV v] hp0 0 (λr=>ret E2 (patch hp0 0 r) r.v (.tup [drvV z,.int ae .i64 e]))=(
 True/\∀(y:Int×Int),y=verF c->((aJ y !=qDM4)=af->(dr z= []/\qDM4=bC (qDM9 z)/\qDM4=bM (qDM9 z)/\qDM4=bN (qDM9 z)/\qDM4=bO (qDM9 z)/\qDM4=bP (qDM9 z)/\qDM4=bQ (qDM9 z)/\qDM4=bR (qDM9 z)/\qDM4=bK (qDM9 z)/\qDM4=bS (qDM9 z)/\qDM4=bT (qDM9 z)/\qDM4=bL (qDM9 z)/\qDM4=bp (qDM9 z)/\qDM4=bj (qDM9 z)/\qDM4=bq (qDM9 z)/\qDM4=bk (qDM9 z)/\qDM4=br (qDM9 z)/\qDM4=bm (qDM9 z)/\qDM4=dp z/\qDM4=ez z/\cz z= []/\True)/\aJ y=e/\True)/\((aJ y !=qDM4)=ae->(aJ (verF c)=qDM4/\qDM4<=wr ac (qDMb c)/\wr ac (qDMb c)<=32768)/\∀(y:List St),y=stsF c v (ag (wr ac (qDMb c))+1) (eR (wr ac (qDMb c)))->qDM4<=wr ac ((qDM7 y)-qDMd)/\wr ac ((qDM7 y)-qDMd)+qDMd<=(qDM7 y)/\∀(x:St),y[ag (wr ac ((qDM7 y)-qDMd))]? =ah x->ab (aF x)<=qDMc/\∀(t:Int×Int×Int),t=Zw x->ab c<=qDMc/\∀(I:List Int),I=Zdx c->True/\∀(J:List Int),J=Vh v->∃(R:Bool×YX->Prop),((∃(j:YX),R (ae,j)/\af=af/\(qDM5=qDM5/\(y=y/\qDM6)/\qDM5=qDM5/\qDM5=qDM5/\qDM5=qDM5/\qDM4=(qDM8 j)/\True)/\((c=c/\qDM6)/\bC v=bC v/\bM v=bM v/\bN v=bN v/\bO v=bO v/\bP v=bP v/\bQ v=bQ v/\bR v=bR v/\bK v=bK v/\bS v=bS v/\bT v=bT v/\bL v=bL v/\bp v=bp v/\bj v=bj v/\bq v=bq v/\bk v=bk v/\br v=br v/\bm v=bm v/\ay t=ay t/\aJ (aJ t)=aJ (aJ t)/\bI aD qDM5 qDM5=bI aD qDM5 qDM5/\True)/\qDM1/\(e32q I I)/\(e32q J J)/\True)\/∃(y:YX),R (af,y)/\af=af/\False)/\(∀(j:YX),R (ae,j)->(decide ((qDM8 j)<(qDM7 y))=af->qDM4<=(qDM8 j)/\(qDM8 j)+qDMd<=(qDM7 y)/\∀(x:St),y[ag (qDM8 j)]? =ah x->qDM4<=(qDM8 j)/\(qDM8 j)+qDMd<=(qDM7 y)/\∀(a1:St),y[ag (qDM8 j)]? =ah a1->ab (aF x)<=qDMc/\∀(a0:Opn),a0=Zcq x (↑(ab (aF a1)):Int)->ab (fe a0)<=qDMc/\∀(a2:List Int),a2=Zk2 (n32q I) (n32q J) (qDMa a0)->(qDM2 R j y c v t I J)\/∃(U:YX),R (af,U)/\U.6+1<=j.6/\af=af/\(qDM3 y j U)/\([(n32q a2)]=YX.row U/\qDM5=qDM5)/\((c=c/\qDM6)/\bC v=bC v/\bM v=bM v/\bN v=bN v/\bO v=bO v/\bP v=bP v/\bQ v=bQ v/\bR v=bR v/\bK v=bK v/\bS v=bS v/\bT v=bT v/\bL v=bL v/\bp v=bp v/\bj v=bj v/\bq v=bq v/\bk v=bk v/\br v=br v/\bm v=bm v/\ay t=ay t/\aJ (aJ t)=aJ (aJ t)/\(qDM5=qDM5/\1=ab (YX.row U)/\True)/\True)/\qDM1/\(e32q I I)/\(e32q J J)/\True)/\(decide ((qDM8 j)<(qDM7 y))=ae->((c=dr z/\qDM6)/\bC v=bC (qDM9 z)/\bM v=bM (qDM9 z)/\bN v=bN (qDM9 z)/\bO v=bO (qDM9 z)/\bP v=bP (qDM9 z)/\bQ v=bQ (qDM9 z)/\bR v=bR (qDM9 z)/\bK v=bK (qDM9 z)/\bS v=bS (qDM9 z)/\bT v=bT (qDM9 z)/\bL v=bL (qDM9 z)/\bp v=bp (qDM9 z)/\bj v=bj (qDM9 z)/\bq v=bq (qDM9 z)/\bk v=bk (qDM9 z)/\br v=br (qDM9 z)/\bm v=bm (qDM9 z)/\ay t=dp z/\aJ (aJ t)=ez z/\cz z= []/\True)/\qDM4=e/\True))/\∀
(j:YX),R (af,j)->(decide ((qDM8 j)<(qDM7 y))=af->qDM4<=(qDM8 j)/\(qDM8 j)+qDMd<=(qDM7 y)/\∀(x:St),y[ag (qDM8 j)]? =ah x->qDM4<=(qDM8 j)/\(qDM8 j)+qDMd<=(qDM7 y)/\∀(a1:St),y[ag (qDM8 j)]? =ah a1->ab (aF x)<=qDMc/\∀(a0:Opn),a0=Zcq x (↑(ab (aF a1)):Int)->ab (fe a0)<=qDMc/\∀(a2:List Int),a2=Zk2 (n32q I) (n32q J) (qDMa a0)->(ab (YX.row j)<=ab (YX.row j)/\qDM5<=ab (YX.row j)/\(ab (YX.row j)+1)*32<=140737488355328)/\((qDM2 R j y c v t I J)\/∃(U:YX),R (af,U)/\U.6+1<=j.6/\af=af/\(qDM3 y j U)/\(aj (ab (YX.row j)) (YX.row j)++ [(n32q a2)]=YX.row U/\qDM5=qDM5)/\((c=c/\qDM6)/\bC v=bC v/\bM v=bM v/\bN v=bN v/\bO v=bO v/\bP v=bP v/\bQ v=bQ v/\bR v=bR v/\bK v=bK v/\bS v=bS v/\bT v=bT v/\bL v=bL v/\bp v=bp v/\bj v=bj v/\bq v=bq v/\bk v=bk v/\br v=br v/\bm v=bm v/\ay t=ay t/\aJ (aJ t)=aJ (aJ t)/\(qDM5=qDM5/\ab (YX.row j)+1=ab (YX.row U)/\True)/\True)/\qDM1/\(e32q I I)/\(e32q J J)/\True))/\(decide ((qDM8 j)<(qDM7 y))=ae->((c=dr z/\qDM6)/\bC v=bC (qDM9 z)/\bM v=bM (qDM9 z)/\bN v=bN (qDM9 z)/\bO v=bO (qDM9 z)/\bP v=bP (qDM9 z)/\bQ v=bQ (qDM9 z)/\bR v=bR (qDM9 z)/\bK v=bK (qDM9 z)/\bS v=bS (qDM9 z)/\bT v=bT (qDM9 z)/\bL v=bL (qDM9 z)/\bp v=bp (qDM9 z)/\bj v=bj (qDM9 z)/\bq v=bq (qDM9 z)/\bk v=bk (qDM9 z)/\br v=br (qDM9 z)/\bm v=bm (qDM9 z)/\ay t=dp z/\aJ (aJ t)=ez z/\(qDM5+ab (YX.row j)<=ab (YX.row j)/\aj (ab (YX.row j)) (YX.row j)=cz z)/\True)/\qDM4=e/\True))):=by kernel_rfl
noncomputable def Z6d:Sum thy:=Yh E2 gthV 10 (.cons (Zbv E2) (.cons Zku .nil)) (λ_=>True) (λx=>drF x.1 x.2.1) λy=> .tup [drvV y.1,.int ae .i64 y.2]
def AckZ:Fr thy->Hp thy->Nat->Ann thy:=λT h i=>{X:=YX,fr:=λx=> [(1,T 1),(4,T 4),(6,.int ae .i64 x.k)],bl:=λx=>blkP h (T 1)++blkP h (T 4),src:=λ_=> [],md:= [],ih:=i,M:=i+60,meas:=λx=>x.r}
noncomputable def FckZ:Fns thy:=addL (addS F0 7 Z6d) 13 9 AckZ E2
abbrev qDMg(j:Drv×Int):=(cT (ay j))
abbrev qDMm:=(ae=af->ae=af)
abbrev qDMe(j:Drv×Int):=((dr (ay j)=dr (ay j)/\qDMm)/\bC (qDMg j)=bC (qDMg j)/\bM (qDMg j)=bM (qDMg j)/\bN (qDMg j)=bN (qDMg j)/\bO (qDMg j)=bO (qDMg j)/\bP (qDMg j)=bP (qDMg j)/\bQ (qDMg j)=bQ (qDMg j)/\bR (qDMg j)=bR (qDMg j)/\bK (qDMg j)=bK (qDMg j)/\bS (qDMg j)=bS (qDMg j)/\bT (qDMg j)=bT (qDMg j)/\bL (qDMg j)=bL (qDMg j)/\bp (qDMg j)=bp (qDMg j)/\bj (qDMg j)=bj (qDMg j)/\bq (qDMg j)=bq (qDMg j)/\bk (qDMg j)=bk (qDMg j)/\br (qDMg j)=br (qDMg j)/\bm (qDMg j)=bm (qDMg j)/\dp (ay j)=dp (ay j)/\ez (ay j)=ez (ay j)/\(cz (ay j)=cz (ay j)/\qDMm)/\True)
abbrev qDMk(j:Drv):=(cT j)
abbrev qDMf(j:Drv):=((dr j=dr j/\qDMm)/\bC (qDMk j)=bC (qDMk j)/\bM (qDMk j)=bM (qDMk j)/\bN (qDMk j)=bN (qDMk j)/\bO (qDMk j)=bO (qDMk j)/\bP (qDMk j)=bP (qDMk j)/\bQ (qDMk j)=bQ (qDMk j)/\bR (qDMk j)=bR (qDMk j)/\bK (qDMk j)=bK (qDMk j)/\bS (qDMk j)=bS (qDMk j)/\bT (qDMk j)=bT (qDMk j)/\bL (qDMk j)=bL (qDMk j)/\bp (qDMk j)=bp (qDMk j)/\bj (qDMk j)=bj (qDMk j)/\bq (qDMk j)=bq (qDMk j)/\bk (qDMk j)=bk (qDMk j)/\br (qDMk j)=br (qDMk j)/\bm (qDMk j)=bm (qDMk j)/\dp j=dp j/\ez j=ez j/\(cz j=cz j/\qDMm)/\True)
abbrev qDMh(j:Drv×Int):=(↑(ab (cz (ay j))):Int)
abbrev qDMi(j:Drv):=(↑(ab (cz j)):Int)
abbrev qDMj(j:YX):=(↑(YX.k j):Int)
abbrev qDMl:=(0:Int)
theorem Zv8(d:Drv) (n e:Int):Zk E2 FckZ (vc E2 FckZ 400) 13 [drvV d] hp0 0 (λr=>ret E2 (patch hp0 0 r) r.v (.tup [.int ae .i64 n,.int ae .i64 e]))=(
 (((↑(ab (dr d)):Int)==qDMl)=af->∃(Q:Bool->Prop),((((qDMi d)==qDMl)=af->((dp d==qDMl)=af->((ez d==220)=af->Q af)/\((ez d==220)=ae->Q ae))/\((dp d==qDMl)=ae->Q ae))/\(((qDMi d)==qDMl)=ae->Q ae))/\(Q af->qDMl=n/\qDMl=e/\True)/\(Q ae->qDMl=n/\300=e/\True))/\(((↑(ab (dr d)):Int)==qDMl)=ae->True/\∀(y:Drv×Int),y=drF (dr d) (qDMk d)->((aJ y !=qDMl)=af->qDMl=n/\aJ y=e/\True)/\((aJ y !=qDMl)=ae->∃(R:YX->Prop),(∃(x:YX),R x/\af=af/\(0=0/\0=0/\qDMl=(qDMj x)/\True)/\(qDMf d)/\(qDMe y)/\True)/\∀(x:YX),R x->(decide ((qDMj x)<mm2 af (qDMh y) (qDMi d))=af->(decide ((qDMj x)>=(qDMh y))=af->(qDMj x)=n/\300=e/\True)/\(decide ((qDMj x)>=(qDMh y))=ae->(decide ((qDMj x)>=(qDMi d))=af->(qDMj x)=n/\300=e/\True)/\(decide ((qDMj x)>=(qDMi d))=ae->qDMl<=(qDMj x)/\(qDMj x)+1<=(qDMh y)/\∀(t:List Int),(cz (ay y))[ag (qDMj x)]? =ah t->qDMl<=(qDMj x)/\(qDMj x)+1<=(qDMi d)/\∀(I:List Int),(cz d)[ag (qDMj x)]? =ah I->∀(v:Bool),v= !b32q t I->(v=af->(qDMj x)=n/\300=e/\True)/\(v=ae->∃(j:YX),R j/\j.6+1<=x.6/\af=af/\(0=0/\0=0/\wr ac ((qDMj x)+1)=(qDMj j)/\True)/\(qDMf d)/\(qDMe y)/\True))))/\(decide ((qDMj x)<mm2 af (qDMh y) (qDMi d))=ae->∃(Q:Bool->Prop),(((dp (ay y) !=dp d)=af->Q af)/\((dp (ay y) !=dp d)=ae->((ez (ay y) !=ez d)=af->Q af)/\((ez (ay y) !=ez d)=ae->Q ae)))/\(Q af->wr ac ((qDMh y)-1)=n/\300=e/\True)/\(Q ae->qDMl=n/\qDMl=e/\True))))):=by kernel_rfl
def AscZ:Fr thy->Hp thy->Nat->Ann thy:=λT h i=>{X:=YX,fr:=λx=> [(0,T 0),(1,T 1),(5,.int ae .i64 x.k)],bl:=λ_=> [],src:=λ_=> [],md:= [],ih:=i,M:=i+30,meas:=λx=>x.r}
noncomputable def FscZ:Fns thy:=addL (addL F0 33 4 AscZ E2) 34 4 AscZ E2
theorem Zv9:FnsOk E2 FscZ:=Zn Zd (Zn Zd Z7 _ _ _) _ _ _
theorem Zwa(a b:List Ins) (v:Bool):Zk E2 FscZ (vc E2 FscZ 400) 33 [.psl .ins a ae,.psl .ins b ae] hp0 0 (λr=>ret E2 (patch hp0 0 r) r.v (.bool ae v))=(
(((↑(ab a):Int) !=(↑(ab b):Int))=af->ae=v)/\(((↑(ab a):Int) !=(↑(ab b):Int))=ae->∃(R:YX->Prop),(∃(x:YX),R x/\af=af/\((a=a/\(ae=af->ae=af))/\(b=b/\(ae=af->ae=af))/\0=(↑(YX.k x):Int)/\True)/\True)/\∀(x:YX),R x->(decide ((↑(YX.k x):Int)<(↑(ab a):Int))=af->0<=(↑(YX.k x):Int)/\(↑(YX.k x):Int)+1<=(↑(ab a):Int)/\∀(j:Ins),a[ag (↑(YX.k x):Int)]? =ah j->0<=(↑(YX.k x):Int)/\(↑(YX.k x):Int)+1<=(↑(ab b):Int)/\∀(t:Ins),b[ag (↑(YX.k x):Int)]? =ah t->((!(Ins.op j==Ins.op t&&(Ins.n j==Ins.n t&&(Ins.m j==Ins.m t&&af))))=af->ae=v)/\((!(Ins.op j==Ins.op t&&(Ins.n j==Ins.n t&&(Ins.m j==Ins.m t&&af))))=ae->∃(I:YX),R I/\I.6+1<=x.6/\af=af/\((a=a/\(ae=af->ae=af))/\(b=b/\(ae=af->ae=af))/\wr ac ((↑(YX.k x):Int)+1)=(↑(YX.k I):Int)/\True)/\True))/\(decide ((↑(YX.k x):Int)<(↑(ab a):Int))=ae->af=v))):=by kernel_rfl
theorem Zwb(a b:List (List Int)) (v:Bool):Zk E2 FscZ (vc E2 FscZ 400) 34 [.psl dD a ae,.psl dD b ae] hp0 0 (λr=>ret E2 (patch hp0 0 r) r.v (.bool ae v))=(
(((↑(ab a):Int) !=(↑(ab b):Int))=af->ae=v)/\(((↑(ab a):Int) !=(↑(ab b):Int))=ae->∃(R:YX->Prop),(∃(x:YX),R x/\af=af/\((a=a/\(ae=af->ae=af))/\(b=b/\(ae=af->ae=af))/\0=(↑(YX.k x):Int)/\True)/\True)/\∀(x:YX),R x->(decide ((↑(YX.k x):Int)<(↑(ab a):Int))=af->0<=(↑(YX.k x):Int)/\(↑(YX.k x):Int)+1<=(↑(ab a):Int)/\∀(I:List Int),a[ag (↑(YX.k x):Int)]? =ah I->0<=(↑(YX.k x):Int)/\(↑(YX.k x):Int)+1<=(↑(ab b):Int)/\∀(J:List Int),b[ag (↑(YX.k x):Int)]? =ah J->∀(j:Bool),j= !b32q I J->(j=af->ae=v)/\(j=ae->∃(t:YX),R t/\t.6+1<=x.6/\af=af/\((a=a/\(ae=af->ae=af))/\(b=b/\(ae=af->ae=af))/\wr ac ((↑(YX.k x):Int)+1)=(↑(YX.k t):Int)/\True)/\True))/\(decide ((↑(YX.k x):Int)<(↑(ab a):Int))=ae->af=v))):=by kernel_rfl
noncomputable def FroZ:Fns thy:=addS (addS F0 60 Yah) 59 Yaj
theorem Z6e:FnsOk E2 FroZ:=Zc (Zc Z7 Z15) Z2a
theorem Zwc(d:Drv) (z:Int×List Int) (e:Int):Zk E2 FroZ (vc E2 FroZ 400) 9 [drvV d] hp0 0 (λr=>ret E2 (patch hp0 0 r) r.v (.tup [comV z,.int ae .i64 e]))=(
(decide ((↑(ab (cz d)):Int)>65536)=af->(0=ay z/\z32q (aJ z))/\2=e/\True)/\(decide ((↑(ab (cz d)):Int)>65536)=ae->(0<=(↑(ab (cz d)):Int)/\(↑(ab (cz d)):Int)<=65536)/\∀(y:Nat),y=depM (ag (↑(ab (cz d)):Int))->(ab (cz d)<=65536/\0<=(↑y:Int)/\(↑y:Int)<=16/\(0:Int)=0)/\∀(j:List Int),j=Zdw mP mPad (cz d) (ag (↑y:Int))->((↑(ab (cz d)):Int)=ay z/\e32q j (aJ z))/\0=e/\True)):=by kernel_rfl
theorem Zm8(d:Drv) (i:Int):PureC E2 11 [drvV d,.int ae .i64 i] (.tup [stV (Yz d i).1,.int ae .i64 (Yz d i).2]):=by
 refine Za Zd (Zb Zd Zv5 400) ?_;rw[Zv6];simp only[true_and,and_true,jC,gM,fX,ne_eq,fw,fk,jI];intro y t;subst t;refine⟨λj=> ?_,λj=> ?_⟩
 ·unfold Yz;rw[jb j];exact⟨⟨rfl,rfl,rfl,rfl,rfl⟩,rfl⟩
 ·obtain⟨D,U⟩:=Wf j
  have h4:=U.short;rw[wr64 (n:=(d.code.length:Int)+1) (by omega) (by omega)];refine⟨⟨j,by omega,by omega⟩,λy t=> ?_⟩;rw[Zxs j] at t;have hl:y.length=dM d.code d.env+1:=by rw[t,Zqo]
  refine⟨λb=>b=af↔¬(0<=i/\i<=dM d.code d.env),⟨λh=>⟨λ_ q=>by omega,λ_=>rfl⟩,λh=>⟨λR=>⟨λ_ q=>by omega,λ_=>rfl⟩,λR=>⟨(λe=>by cases e),λq=>jv (show 0<=i/\i<=dM d.code d.env by omega) q⟩⟩⟩,λI=> ?_,λI=> ?_⟩
  ·unfold Yz;rw[jh j,jb (I.1 rfl)];exact⟨⟨rfl,rfl,rfl,rfl,rfl⟩,rfl⟩
  ·have q:0<=i/\i<=dM d.code d.env:=bV.1 λx=>by have:=I.2 x;cases this
   refine⟨q.1,by omega,λx J=> ?_⟩;rw[t] at J;unfold Yz;rw[jh j,jh q,(Zil J).1];exact⟨⟨rfl,rfl,rfl,rfl,rfl⟩,rfl⟩
theorem Z1u(s:St) (n:Int):(Zcq s n).top.length<=s.stack.length:=by
 show(s.stack.drop _).length<=_;rw[List.length_drop];omega
theorem Z6f{c:List Ins} {v:Env} {k:Nat} (h: []=lvL c v k):k=0:=by
 have:=jy ab h;rw[Zbp] at this;exact this.symm
theorem Zm9(c:List Ins) (v:Env):PureC E2 7 [.psl .ins c ae,envV v] (.tup [drvV (drF c v).1,.int ae .i64 (drF c v).2]):=by
 refine Za Zd (Zb Zd Z6c 400) ?_;rw[Zv7];delta qDM4 qDM5 qDM1 qDM6 qDM8 qDMd qDM3 qDM2 qDM7 qDM9 qDMa qDMb qDMc;simp only[true_and,and_true,jC,gM,fX,ne_eq,fw,fk,false_and,and_false,exists_false,or_false,false_or,Yan,bB,aM,bX,aE,bg];intro y hy;subst hy;refine⟨λU=> ?_,λU=> ?_⟩
 ·unfold drF;rw[jb U];exact⟨⟨rfl,rfl,rfl,rfl,rfl,rfl,rfl,rfl,rfl,rfl,rfl,rfl,rfl,rfl,rfl,rfl,rfl,rfl,rfl,rfl,rfl⟩,rfl⟩
 ·obtain⟨D,hD⟩:=Wf U
  have h4:=hD.short;have e:drF c v=(⟨c,v,(Zw (dsk c v (dM c v))).1,(Zw (dsk c v (dM c v))).2.2,lvL c v (dM c v+1)⟩,0):=jh U;rw[e];obtain⟨d1,d2,d3,_⟩:=Zct (v:=v) U;rw[wr64 (n:=(c.length:Int)+1) (by omega) (by omega)];refine⟨⟨U,by omega,by omega⟩,λy hy=> ?_⟩;rw[Zxs U] at hy;have hl:y.length=dM c v+1:=by rw[hy,Zqo]
  have w1:wr .i64 ((y.length:Int)-1)=(dM c v:Int):=(wr64 (by omega) (by omega)).trans (by omega);rw[w1,bB];refine⟨by omega,by omega,λx t=> ?_⟩;rw[hy] at t;obtain⟨rfl,_⟩:=Zil t;refine⟨by have:=d3 _ (aE (dM c v));omega,λr hr=>⟨by omega,λp hp q hq=> ?_⟩⟩;have er:=Uh (rfl:n32 p=n32 p);have eq:=Uh (rfl:n32 q=n32 q)
  have st:∀(b:Bool) (z:YX),(z.k<=dM c v+1/\z.r=dM c v+1-z.k/\(if b=af then z.row else[])=lvL c v z.k)->(z.k:Int)<y.length->0<=(z.k:Int)/\(z.k:Int)+1<=y.length/\∀x:St,y[z.k]? =ah x->0<=(z.k:Int)/\(z.k:Int)+1<=y.length/\∀x1:St,y[z.k]? =ah x1->x.stack.length<=1000000/\∀I:Opn,I=Zcq x (x1.stack.length:Int)->I.top.length<=1000000/\∀J:List Int,J=Zk2 p q I->(if b=af then z.row else[])++ [n32q J]=lvL c v (z.k+1):=λb z j hk=>by
   refine⟨by omega,by omega,λx t=>⟨by omega,by omega,λx1 a0=> ?_⟩⟩;rw[t] at a0;cases a0;rw[hy] at t;obtain⟨rfl,hm⟩:=Zil t;have:=d3 _ hm;refine⟨by omega,λI R=>⟨by rw[R];have:=Z1u (dsk c v z.k) ((dsk c v z.k).stack.length:Int);omega,λJ h6=> ?_⟩⟩;rw[j.2.2,Zcr,Y1,h6,R,hp,hq];rfl
  refine⟨λb=>b.2.k<=dM c v+1/\b.2.r=dM c v+1-b.2.k/\(if b.1=af then b.2.row else[])=lvL c v b.2.k,⟨⟨0,0,[],[],[],dM c v+1⟩,⟨bg _,rfl,rfl⟩,rfl,er,eq⟩,λz j=>aK (λg=> ?_) (λg=> ?_),λz j=>aK (λg=> ?_) (λg=> ?_)⟩
  ·obtain⟨s1,s2,s3⟩:=st ae z j g
   refine⟨s1,s2,λx t=> ?_⟩;obtain⟨s4,s5,s6⟩:=s3 x t;refine⟨s4,s5,λx1 a0=> ?_⟩;obtain⟨s7,s8⟩:=s6 x1 a0;refine⟨s7,λI R=>⟨(s8 I R).1,λJ h6=>⟨⟨z.k+1,0,[n32q J],[],[],dM c v+1-(z.k+1)⟩,⟨by dsimp only;omega,rfl,(s8 I R).2 J h6⟩,?_,wr64 (by omega) (by omega),rfl,rfl,er,eq⟩⟩⟩;have:=j.2.1;dsimp only at this⊢;omega
  ·have:=Z6f j.2.2
   dsimp only at this;omega
  ·obtain⟨s1,s2,s3⟩:=st af z j g
   refine⟨s1,s2,λx t=> ?_⟩;obtain⟨s4,s5,s6⟩:=s3 x t;refine⟨s4,s5,λx1 a0=> ?_⟩;obtain⟨s7,s8⟩:=s6 x1 a0;have a1:z.row.length=z.k:=by rw[show z.row=lvL c v z.k from j.2.2,Zbp]
   refine⟨s7,λI R=>⟨(s8 I R).1,λJ h6=>⟨by omega,⟨z.k+1,0,z.row++ [n32q J],[],[],dM c v+1-(z.k+1)⟩,⟨by dsimp only;omega,rfl,(s8 I R).2 J h6⟩,?_,wr64 (by omega) (by omega),rfl,by rw[aO];rfl,er,eq⟩⟩⟩;have:=j.2.1;dsimp only at this⊢;omega
  ·have h1:z.k<=dM c v+1:=j.1
   have e:z.k=dM c v+1:=by omega
   have h2:z.row=lvL c v z.k:=j.2.2;rw[e] at h2;rw[hr];exact⟨⟨rfl,rfl,rfl,rfl,rfl,rfl,rfl,rfl,rfl,rfl,rfl,rfl,rfl,rfl,rfl,rfl,rfl,rfl,rfl,rfl,h2⟩,rfl⟩
theorem Zpz:SumOk E2 7 Z6d:=Zl Zd (Ze (f:=7) rfl) λx _=>Zm9 x.1 x.2.1
theorem Z6g:FnsOk E2 FckZ:=Zn Zd (Zc Z7 Zpz) _ _ _
theorem Zh7(d:Drv):PureC E2 13 [drvV d] (.tup [.int ae .i64 (Z5 d).1,.int ae .i64 (Z5 d).2]):=by
 refine Za Zd (Zb Zd Z6g 400) ?_;rw[Zv8];delta qDMg qDMm qDMe qDMk qDMf qDMh qDMi qDMj qDMl;simp only[true_and,and_true,jC,gM,fX,gF,fV,ne_eq,fw,fk,bB,Zux];refine⟨λh0=> ?_,λh0=> ?_⟩
 ·have a0:d.code= []:=List.length_eq_zero_iff.1 (by omega)
  refine⟨λb=>b=af↔(d.leaves.length=0/\d.amount=0/\d.err=220),?_,λU=> ?_,λU=> ?_⟩
  ·refine⟨λI=>⟨λJ=>⟨λh3=>⟨λ_=>⟨by omega,J,h3⟩,λ_=>rfl⟩,λh3=>⟨(λe=>by cases e),λe=>jv e.2.2 h3⟩⟩,λJ=>⟨(λe=>by cases e),λe=>jv e.2.1 J⟩⟩,λI=>⟨(λe=>by cases e),λe=>jv e.1 (by omega)⟩⟩
  ·have h:=U.1 rfl
   unfold Z5;rw[jh a0,jb (by rintro(q|q|q);omega;exact q h.2.1;exact q h.2.2)];exact⟨rfl,rfl⟩
  ·have h:¬(d.leaves.length=0/\d.amount=0/\d.err=220):=λx=>by have:=U.2 x;cases this
   unfold Z5
   rw[jh a0,jh (by
    refine eJ λq=>h ⟨by omega,eJ λx=>q (.inr (.inl x)),eJ λx=>q (.inr (.inr x))⟩)]
   exact⟨rfl,rfl⟩
 ·have a0:d.code≠ []:=λe=>h0 (by rw[e];rfl)
  intro y j;refine⟨λI=> ?_,λI=> ?_⟩
  ·unfold Z5
   rw[jb a0,jh (j▸I)];exact⟨rfl,by rw[j]⟩
  ·obtain⟨l1,l2,_⟩:=Zm0 (c:=d.code) (v:=d.env) (j▸I)
   have cS:∀k,V2 y.1.leaves d.leaves 0=ah k->Z5 d=((k:Int),300):=λk h=>by
    rw[j] at h;unfold Z5;rw[jb a0,jb (λq=>q (j▸I)),h]
   have cN:V2 y.1.leaves d.leaves 0=aD->Z5 d=if y.1.leaves.length<d.leaves.length then((y.1.leaves.length:Int),300) else if d.amount≠y.1.amount\/d.err≠y.1.err then((y.1.leaves.length:Int)-1,300) else(0,0):=λh=>by
    rw[j] at h⊢;unfold Z5;rw[jb a0,jb (λq=>q (j▸I)),h]
   rw[<-j] at l1 l2;rw[Zx];generalize y.1.leaves=R at*;generalize d.leaves=L at*;refine⟨λx=>x.k<=R.length/\x.k<=L.length/\V2 (R.drop x.k) (L.drop x.k) x.k=V2 R L 0/\x.r=R.length-x.k,⟨⟨0,0,[],[],[],R.length⟩,⟨bg _,bg _,rfl,rfl⟩,rfl⟩,?_⟩;rintro x ⟨k1,k2,a1,hr⟩;refine⟨λg=>⟨λg1=> ?_,λg1=>⟨λg2=> ?_,λg2=>⟨by omega,by omega,λu hu=>⟨by omega,by omega,λw hw b hb=> ?_⟩⟩⟩⟩,λg=> ?_⟩
   ·have e:x.k=R.length:=by omega
    rw[cN (by rw[<-a1];exact Zhy (by omega)),jh (by omega),e];exact⟨rfl,rfl⟩
   ·have hx:R[x.k]? =ah (R[x.k]'(by omega)):=aq _
    rw[cS x.k (by rw[<-a1];exact Zgw hx (by omega))];exact⟨rfl,rfl⟩
   ·have hs:=Zey hu hw
    by_cases q:n32 w=n32 u
    ·rw[jh q] at hs
     rw[q] at hb;refine⟨λt=>by rw[hb] at t;simp at t,λ_=>⟨⟨x.k+1,0,[],[],[],R.length-(x.k+1)⟩,⟨by dsimp only;omega,by dsimp only;omega,hs.symm.trans a1,rfl⟩,by dsimp only;omega,wr64 (by omega) (by omega)⟩⟩
    ·rw[jb q] at hs
     rw[cS x.k (by rw[<-a1];exact hs)];exact⟨λ_=>⟨rfl,rfl⟩,λt=>by rw[hb,decide_eq_false (Ne.symm q)] at t;cases t⟩
   ·rw[cN (by rw[<-a1];exact Zhy (by omega)),jb (by omega)]
    refine⟨λb=>b=af↔(d.amount≠y.1.amount\/d.err≠y.1.err),⟨λh=>⟨λ_=> .inl (Ne.symm h),λ_=>rfl⟩,λh=>⟨λJ=>⟨λ_=> .inr (Ne.symm J),λ_=>rfl⟩,λJ=>⟨(λe=>by cases e),λe=>by rcases e with e|e;exact jv h.symm e;exact jv J.symm e⟩⟩⟩,λU=> ?_,λU=> ?_⟩
    ·rw[jh (U.1 rfl)]
     exact⟨wr64 (by omega) (by omega),rfl⟩
    ·rw[jb (λx=>by have:=U.2 x;cases this)]
     exact⟨rfl,rfl⟩
theorem Zwd{x y:Ins}:(!(Ins.op x==Ins.op y&&(Ins.n x==Ins.n y&&(Ins.m x==Ins.m y&&af))))=decide (x≠y):=by
 obtain⟨a,b,c⟩:=x;obtain⟨j,t,c'⟩:=y;rw[Bool.eq_iff_iff];simp
end
section
open Go Go.RowKit
theorem Zvi(a:List Ins) (h:a.length<=1000000000):PureC E2 33 [.psl .ins a ae,.psl .ins a ae] (.bool ae af):=by
 refine Za Zd (Zb Zd Zv9 400) ?_;rw[Zwa];refine⟨(λg=>by simp at g),λ_=>⟨λx=>x.k<=a.length/\x.r=a.length-x.k,⟨⟨0,0,[],[],[],a.length⟩,⟨bg _,rfl⟩,rfl,⟨⟨rfl,λh=>h⟩,⟨rfl,λh=>h⟩,rfl,js⟩,js⟩,?_⟩⟩;rintro x ⟨J,R⟩;refine aK (λg=> ?_) (λ_=>rfl);have g:=iK g;refine⟨by omega,by omega,λu I=>⟨by omega,by omega,λw j=> ?_⟩⟩;rw[I] at j;cases j;rw[Zwd]
 exact⟨λt=>jv rfl (iK t),λ_=>⟨⟨x.k+1,0,[],[],[],a.length-(x.k+1)⟩,⟨by dsimp only;omega,rfl⟩,by dsimp only;omega,rfl,⟨⟨rfl,λh=>h⟩,⟨rfl,λh=>h⟩,wr64 (by omega) (by omega),js⟩,js⟩⟩
theorem Zvj(a:List (List Int)) (h:a.length<=1000000000):PureC E2 34 [.psl dD a ae,.psl dD a ae] (.bool ae af):=by
 refine Za Zd (Zb Zd Zv9 400) ?_;rw[Zwb];refine⟨(λg=>by simp at g),λ_=>⟨λx=>x.k<=a.length/\x.r=a.length-x.k,⟨⟨0,0,[],[],[],a.length⟩,⟨bg _,rfl⟩,rfl,⟨⟨rfl,λh=>h⟩,⟨rfl,λh=>h⟩,rfl,js⟩,js⟩,?_⟩⟩;rintro x ⟨R,U⟩;refine aK (λg=> ?_) (λ_=>rfl);have g:=iK g;refine⟨by omega,by omega,λu J=>⟨by omega,by omega,λw I b j=> ?_⟩⟩;rw[J] at I;cases I;rw[Zux,iZ rfl] at j
 exact⟨(λt=>by rw[j] at t;cases t),λ_=>⟨⟨x.k+1,0,[],[],[],a.length-(x.k+1)⟩,⟨by dsimp only;omega,rfl⟩,by dsimp only;omega,rfl,⟨⟨rfl,λh=>h⟩,⟨rfl,λh=>h⟩,wr64 (by omega) (by omega),js⟩,js⟩⟩
noncomputable def Z9x:Sum thy:=Yh E2 gthV 10 (.cons (Zbv E2) (.cons (Zbv E2) .nil)) (λx=>x.1=x.2.1/\x.1.length<=1000000000) (λ_=>af) λy=> .bool ae y
theorem Z06:SumOk E2 33 Z9x:=Zl Zd (Ze (f:=33) rfl) λx h=>by
 obtain⟨a,b,_⟩:=x;obtain⟨e,h⟩:=h;dsimp only at e h;subst e;exact Zvi a h
noncomputable def Z9y:Sum thy:=Yh E2 gthV 10 (.cons Zr9 (.cons Zr9 .nil)) (λx=>x.1=x.2.1/\x.1.length<=1000000000) (λ_=>af) λy=> .bool ae y
theorem Z07:SumOk E2 34 Z9y:=Zl Zd (Ze (f:=34) rfl) λx h=>by
 obtain⟨a,b,_⟩:=x;obtain⟨e,h⟩:=h;dsimp only at e h;subst e;exact Zvj a h
noncomputable def FsaZ:Fns thy:=addS (addS F0 33 Z9x) 34 Z9y
theorem Z53:FnsOk E2 FsaZ:=Zc (Zc Z7 Z06) Z07
theorem Zvk(d:Drv) (v:Bool):Zk E2 FsaZ (vc E2 FsaZ 400) 14 [drvV d,drvV d] hp0 0 (λr=>ret E2 (patch hp0 0 r) r.v (.bool ae v))=(
(dr d=dr d/\ab (dr d)<=1000000000)/\∀(y:Bool),y=af->(y=af->∀(j:Bool),j=(bC (cT d)==bC (cT d)&&(bM (cT d)==bM (cT d)&&(bN (cT d)==bN (cT d)&&(bO (cT d)==bO (cT d)&&(bP (cT d)==bP (cT d)&&(bQ (cT d)==bQ (cT d)&&(bR (cT d)==bR (cT d)&&(bK (cT d)==bK (cT d)&&(bS (cT d)==bS (cT d)&&(bT (cT d)==bT (cT d)&&(bL (cT d)==bL (cT d)&&(bp (cT d)==bp (cT d)&&(bj (cT d)==bj (cT d)&&(bq (cT d)==bq (cT d)&&(bk (cT d)==bk (cT d)&&(br (cT d)==br (cT d)&&(bm (cT d)==bm (cT d)&&af)))))))))))))))&&af))->(j=af->((dp d==dp d)=af->((ez d==ez d)=af->(cz d=cz d/\ab (cz d)<=1000000000)/\∀(y:Bool),y=af->y=v)/\((ez d==ez d)=ae->ae=v))/\((dp d==dp d)=ae->ae=v))/\(j=ae->ae=v))/\(y=ae->ae=v)):=by kernel_rfl
noncomputable def Z9z:Sum thy:=Yh E2 gthV 10 (.cons dDrv (.cons dDrv .nil)) (λx=>x.1=x.2.1/\x.1.code.length<=1000000000/\x.1.leaves.length<=1000000000) (λ_=>af) λy=> .bool ae y
noncomputable def Z90:Sum thy:=Yh E2 gthV 10 (.cons Zr9 (.cons dI2 (.cons dI2 .nil))) (λx=>x.1.length<=65536/\0<=x.2.1/\x.2.1<=16/\x.2.2.1=0) (λx=>Zdw mP mPad x.1 x.2.1.toNat) λy=> .tup [Zm y,.bool ae af]
theorem Z08:SumOk E2 57 Z90:=Zl Zd (Ze (f:=57) rfl) λx h=>by
 obtain⟨L,a,b,_⟩:=x;obtain⟨j,t,J,I⟩:=h;dsimp only at j t J I;obtain⟨n,rfl⟩:=de t;subst I;exact Zuy L n j (by omega)
noncomputable def FcoZ:Fns thy:=addS (addS F0 58 Z5s) 57 Z90
theorem Z54:FnsOk E2 FcoZ:=Zc (Zc Z7 Zpq) Z08
theorem Zvl(d:Drv) (z:Int×List Int) (e:Int):Zk E2 FcoZ (vc E2 FcoZ 400) 8 [drvV d] hp0 0 (λr=>ret E2 (patch hp0 0 r) r.v (.tup [comV z,.int ae .i64 e]))=(
(decide ((↑(ab (cz d)):Int)>65536)=af->(0=ay z/\z32q (aJ z))/\2=e/\True)/\(decide ((↑(ab (cz d)):Int)>65536)=ae->(0<=(↑(ab (cz d)):Int)/\(↑(ab (cz d)):Int)<=65536)/\∀(y:Nat),y=depM (ag (↑(ab (cz d)):Int))->(ab (cz d)<=65536/\0<=(↑y:Int)/\(↑y:Int)<=16/\(0:Int)=0)/\∀(j:List Int),j=Zdw mP mPad (cz d) (ag (↑y:Int))->((↑(ab (cz d)):Int)=ay z/\e32q j (aJ z))/\0=e/\True)):=by kernel_rfl
noncomputable def comF(d:Drv):Int×List Int:=((d.leaves.length:Int),Zdw mP mPad d.leaves (depM d.leaves.length))
noncomputable def Z09:Sum thy:=Yh E2 gthV 10 (.cons dDrv .nil) (λx=>x.1.leaves.length<=65536) (λx=>comF x.1) λy=> .tup [comV y,.int ae .i64 0]
noncomputable def SstZ:Sum thy:=Yh E2 gthV 10 (.cons dDrv (.cons dI2 .nil)) (λ_=>True) (λx=>Yz x.1 x.2.1) λy=> .tup [stV y.1,.int ae .i64 y.2]
noncomputable def SchZ:Sum thy:=Yh E2 gthV 10 (.cons dDrv .nil) (λ_=>True) (λx=>Z5 x.1) λy=> .tup [.int ae .i64 y.1,.int ae .i64 y.2]
noncomputable def FmtZ:Fns thy:=addS (addS (addS (addS (addS (addS (addS (addS (addS (addS (addS (addS F0 6 Z1i) 10 Zmz) 12 Zmt) 15 Zva) 4 Z4g) 5 Z9r) 7 Z6d) 11 SstZ) 13 SchZ) 14 Z9z) 8 Z09) 9 Z09
theorem Zj9(c:List Ins) (v:Env) (d:Drv) (i:Int) (w:Bool):Zk E2 FmtZ (vc E2 FmtZ 400) 3 [.psl .ins c ae,envV v,drvV d,.int ae .i64 i] hp0 0 (λr=>ret E2 (patch hp0 0 r) r.v (.bool ae w))=(
 True/\∀(y:Bool),y=af->((!y)=af->ae=w)/\((!y)=ae->True/\∀(y:Bool),y=decide (ab c<=40)->((!y)=af->af=w)/\((!y)=ae->True/\∀(y:Bool),y=decide (ab (dr d)<=40)->((!y)=af->af=w)/\((!y)=ae->(decide ((↑(ab (cz d)):Int)>50)=af->af=w)/\(decide ((↑(ab (cz d)):Int)>50)=ae->True/\∀(y:Drv×Int),y=drF c v->True/\∀(J:Drv×Int),J=drF c v->ab (cz d)<=65536/\∀(U:Int×List Int),U=comF d->ab (cz d)<=65536/\∀(a0:Int×List Int),a0=comF d->True/\∀(j:St×Int),j=Yz d i->True/\∀(R:St×Int),R=Yz d i->True/\∀(t:Int×Int),t=Z5 d->True/\∀(I:Int×Int),I=Z5 d->(ay y=ay J/\ab (dr (ay y))<=1000000000/\ab (cz (ay y))<=1000000000)/\∀(a1:Bool),a1=af->(a1=af->((aJ y==aJ J)=af->∀(v:Bool),v=(ay U==ay a0&&(b32q (aJ U) (aJ a0)&&af))->(v=af->((0==0)=af->ab (aF (ay j))<=1000000/\∀(y:Bool),y=Zkq (ay j) (ay R)->(y=af->((aJ j==aJ R)=af->((ay t==ay I)=af->((aJ t==aJ I)=af->af=w)/\((aJ t==aJ I)=ae->ae=w))/\((ay t==ay I)=ae->ae=w))/\((aJ j==aJ R)=ae->ae=w))/\(y=ae->ae=w))/\((0==0)=ae->ae=w))/\(v=ae->ae=w))/\((aJ y==aJ J)=ae->ae=w))/\(a1=ae->ae=w)))))):=by kernel_rfl
theorem Zvm(d:Drv) (j:d.code.length<=1000000000) (t:d.leaves.length<=1000000000):PureC E2 14 [drvV d,drvV d] (.bool ae af):=by
 refine Za Zd (Zb Zd Z53 400) ?_;rw[Zvk];simp only[ib,bZ,dv,true_and,and_true,forall_eq,jn,bu,false_implies];exact⟨j,t⟩
theorem Z1a:SumOk E2 14 Z9z:=Zl Zd (Ze (f:=14) rfl) λx h=>by
 obtain⟨a,b,_⟩:=x;obtain⟨e,j,t⟩:=h;dsimp only at e j t;subst e;exact Zvm a j t
theorem Zvn(d:Drv) (h:d.leaves.length<=65536):PureC E2 8 [drvV d] (.tup [comV (comF d),.int ae .i64 0]):=by
 refine Za Zd (Zb Zd Z54 400) ?_;rw[Zvl];have I:=Znj h;refine⟨λg=>jv (iK g) (by omega),λ_=>⟨⟨by omega,by omega⟩,λy j=> ?_⟩⟩;rw[bB] at j;refine⟨⟨h,by omega,by omega,rfl⟩,λz t=>⟨⟨rfl,?_⟩,rfl,js⟩⟩;rw[bB,j] at t;rw[t];exact Uh rfl
theorem Z1b:SumOk E2 8 Z09:=Zl Zd (Ze (f:=8) rfl) λx h=>Zvn x.1 h
theorem Zvo(d:Drv) (h:d.leaves.length<=65536):PureC E2 9 [drvV d] (.tup [comV (comF d),.int ae .i64 0]):=by
 refine Za Zd (Zb Zd Z6e 400) ?_;rw[Zwc];have I:=Znj h;refine⟨λg=>jv (iK g) (by omega),λ_=>⟨⟨by omega,by omega⟩,λy j=> ?_⟩⟩;rw[bB] at j;refine⟨⟨h,by omega,by omega,rfl⟩,λz t=>⟨⟨rfl,?_⟩,rfl,js⟩⟩;rw[bB,j] at t;rw[t];exact Uh rfl
theorem Z1c:SumOk E2 9 Z09:=Zl Zd (Ze (f:=9) rfl) λx h=>Zvo x.1 h
theorem Z55:SumOk E2 11 SstZ:=Zl Zd (Ze (f:=11) rfl) λx _=>Zm8 x.1 x.2.1
theorem Z56:SumOk E2 13 SchZ:=Zl Zd (Ze (f:=13) rfl) λx _=>Zh7 x.1
theorem Z57:FnsOk E2 FmtZ:=Zc (Zc (Zc (Zc (Zc (Zc (Zc (Zc (Zc (Zc (Zc (Zc Z7 Zhx) Zgv) Zgs) Zj6) Zvf) Z02) Zpz) Z55) Z56) Z1a) Z1b) Z1c
theorem Z1d(c:List Ins) (v:Env):(drF c v).1.code.length<=c.length/\(drF c v).1.leaves.length<=c.length+1:=by
 by_cases h:(drF c v).2=0
 ·refine⟨?_,(Zm0 h).2.2⟩
  unfold drF;split
  ·exact aE _
  ·exact bg _
 ·have e:¬(verF c).2=0:=λe=>h (by unfold drF;rw[jh e])
  unfold drF;rw[jb e];exact⟨bg _,bg _⟩
theorem Zr5(d:Drv) (i:Int):(Yz d i).1.stack.length<=1000000:=by
 unfold Yz;split
 ·rename_i j
  split
  ·rename_i q
   have:=(Zct (v:=d.env) j).2.2.1 i.toNat (by omega);exact bY this (by decide)
  ·exact bg _
 ·exact bg _
theorem Zhw(c:List Ins) (v:Env) (d:Drv) (i:Int):PureC E2 3 [.psl .ins c ae,envV v,drvV d,.int ae .i64 i] (.bool ae af):=by
 refine Za Zd (Zb Zd Z57 400) ?_;rw[Zj9];obtain⟨t,I⟩:=Z1d c v;have j:=Zr5 d i;simp only[forall_eq,Zux,decide_true,ib,bZ,dv,true_and,and_true,jn,bu,false_implies,Zr3,Bool.not_true,bh,bJ,fw,fk,bc,implies_true];exactλJ R U=>⟨by omega,by omega,⟨by omega,by omega⟩,j⟩
end
section
open Go.ChangeShapes Go.WideShapes Go.ChangeAt Go.RowKit

theorem deriveMatches_lifted(os:Os) (started:os.Started) (H:Type) (enc:TypeId×Value->H) (F:Stop.Interp):
    ReturnsInHanded {calm:=true} Tryz.checked os 3 .any (λw args=>(Rows.deriveMatchesSpec.pre enc Tryz.prog Tryz.f3 [] ae w args/\laidMetH Tryz.prog Zrs w)/\sizedMet enc Tryz.prog Tryz.f3 (OpenSpec.ofChange Rows.deriveMatchesSpec) ae w args)
      ((OpenSpec.ofChange Rows.deriveMatchesSpec).postWith enc Tryz.prog Tryz.f3 F (outsideKept [.timePasses]) ae af ae):=by
  refine Go.Clock.returns_of_change (C:=Tryz.checked) (X:=λw _=>laidMetH Tryz.prog Zrs w) (λ_ _ _ hh h=>h.of_heap hh) Tryz.own started (by kernel_rfl) Tryz.func3
    (Go.Clock.witness_at (enc:=enc) (C:=Tryz.checked) (os:=os) (X:=λw _=>laidMetH Tryz.prog Zrs w) (World.doorLaid Tryz.prog 600 os) #[.slice aD 0 0,.agg #[.int .i64 0,.int .i64 0,.int .i64 0,.int .i64 0,.int .i64 0,.int .i64 0,.int .i64 0,.int .i64 0,.int .i64 0,.int .i64 0,.int .i64 0,.int .i64 0,.int .i64 0,.int .i64 0,.int .i64 0,.int .i64 0,.int .i64 0],.agg #[.slice aD 0 0,.int .i64 0,.int .i64 0,.int .i64 0,.int .i64 0,.int .i64 0,.int .i64 0,.int .i64 0,.int .i64 0,.int .i64 0,.int .i64 0,.int .i64 0,.int .i64 0,.int .i64 0,.int .i64 0,.int .i64 0,.int .i64 0,.int .i64 0,.int .i64 0,.int .i64 0,.slice aD 0 0],.int .i64 0] 8 rfl (World.shaped_of_RefB (by kernel_rfl) (by kernel_rfl)) (by kernel_rfl) (by kernel_rfl) (by kernel_rfl) (Zu3 os _)) ?_
  intro W base args ds gs before hval0 hW _ hz hL _
  have hval:∀(j:Nat) t v,Tryz.f3.params[j]? =ah t->args[j]? =ah v->Value.okWide Tryz.prog W .any base t v:=hval0
  have hW':=hW
  obtain⟨p,q,hA0,hV,rfl,hfz,hnd⟩:=hW
  have hA:DataW.TrodAll enc Tryz.prog W 0 (λ_=>af) af Tryz.f3.params.toList args.toList ds p:=hA0
  rw[Tryz.params3] at hA hval hz
  obtain⟨v0,v1,v2,v3,d0,d1,d2,d3,p0,p1,p2,p3,rfl,rfl,rfl,h0,h1,h2,h3⟩:=trodAll_four hA
  obtain⟨rfl,rfl⟩:=trodVars_none hV
  obtain⟨c,hdc⟩:=Zvw (hval 0 23 v0 rfl rfl) h0
  obtain⟨v,hdv⟩:=Z1k h1
  obtain⟨d,hdd⟩:=Z2z h2
  obtain⟨i,rfl,_,hri,_⟩:=open_int Tryz.underlying3 (hval 3 3 v3 rfl rfl) h3
  refine(Zrt (Zhw c v d i) hL (Zfd hdc (Zfd hdv (Zfd hdd (Yb8 (.int _ _ _)))))).mono λen W' ⟨hen,hw⟩=> ?_
  exact⟨_,hen,Zxw Tryz.laidOut rfl Tryz.underlying4 (by kernel_rfl) rfl hW' rfl rfl rfl (Z39 hw).1,(Z39 hw).2⟩

end
section
open Go.ChangeShapes Go.WideShapes Go.ChangeAt Go.RowKit

theorem Ui:(Rows.deriveMatchesRow.inPlace==Tryz.prog.inPlace 3)=true:=by kernel_rfl
theorem Vd:(Rows.deriveMatchesRow.unfollowed==Tryz.prog.unfollowed 3)=true:=by kernel_rfl
theorem Vw:(Rows.deriveMatchesRow.recurses==Tryz.prog.recurses 3)=true:=by kernel_rfl
theorem Zat:(Rows.deriveMatchesRow.named==Tryz.prog.varsNamed 3)=true:=by kernel_rfl
theorem Zau:joinedFacts Tryz.prog 3 Tryz.f3 Rows.deriveMatchesSpec Rows.deriveMatchesRow=true:=by
  unfold joinedFacts;rw[Ui,Vd,Vw,Zat]
  kernel_rfl
theorem Za5:Tryz.prog.funcNamed Rows.deriveMatchesRow.func=ah 3:=by kernel_rfl
theorem deriveMatches_holds:Rows.DeriveMatchesSaid:=
  Go.Clock.holds_of_wide_time 3 Tryz.f3 rfl rfl rfl rfl rfl rfl rfl ⟨rfl,rfl,rfl,rfl,rfl⟩ rfl rfl rfl rfl rfl Za5 Tryz.func3 Zau
    (iK (by kernel_rfl)) (by unfold Func.isWrapper;first|(rw[jh (by decide+kernel)];kernel_rfl)|(rw[jb (by decide+kernel)];exact⟨rfl,rfl⟩))
    (λos started H enc _ F=>deriveMatches_lifted os started H enc F)

end
end Go.Proofs.YtahcfmdfjjjmjaaGreatDoor
