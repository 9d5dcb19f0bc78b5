/- Merged texts: EdI, TpV, TcH, EdJ, EdL, EdK, EdM, EdN, RowEditionsCompilesA, RowEditionsCompilesB. -/
import Derived.Test.YtpmhbnameoklkaaGreatDoorMf
open And renaming intro->aA
open Bool renaming and_eq_false_iff->bd,and_eq_true->aq,and_false->iy,and_true->cx,false->ab,false_and->eu,false_eq_true->aK,not_eq_false'->bY,not_eq_true'->bh,or_eq_false_iff->bA,or_eq_true->be,true->ac,true_and->cm,true_eq_false->aO
open ByteArray renaming mk->dU
open Decidable renaming not_not->bp
open Go.IntKind renaming i64->af
open Go.Proofs.YtpmhbnameoklkaaGreatDoor.Cls renaming name->aP,pay->aC,when_->aX
open Go.Proofs.YtpmhbnameoklkaaGreatDoor.Ex renaming d0->bC,d1->bD,d2->bE,d3->bF,l->bw,n->bX,op->aJ
open Go.Proofs.YtpmhbnameoklkaaGreatDoor.Tar renaming clauses->au,for_->bB,name->bN
open Go.Proofs.YtpmhbnameoklkaaGreatDoor.Th renaming ins->di,ints->fN,reps->cD
open Go.Value renaming slice->aH
open Int renaming ofNat_eq_natCast->bL,toNat->ag,toNat_natCast->bx
open List renaming append_nil->dE,drop_drop->ka,drop_eq_nil_of_le->bK,ext_getElem?->hJ,getElem?_eq_getElem->aj,getElem?_eq_none->dx,length->aa,length_append->aD,length_filter_le->dy,length_take->bk,map_append->fD,mem_of_getElem?->aI,set->dw,tail_cons->kb,take->av,take_add_one->cz,take_length->aW,take_of_length_le->bm
open Nat renaming le_refl->aw,le_trans->bR,not_lt_zero->kc,zero_le->bb
open Option renaming none->ar,some->ae,toList_some->fF
open Prod renaming fst->ao,snd->aE
namespace Go.Proofs.YtpmhbnameoklkaaGreatDoor
set_option linter.unusedVariables false
set_option linter.unusedSimpArgs false
set_option linter.unnecessarySimpa false
set_option maxRecDepth 100000
section
open Go
structure CpE where
 L:List Int
 i:Int
 j:Int
 r:Nat
def blkI(v:SV thy) (L:List Int):List (Nat×Blk thy):= [(bOf v,.rows fN L 0)]
def Ykk:Fr thy->Hp thy->Nat->Ann thy:=λT h i=>{X:=CpE,fr:=λx=> [(0,T 0),(3,.int ab .i64 x.i)],bl:=λx=>blkI (T 0) x.L,src:=λ_=> [],md:= [bOf (T 0)],ih:=i,M:=i+30,meas:=λx=>x.r}
def Ykl:Fr thy->Hp thy->Nat->Ann thy:=λT h i=>{X:=CpE,fr:=λx=> [(0,T 0),(3,.int ab .i64 x.i),(4,T 4),(5,.int ab .i64 x.j)],bl:=λx=>blkI (T 0) x.L,src:=λ_=> [],md:= [bOf (T 0)],ih:=i,M:=i+30,meas:=λx=>x.r}
def AchE:Fr thy->Hp thy->Nat->Ann thy:=λT h i=>{X:=Bool×CpE,fr:=λx=> [(6,match x.1 with|true=> .sl i 0 x.2.L.length 1 ar|false=> .val (.slice ar 0 0)),(17,T 17),(18,T 18),(19,.int ab .i64 x.2.i)],bl:=λx=>(match x.1 with|true=> [(i,.rows fN x.2.L 0)]|false=> []),src:=λx=>(match x.1 with|true=> [(i,6)]|false=> []),md:= [],ih:=i+1,M:=i+40,meas:=λx=>x.2.r,ex:=ex2,al:=al2,exOk:=Zix,alOk:=Ziy}
noncomputable def FchE:Fns thy:=addL (addL (addL (addS F0 34 SedE) 43 4 Ykk E) 43 9 Ykl E) 19 4 AchE E
theorem Ycs:FnsOk E FchE:=Zm E_ok (Zm E_ok (Zm E_ok (Zb F0_ok Z4d) _ _ _) _ _ _) _ _ _
abbrev qDQ2:=(0:Nat)
abbrev qDQ1(I:CpE):=(qDQ2=qDQ2/\aa (CpE.L I)=aa (CpE.L I)/\True)
abbrev qDQ3(I:CpE):=(↑(aa (CpE.L I)):Int)
abbrev qDQe:=(1:Nat)
abbrev qDQ9:=(ab=ac->ab=ac)
abbrev qDQa:=(1:Int)
abbrev qDQ7(I:List Rep):=(↑(aa I):Int)
abbrev qDQ4(U:Bool×CpE->Prop) (R:CpE) (I:List Rep):=(∃(J:CpE),U (ab,J)/\J.4+qDQe<=R.4/\ac=ac/\(False/\(I=I/\qDQ9)/\(qDQ7 I)=(qDQ7 I)/\wr af (CpE.i R+qDQa)=CpE.i J/\True)/\True)
abbrev qDQh(I:CpE):=(qDQ2+ag (CpE.i I))
abbrev qDQd:=(0:Int)
abbrev qDQg(I:CpE) (J:CpE):=(qDQd<=CpE.i I/\CpE.i I<=(qDQ3 J))
abbrev qDQ5(I:CpE) (J:CpE) (R:List Int):=(decide (CpE.i I<(qDQ3 J))=ac->(qDQ2<=qDQ2+ag (CpE.i I)/\qDQ2+ag (CpE.i I)<=aa (CpE.L I))/\(qDQg I J)/\qDQ2+ag (CpE.i I)<=aa (av (qDQh I) (CpE.L I))/\av (ag (CpE.i I)) (av (qDQh I) (CpE.L I))=R)
abbrev qDQ6(I:CpE) (J:CpE):=(qDQ2+ag (CpE.i I)=qDQ2+ag (CpE.i I)/\aa (CpE.L J)-ag (CpE.i I)=aa (CpE.L J)-ag (CpE.i I)/\True)
abbrev qDQ8(I:Rep) (J:Bool->Prop):=((decide (ItD.from_ (Rep.item I)>=qDQd)=ac->(decide (ItD.from_ (Rep.item I)<=(1073741824:Int))=ac->J ac)/\(decide (ItD.from_ (Rep.item I)<=(1073741824:Int))=ab->J ab))/\(decide (ItD.from_ (Rep.item I)>=qDQd)=ab->J ab))
abbrev qDQb(I:CpE) (J:CpE):=(↑(aa (CpE.L I)-ag (CpE.i J)):Int)
abbrev qDQc(I:CpE) (J:CpE):=(CpE.L I=CpE.L J/\qDQ2=qDQ2)
abbrev qDQf:=([]:List Int)
theorem Z7c(l:List Rep) (a4 kd:Int) (v:List Int):Zj E FchE (vc E FchE 400) 19 [.psl cD l ab,.int ab .i64 a4,.int ab .i64 kd] hp0 0 (λr=>ret E (patch hp0 0 r) r.v (.psl fN v ab))=(
 (decide (a4>=qDQd)=ac->(decide (a4<(16:Int))=ac->(decide (kd>=qDQa)=ac->(decide (kd<=(6:Int))=ac->aa (have this:=l;this)<=(8:Nat)/\∀(y:List Rep),y=edsF l a4 kd->∃(R:Bool×CpE->Prop),((∃(I:CpE),R (ab,I)/\ac=ac/\(aH ar qDQ2 qDQ2=aH ar qDQ2 qDQ2/\(y=y/\qDQ9)/\(qDQ7 y)=(qDQ7 y)/\qDQd=CpE.i I/\True)/\True)\/∃(y:CpE),R (ac,y)/\ac=ac/\False)/\(∀(I:CpE),R (ab,I)->(decide (CpE.i I<(qDQ7 y))=ac->qDQd<=CpE.i I/\CpE.i I+qDQa<=(qDQ7 y)/\∀(x:Rep),y[ag (CpE.i I)]? =ae x->∃(Q:Bool->Prop),(qDQ8 x Q)/\(Q ac->(qDQ4 R I y)\/∃(U:CpE),R (ac,U)/\U.4+qDQe<=I.4/\ac=ac/\((qDQ2=qDQ2/\qDQe=aa (CpE.L U)/\True)/\(y=y/\qDQ9)/\(qDQ7 y)=(qDQ7 y)/\wr af (CpE.i I+qDQa)=CpE.i U/\True)/\([ItD.from_ (Rep.item x)]=CpE.L U/\qDQ2=qDQ2)/\True)/\(Q ab->(∃(U:CpE),R (ab,U)/\U.4+qDQe<=I.4/\ac=ac/\(aH ar qDQ2 qDQ2=aH ar qDQ2 qDQ2/\(y=y/\qDQ9)/\(qDQ7 y)=(qDQ7 y)/\wr af (CpE.i I+qDQa)=CpE.i U/\True)/\True)\/∃(y:CpE),R (ac,y)/\y.4+qDQe<=I.4/\ac=ac/\False))/\(decide (CpE.i I<(qDQ7 y))=ab->v= []))/\∀(I:CpE),R (ac,I)->(decide (CpE.i I<(qDQ7 y))=ac->qDQd<=CpE.i I/\CpE.i I+qDQa<=(qDQ7 y)/\∀(x:Rep),y[ag (CpE.i I)]? =ae x->∃(Q:Bool->Prop),(qDQ8 x Q)/\(Q ac->(aa (CpE.L I)<=aa (CpE.L I)/\qDQ2<=aa (CpE.L I)/\(aa (CpE.L I)+qDQe)*(8:Nat)<=(140737488355328:Nat))/\((qDQ4 R I y)\/∃(U:CpE),R (ac,U)/\U.4+qDQe<=I.4/\ac=ac/\((qDQ2=qDQ2/\aa (CpE.L I)+qDQe=aa (CpE.L U)/\True)/\(y=y/\qDQ9)/\(qDQ7 y)=(qDQ7 y)/\wr af (CpE.i I+qDQa)=CpE.i U/\True)/\(av (aa (CpE.L I)) (CpE.L I)++ [ItD.from_ (Rep.item x)]=CpE.L U/\qDQ2=qDQ2)/\True))/\(Q ab->(qDQ4 R I y)\/∃(U:CpE),R (ac,U)/\U.4+qDQe<=I.4/\ac=ac/\((qDQ2=qDQ2/\aa (CpE.L I)=aa (CpE.L U)/\True)/\(y=y/\qDQ9)/\(qDQ7 y)=(qDQ7 y)/\wr af (CpE.i I+qDQa)=CpE.i U/\True)/\(qDQc I U)/\True))/\(decide (CpE.i I<(qDQ7 y))=ab->(decide ((qDQ3 I)<(2:Int))=ac->qDQ2+aa (CpE.L I)<=aa (CpE.L I)/\av (aa (CpE.L I)) (CpE.L I)=v)/\(decide ((qDQ3 I)<(2:Int))=ab->∃(R:CpE->Prop),(∃(x:CpE),R x/\ac=ac/\((qDQ1 I)/\qDQa=CpE.i x/\True)/\(qDQc I x)/\True)/\∀(x:CpE),R x->(decide (CpE.i x<(qDQ3 I))=ac->(qDQd<=CpE.i x/\CpE.i x+qDQa<=(qDQ3 I))/\qDQ2+ag (CpE.i x)+qDQe<=aa (CpE.L x)/\∀(a6:Int),(CpE.L x)[qDQ2+ag (CpE.i x)]? =ae a6->(qDQd<=wr af (CpE.i x-qDQa)/\wr af (CpE.i x-qDQa)+qDQa<=(qDQ3 I))/\qDQ2+ag (wr af (CpE.i x-qDQa))+qDQe<=aa (CpE.L x)/\∀(a7:Int),(CpE.L x)[qDQ2+ag (wr af (CpE.i x-qDQa))]? =ae a7->((a6==a7)=ac->(qDQg x I)/\(decide (CpE.i x<(qDQ3 I))=ac->∃(R:CpE->Prop),(∃(J:CpE),R J/\ac=ac/\((qDQ1 I)/\CpE.i x=CpE.i J/\(qDQ6 x I)/\qDQa=CpE.j J/\True)/\(qDQc x J)/\True)/\∀(J:CpE),R J->(decide (CpE.j J<(qDQb I x))=ac->(qDQd<=CpE.j J/\CpE.j J+qDQa<=(qDQb I x))/\qDQ2+ag (CpE.i x)+ag (CpE.j J)+qDQe<=aa (CpE.L J)/\∀(a2:Int),(CpE.L J)[qDQ2+ag (CpE.i x)+ag (CpE.j J)]? =ae a2->(qDQd<=wr af (CpE.j J-qDQa)/\wr af (CpE.j J-qDQa)+qDQa<=(qDQb I x))/\qDQ2+ag (CpE.i x)+ag (wr af (CpE.j J-qDQa))+qDQe<=
aa (CpE.L J)/\∀(a0:Int),(CpE.L J)[qDQ2+ag (CpE.i x)+ag (wr af (CpE.j J-qDQa))]? =ae a0->((a2 !=a0)=ac->(qDQd<=CpE.j J/\CpE.j J+qDQa<=(qDQb I x))/\qDQ2+ag (CpE.i x)+ag (CpE.j J)+qDQe<=aa (CpE.L J)/\∀(a1:Int),(CpE.L J)[qDQ2+ag (CpE.i x)+ag (CpE.j J)]? =ae a1->(qDQd<=CpE.i J/\CpE.i J+qDQa<=(qDQ3 I))/\qDQ2<=qDQ2+ag (CpE.i J)/\qDQ2+ag (CpE.i J)+qDQe<=aa (CpE.L J)/\∀(a3:Int),(CpE.L J)[qDQ2+ag (CpE.i J)]? =ae a3->∃(a5:CpE),R a5/\a5.4+qDQe<=J.4/\ac=ac/\((qDQ1 I)/\wr af (CpE.i J+qDQa)=CpE.i a5/\(qDQ6 x I)/\wr af (CpE.j J+qDQa)=CpE.j a5/\True)/\(dw (CpE.L J) (qDQh J) a1=CpE.L a5/\qDQ2=qDQ2)/\True)/\((a2 !=a0)=ab->∃(a1:CpE),R a1/\a1.4+qDQe<=J.4/\ac=ac/\((qDQ1 I)/\CpE.i J=CpE.i a1/\(qDQ6 x I)/\wr af (CpE.j J+qDQa)=CpE.j a1/\True)/\(qDQc J a1)/\True))/\(decide (CpE.j J<(qDQb I x))=ab->(qDQg J I)/\(qDQ5 J I v)/\(decide (CpE.i J<(qDQ3 I))=ab->False)))/\(decide (CpE.i x<(qDQ3 I))=ab->∃(R:CpE->Prop),(∃(J:CpE),R J/\ac=ac/\((qDQ1 I)/\CpE.i x=CpE.i J/\(qDQf= []/\qDQ9)/\qDQa=CpE.j J/\True)/\(qDQc x J)/\True)/\∀(x:CpE),R x->(decide (CpE.j x<(↑qDQ2:Int))=ac->qDQd<=CpE.j x/\CpE.j x+qDQa<=(↑qDQ2:Int)/\∀(J:Int),qDQf[ag (CpE.j x)]? =ae J->qDQd<=wr af (CpE.j x-qDQa)/\wr af (CpE.j x-qDQa)+qDQa<=(↑qDQ2:Int)/\∀(a2:Int),qDQf[ag (wr af (CpE.j x-qDQa))]? =ae a2->((J !=a2)=ac->qDQd<=CpE.j x/\CpE.j x+qDQa<=(↑qDQ2:Int)/\∀(a0:Int),qDQf[ag (CpE.j x)]? =ae a0->(qDQd<=CpE.i x/\CpE.i x+qDQa<=(qDQ3 I))/\qDQ2<=qDQ2+ag (CpE.i x)/\qDQ2+ag (CpE.i x)+qDQe<=aa (CpE.L x)/\∀(a1:Int),(CpE.L x)[qDQ2+ag (CpE.i x)]? =ae a1->∃(a3:CpE),R a3/\a3.4+qDQe<=x.4/\ac=ac/\((qDQ1 I)/\wr af (CpE.i x+qDQa)=CpE.i a3/\(qDQf= []/\qDQ9)/\wr af (CpE.j x+qDQa)=CpE.j a3/\True)/\(dw (CpE.L x) (qDQh x) a0=CpE.L a3/\qDQ2=qDQ2)/\True)/\((J !=a2)=ab->∃(a0:CpE),R a0/\a0.4+qDQe<=x.4/\ac=ac/\((qDQ1 I)/\CpE.i x=CpE.i a0/\(qDQf= []/\qDQ9)/\wr af (CpE.j x+qDQa)=CpE.j a0/\True)/\(qDQc x a0)/\True))/\(decide (CpE.j x<(↑qDQ2:Int))=ab->(qDQg x I)/\(qDQ5 x I v)/\(decide (CpE.i x<(qDQ3 I))=ab->False))))/\((a6==a7)=ab->∃(J:CpE),R J/\J.4+qDQe<=x.4/\ac=ac/\((qDQ1 I)/\wr af (CpE.i x+qDQa)=CpE.i J/\True)/\(qDQc x J)/\True))/\(decide (CpE.i x<(qDQ3 I))=ab->qDQ2+aa (CpE.L I)<=aa (CpE.L x)/\av (aa (CpE.L I)) (CpE.L x)=v))))/\(decide (kd<=(6:Int))=ab->v= []))/\(decide (kd>=qDQa)=ab->v= []))/\(decide (a4<(16:Int))=ab->v= []))/\(decide (a4>=qDQd)=ab->v= [])):=by kernel_rfl
def Wx:List Int->List Int
 | []=> []
 | [a]=> [a]
 |a::b::r=>if a=b then Wx (b::r) else a::Wx (b::r)
theorem Zex:∀(a:Int) (r:List Int),Wx (a::r)=a::(Wx (a::r)).tail
 |a,[]=>rfl
 |a,b::r=>by
  rw[Wx]
  split
  ·rename_i h;subst h;exact Zex a r
  ·rfl
theorem Zt8{a:Int} {r:List Int}:Wx (a::a::r)=Wx (a::r):=by rw[Wx,if_pos rfl]
theorem Zt9{a b:Int} {r:List Int} (h:a≠b):Wx (a::b::r)=a::Wx (b::r):=by rw[Wx,if_neg h]
theorem Zrh{l:List Int} (h:l.length<2):Wx l=l:=by
 match l,h with
 | [],_=>rfl
 | [a],_=>rfl
 |a::b::r,h=>simp at h;omega
theorem Z04{α:Type} {l m:List α} {d k:Nat} (h:l.drop d=m.drop d) (I:d<=k):l[k]? =m[k]? :=by
 have:=congrArg (λx:List α=>x[k-d]?) h;simp only[List.getElem?_drop] at this
 rwa[show d+(k-d)=k by omega] at this
theorem Zn9{α:Type} {l m:List α} {d k:Nat} (h:l.drop d=m.drop d) (I:d<=k):l.drop k=m.drop k:=by
 have:=congrArg (List.drop (k-d)) h
 rwa[ka,ka,show d+(k-d)=k by omega] at this
def rngB(n:Int):Bool:=decide (0<=n)&&decide (n<=1073741824)
def frmF(y:List Rep):List Int:=(y.map λx=>x.item.from_).filter rngB
theorem Zf9{y:List Rep} {k:Nat} {x:Rep} (h:y[k]? =ae x):frmF (y.take (k+1))=frmF (y.take k)++(if rngB x.item.from_=ac then[x.item.from_] else[]):=by
 unfold frmF;rw[cz,h,fD,List.filter_append,fF]
 congr 1
 cases e:rngB x.item.from_<;>simp[e]
theorem rngB_t{n:Int}:rngB n=ac↔(0<=n/\n<=1073741824):=by unfold rngB;simp
theorem Ybd{n:Int} (h:¬(0<=n/\n<=1073741824)):rngB n=false:=by
 cases e:rngB n with
 |false=>rfl
 |true=>exact absurd (rngB_t.1 e) h
noncomputable def chgF(l:List Rep) (I kd:Int):List Int:=if 0<=I/\I<16/\1<=kd/\kd<=6 then Wx (frmF (edsF l I kd)) else[]
theorem Z7d(y:List Rep):(frmF y).length<=y.length:=by
 have:=dy rngB (y.map λx=>x.item.from_);rw[List.length_map] at this;exact this
theorem Z7e(l:List Rep) (a2 kd:Int) (h8:l.length<=8):PureC E 19 [.psl cD l ab,.int ab .i64 a2,.int ab .i64 kd] (.psl fN (chgF l a2 kd) ab):=by
 refine Za E_ok (Zd E_ok Ycs 400) ?_;rw[Z7c];delta qDQ2 qDQ1 qDQ3 qDQe qDQ9 qDQa qDQ7 qDQ4 qDQh qDQd qDQg qDQ5 qDQ6 qDQ8 qDQb qDQc qDQf;simp only[bx,decide_eq_true_eq,decide_eq_false_iff_not,true_and,and_true,imp_self,implies_true,false_and,and_false,or_false,false_or,exists_false,bne_iff_ne,bne_eq_false_iff_eq,beq_iff_eq,beq_eq_false_iff_ne,aw,bb,Nat.zero_add,aW];have a4:¬(0<=a2/\a2<16/\1<=kd/\kd<=6)->chgF l a2 kd= []:=λh=>if_neg h
 refine aA (λh1=>aA (λJ=>aA (λh3=>aA (λh4=> ?_) (λh4=>a4 (by omega))) (λh3=>a4 (by omega))) (λJ=>a4 (by omega))) (λh1=>a4 (by omega));refine⟨h8,λy hy=> ?_⟩;have a9:chgF l a2 kd=Wx (frmF y):=by rw[hy];exact if_pos (by omega)
 have b9:y.length<=8:=by
  rw[hy];exact bR (Nat.le_of_eq (Zei _).length_eq) (bR (dy ..) h8)
 rw[a9];refine⟨λp=>∃k:Nat,p.2.i=k/\k<=y.length/\(match p.1 with|false=>frmF (y.take k)= []|true=>p.2.L=frmF (y.take k))/\p.2.r=y.length-k,⟨⟨[],0,0,y.length⟩,⟨0,rfl,bb _,rfl,rfl⟩,rfl⟩,?_,?_⟩
 ·rintro x ⟨k,hi,hk,I,hr⟩
  dsimp only at hi hk I hr;refine aA (λh=>⟨by omega,by omega,λw U=> ?_⟩) (λh=> ?_)
  ·have a1:k+1<=y.length:=by omega
   rw[hi,bx] at U;refine qB (P:=0<=w.item.from_/\w.item.from_<=1073741824) ⟨λh=>⟨λJ=>⟨λ_=>⟨by omega,by omega⟩,λ_=>rfl⟩,λJ=>⟨(λe=>by cases e),λh3=>by omega⟩⟩,λh=>⟨(λe=>by cases e),λh3=>by omega⟩⟩ (λR=> ?_) (λR=> ?_)
   ·refine⟨⟨[w.item.from_],k+1,0,y.length-(k+1)⟩,⟨k+1,rfl,a1,?_,rfl⟩,(by dsimp only;omega),⟨rfl,(by rw[hi];exact wrs (by omega) (by omega))⟩,rfl⟩
    dsimp only;rw[Zf9 U,I,rngB_t.2 R];rfl
   ·refine⟨⟨[],k+1,0,y.length-(k+1)⟩,⟨k+1,rfl,a1,?_,rfl⟩,(by dsimp only;omega),(by rw[hi];exact wrs (by omega) (by omega))⟩
    dsimp only;rw[Zf9 U,I,Ybd R];rfl
  ·rw[bm (by omega)] at I
   rw[I];rfl
 ·rintro x ⟨k,hi,hk,I,hr⟩
  dsimp only at hi hk I hr;have b1:x.L.length<=8:=by
   have:=Z7d (y.take k);rw[bk] at this;rw[I];omega
  refine aA (λh=>⟨by omega,by omega,λw U=> ?_⟩) (λh=> ?_)
  ·have a1:k+1<=y.length:=by omega
   rw[hi,bx] at U;refine qB (P:=0<=w.item.from_/\w.item.from_<=1073741824) ⟨λh=>⟨λJ=>⟨λ_=>⟨by omega,by omega⟩,λ_=>rfl⟩,λJ=>⟨(λe=>by cases e),λh3=>by omega⟩⟩,λh=>⟨(λe=>by cases e),λh3=>by omega⟩⟩ (λR=> ?_) (λR=> ?_)
   ·refine⟨by omega,⟨x.L++ [w.item.from_],k+1,0,y.length-(k+1)⟩,⟨k+1,rfl,a1,?_,rfl⟩,(by dsimp only;omega),⟨(by dsimp only;rw[aD];rfl),(by rw[hi];exact wrs (by omega) (by omega))⟩,rfl⟩
    dsimp only;rw[Zf9 U,I,rngB_t.2 R];rfl
   ·refine⟨⟨x.L,k+1,0,y.length-(k+1)⟩,⟨k+1,rfl,a1,?_,rfl⟩,(by dsimp only;omega),⟨rfl,(by rw[hi];exact wrs (by omega) (by omega))⟩,rfl⟩
    dsimp only;rw[Zf9 U,I,Ybd R];exact(dE _).symm
  ·rw[bm (by omega)] at I
   rw[<-I];generalize x.L=M at*;refine aA (λh=>(Zrh (by omega)).symm) (λh=> ?_);refine⟨λx=>x.L=M/\∃k:Nat,x.i=k/\1<=k/\k<=M.length/\Wx M=M.take (k-1)++Wx (M.drop (k-1))/\x.r=M.length-k,⟨⟨M,1,0,M.length-1⟩,⟨rfl,1,rfl,aw _,by omega,rfl,rfl⟩,rfl,rfl⟩,?_⟩;rintro x ⟨b5,k,hi,a1,b8,hc,hr⟩;have b7:M.length<=8:=b1;have t1:x.i.toNat=k:=by rw[hi,bx]
   have w1:wr .i64 (x.i-1)=((k-1:Nat):Int):=by rw[hi,wrs (by omega) (by omega)];omega
   have t2:(((k-1:Nat):Int)).toNat=k-1:=bx _;rw[b5,w1,t1,t2];refine aA (λh=> ?_) (λh=> ?_)
   ·have b0:k<M.length:=by omega
    refine⟨⟨by omega,by omega⟩,by omega,λb hb=>⟨⟨by omega,by omega⟩,by omega,λa ha=>aA (λa5=>⟨⟨by omega,by omega⟩,aA (λ_=> ?_) (λJ=>absurd h J)⟩) (λa5=> ?_)⟩⟩
    ·--an equal one is there:c1 is b6 it c0
     have a3:M.drop (k-1)=a::M.drop k:=by have:=Z0 ha;rwa[show k-1+1=k by omega] at this
     have a0:M.drop k=b::M.drop (k+1):=Z0 hb;have a7:Wx M=M.take k++(Wx (M.drop k)).tail:=by
      have hh:Wx (M.drop k)=a::(Wx (M.drop k)).tail:=by
       conv=>lhs;rw[a0]
       rw[Zex,a0,a5]
      rw[hc,a3,show Wx (a::M.drop k)=Wx (M.drop k) by rw[a0,a5];exact Zt8,hh];rw[show M.take k=M.take (k-1)++ [a] by have:=cz (l:=M) (i:=k-1);rw[ha,show k-1+1=k by omega] at this;exact this];simp
     refine⟨λz=>∃k2 q:Nat,z.j=k2/\1<=k2/\k+k2<=M.length/\z.i=q/\k<=q/\q+1<=k+k2/\z.L.length=M.length/\z.L.drop (k+k2-1)=M.drop (k+k2-1)/\Wx M=z.L.take q++(Wx (M.drop (k+k2-1))).tail/\z.r=M.length-(k+k2),⟨⟨M,k,1,M.length-(k+1)⟩,⟨1,k,rfl,aw _,b0,rfl,aw _,aw _,rfl,rfl,a7,rfl⟩,⟨hi,rfl⟩,rfl⟩,?_⟩;rintro z ⟨k2,q,zj,z1,z2,zi,z3,z4,z5,z6,z7,zr⟩;have s1:z.j.toNat=k2:=by rw[zj,bx]
     have s2:z.i.toNat=q:=by rw[zi,bx]
     have w2:wr .i64 (z.j-1)=((k2-1:Nat):Int):=by rw[zj,wrs (by omega) (by omega)];omega
     have s3:(((k2-1:Nat):Int)).toNat=k2-1:=bx _;rw[w2,s1,s2,s3];refine aA (λg=> ?_) (λg=> ?_)
     ·have g':k+k2<M.length:=by omega
      refine⟨⟨by omega,by omega⟩,by omega,λv hv=>⟨⟨by omega,by omega⟩,by omega,λu hu=> ?_⟩⟩;have b4:M[k+k2]? =ae v:=by rw[<-Z04 z6 (by omega)];exact hv
      have b3:M[k+k2-1]? =ae u:=by rw[<-Z04 z6 (aw _)];rw[show k+k2-1=k+(k2-1) by omega];exact hu
      have e1:M.drop (k+k2-1)=u::M.drop (k+k2):=by have:=Z0 b3;rwa[show k+k2-1+1=k+k2 by omega] at this
      have e2:M.drop (k+k2)=v::M.drop (k+k2+1):=Z0 b4;have e3:k+(k2+1)-1=k+k2:=by omega
      refine aA (λb2=>⟨⟨by omega,by omega⟩,by omega,λv2 a6=>⟨⟨by omega,by omega⟩,by omega,λ_ _=> ?_⟩⟩) (λheq=> ?_)
      ·rw[hv] at a6;cases a6
       refine⟨⟨z.L.set q v,q+1,k2+1,M.length-(k+(k2+1))⟩,⟨k2+1,q+1,rfl,by omega,by omega,rfl,by omega,by omega,(by dsimp only;rw[List.length_set];exact z5),?_,?_,rfl⟩,(by dsimp only;omega),⟨(by rw[zi];exact wrs (by omega) (by omega)),(by rw[zj];exact wrs (by omega) (by omega))⟩,rfl⟩
       ·dsimp only
        rw[e3,List.drop_set_of_lt (by omega)];exact Zn9 z6 (by omega)
       ·dsimp only
        have hq:q<z.L.length:=by omega
        rw[e3,z7,e1,e2,Zt9 λh=>b2 h.symm,kb,cz,List.getElem?_set_self hq,List.take_set_of_le (aw _)];rw[Zex v,kb,List.append_assoc];rfl
      ·refine⟨⟨z.L,q,k2+1,M.length-(k+(k2+1))⟩,⟨k2+1,q,rfl,by omega,by omega,rfl,z3,by omega,z5,?_,?_,rfl⟩,(by dsimp only;omega),⟨zi,(by rw[zj];exact wrs (by omega) (by omega))⟩,rfl⟩
       ·dsimp only
        rw[e3];exact Zn9 z6 (by omega)
       ·dsimp only
        rw[e3,z7,e1,e2,heq,Zt8]
     ·have a8:M.drop (k+k2-1)= [M[k+k2-1]'(by omega)]:=by
       have:=Z0 (aj (show k+k2-1<M.length by omega));rw[this,bK (by omega)]
      rw[a8] at z7;have z8:Wx M=z.L.take q:=by rw[z7];exact dE _
      refine⟨⟨by omega,by omega⟩,aA (λ_=>⟨by omega,⟨by omega,by omega⟩,by rw[bk];omega,?_⟩) (λg2=>by omega)⟩;rw[List.take_take,Nat.min_self,z8]
    ·refine⟨⟨M,k+1,0,M.length-(k+1)⟩,⟨rfl,k+1,rfl,by omega,by omega,?_,rfl⟩,(by dsimp only;omega),(by rw[hi];exact wrs (by omega) (by omega)),rfl⟩
     have a3:M.drop (k-1)=a::M.drop k:=by have:=Z0 ha;rwa[show k-1+1=k by omega] at this
     have a0:M.drop k=b::M.drop (k+1):=Z0 hb;rw[hc,a3,a0,Zt9 λh=>a5 h.symm,<-a0,Nat.add_sub_cancel];rw[show M.take k=M.take (k-1)++ [a] by have:=cz (l:=M) (i:=k-1);rw[ha,show k-1+1=k by omega] at this;exact this];simp
   ·have hk:k=M.length:=by omega
    have a3:M.drop (k-1)= [M[k-1]'(by omega)]:=by
     have:=Z0 (aj (show k-1<M.length by omega));rw[this,bK (by omega)]
    refine⟨aw _,?_⟩;rw[aW];refine(hc.trans ?_).symm;rw[show Wx (M.drop (k-1))=M.drop (k-1) by rw[a3];rfl,List.take_append_drop]
end
section
open Go
open Classical in
noncomputable def eqE{α:Type} (a b:α):Bool:=decide (a=b)
theorem eqE_iff{α:Type} {a b:α}:eqE a b=ac↔a=b:=by unfold eqE;simp
theorem eqE_no{α:Type} {a b:α}:eqE a b=ab↔a≠b:=by unfold eqE;simp
theorem Zl2{α:Type} (a:α):eqE a a=true:=eqE_iff.2 rfl
noncomputable def dEx2:DcL E (Ex×Ex×Unit):= .cons (dR .exprs) (.cons (dR .exprs) .nil)
noncomputable def Yc9(m:Nat):Sum thy:=sumP dEx2 (λx=>x.1.sz<m) λx=> .bool ab (eqE x.1 x.2.1)
noncomputable def Asx:Fr thy->Hp thy->Nat->Ann thy:=λT h i=>{X:=LX,fr:=λx=> [(2,T 2),(3,T 3),(5,.int ab .i64 x.k)],bl:=λx=>blkP h (T 2)++blkP h (T 3),src:=λ_=> [],md:= [],ih:=i,M:=i+30,meas:=λx=>x.r}
noncomputable def Fsx(m:Nat):Fns thy:=addL (addS F0 85 (Yc9 m)) 85 4 Asx E
abbrev qDR1(I:Ex):=(aJ I=aJ I/\bX I=bX I/\bC I=bC I/\bD I=bD I/\bE I=bE I/\bF I=bF I/\(bw I=bw I/\(ab=ac->ab=ac))/\True)
abbrev qDR2(I:Ex):=(Ex.mk (aJ I) (bX I) (bC I) (bD I) (bE I) (bF I) (bw I))
abbrev qDR3(I:Ex):=(↑(aa (bw I)):Int)
abbrev qDR4(I:LX):=(↑(LX.k I):Int)
abbrev qDR5(I:Ex) (J:Ex):=(!(bC I==bC J&&(bD I==bD J&&(bE I==bE J&&(bF I==bF J&&ac)))))
theorem Yda(m:Nat) (x y:Ex) (v:Bool):Zj E F0 (vc E (Fsx m) 400) 85 [exA x,exA y] hp0 0 (λr=>ret E (patch hp0 0 r) r.v (.bool ab v))=(
 ∃(Q:Bool->Prop),(((aJ x !=aJ y)=ac->Q ac)/\((aJ x !=aJ y)=ab->((bX x !=bX y)=ac->Q ac)/\((bX x !=bX y)=ab->((qDR5 x y)=ac->Q ac)/\((qDR5 x y)=ab->(((qDR3 x) !=(qDR3 y))=ac->Q ac)/\(((qDR3 x) !=(qDR3 y))=ab->Q ab)))))/\(Q ac->ab=v)/\(Q ab->∃(R:LX->Prop),(∃(I:LX),R I/\ac=ac/\((0:Nat)=(0:Nat)/\(0:Nat)=(0:Nat)/\(0:Int)=(qDR4 I)/\True)/\(qDR1 x)/\(qDR1 y)/\True)/\∀(I:LX),R I->(decide ((qDR4 I)<(qDR3 x))=ac->(0:Int)<=(qDR4 I)/\(qDR4 I)+(1:Int)<=(qDR3 x)/\∀(J:Ex),(bw x)[ag (qDR4 I)]? =ae J->(0:Int)<=(qDR4 I)/\(qDR4 I)+(1:Int)<=(qDR3 y)/\∀(U:Ex),(bw y)[ag (qDR4 I)]? =ae U->Ex.sz (qDR2 J)+(1:Nat)<=m/\((!eqE (qDR2 J) (qDR2 U))=ac->ab=v)/\((!eqE (qDR2 J) (qDR2 U))=ab->∃(a0:LX),R a0/\a0.2+(1:Nat)<=I.2/\ac=ac/\((0:Nat)=(0:Nat)/\(0:Nat)=(0:Nat)/\wr af ((qDR4 I)+(1:Int))=(qDR4 a0)/\True)/\(qDR1 x)/\(qDR1 y)/\True))/\(decide ((qDR4 I)<(qDR3 x))=ab->ac=v))):=by kernel_rfl
noncomputable def dCl2:DcL E (Cls×Cls×Unit):= .cons (dR .clauses) (.cons (dR .clauses) .nil)
noncomputable def Seqc:Sum thy:=sumP dCl2 (λx=>x.1.pay.sz<1000000000/\x.1.when_.length<1000000000) λx=> .bool ab (eqE x.1 x.2.1)
noncomputable def Fsc:Fns thy:=addL (addS F0 85 (Yc9 1000000000)) 42 4 Asx E
abbrev qDRb(I:Cls):=(aC I)
abbrev qDR6(I:Cls):=(aP I=aP I/\(aX I=aX I/\(ab=ac->ab=ac))/\aJ (qDRb I)=aJ (qDRb I)/\bX (qDRb I)=bX (qDRb I)/\bC (qDRb I)=bC (qDRb I)/\bD (qDRb I)=bD (qDRb I)/\bE (qDRb I)=bE (qDRb I)/\bF (qDRb I)=bF (qDRb I)/\(bw (qDRb I)=bw (qDRb I)/\(ab=ac->ab=ac))/\True)
abbrev qDR7(I:Cls):=(Ex.mk (aJ (qDRb I)) (bX (qDRb I)) (bC (qDRb I)) (bD (qDRb I)) (bE (qDRb I)) (bF (qDRb I)) (bw (qDRb I)))
abbrev qDR8(I:Cls):=(↑(aa (aX I)):Int)
abbrev qDR9(I:LX):=(↑(LX.k I):Int)
abbrev qDRa(I:Tst) (J:Tst):=(!(Tst.attr I==Tst.attr J&&(Tst.low I==Tst.low J&&(Tst.high I==Tst.high J&&ac))))
theorem Ydb(x y:Cls) (v:Bool):Zj E Fsc (vc E Fsc 400) 42 [.agg (encF ab .clauses x),.agg (encF ab .clauses y)] hp0 0 (λr=>ret E (patch hp0 0 r) r.v (.bool ab v))=(
 ∃(Q:Bool->Prop),(((!aP x==aP y)=ac->Q ac)/\((!aP x==aP y)=ab->(((qDR8 x) !=(qDR8 y))=ac->Q ac)/\(((qDR8 x) !=(qDR8 y))=ab->Q ab)))/\(Q ac->ab=v)/\(Q ab->∃(R:LX->Prop),(∃(I:LX),R I/\ac=ac/\((0:Nat)=(0:Nat)/\(0:Nat)=(0:Nat)/\(0:Int)=(qDR9 I)/\True)/\(qDR6 x)/\(qDR6 y)/\True)/\∀(I:LX),R I->(decide ((qDR9 I)<(qDR8 x))=ac->(0:Int)<=(qDR9 I)/\(qDR9 I)+(1:Int)<=(qDR8 x)/\∀(J:Tst),(aX x)[ag (qDR9 I)]? =ae J->(0:Int)<=(qDR9 I)/\(qDR9 I)+(1:Int)<=(qDR8 y)/\∀(U:Tst),(aX y)[ag (qDR9 I)]? =ae U->((qDRa J U)=ac->ab=v)/\((qDRa J U)=ab->∃(a0:LX),R a0/\a0.2+(1:Nat)<=I.2/\ac=ac/\((0:Nat)=(0:Nat)/\(0:Nat)=(0:Nat)/\wr af ((qDR9 I)+(1:Int))=(qDR9 a0)/\True)/\(qDR6 x)/\(qDR6 y)/\True))/\(decide ((qDR9 I)<(qDR8 x))=ab->Ex.sz (qDR7 x)+(1:Nat)<=(1000000000:Nat)/\eqE (qDR7 x) (qDR7 y)=v))):=by kernel_rfl
noncomputable def Fss:Fns thy:=addL (addS F0 42 Seqc) 16 4 Asx E
abbrev qDRc(I:Cls):=(Ex.mk (aJ (aC I)) (bX (aC I)) (bC (aC I)) (bD (aC I)) (bE (aC I)) (bF (aC I)) (bw (aC I)))
abbrev qDRd(I:Tar):=(bN I=bN I/\bB I=bB I/\(au I=au I/\(ab=ac->ab=ac))/\True)
abbrev qDRe(I:Tar):=(↑(aa (au I)):Int)
abbrev qDRf(I:Cls):=(Cls.mk (aP I) (aX I) (qDRc I))
abbrev qDRg(I:LX):=(↑(LX.k I):Int)
theorem Ydc(x y:Tar) (v:Bool):Zj E Fss (vc E Fss 400) 16 [.agg (encF ab .tariffs x),.agg (encF ab .tariffs y)] hp0 0 (λr=>ret E (patch hp0 0 r) r.v (.bool ab v))=(
 ∃(Q:Bool->Prop),(((!bN x==bN y)=ac->Q ac)/\((!bN x==bN y)=ab->((bB x !=bB y)=ac->Q ac)/\((bB x !=bB y)=ab->(((qDRe x) !=(qDRe y))=ac->Q ac)/\(((qDRe x) !=(qDRe y))=ab->Q ab))))/\(Q ac->ab=v)/\(Q ab->∃(R:LX->Prop),(∃(I:LX),R I/\ac=ac/\((0:Nat)=(0:Nat)/\(0:Nat)=(0:Nat)/\(0:Int)=(qDRg I)/\True)/\(qDRd x)/\(qDRd y)/\True)/\∀(I:LX),R I->(decide ((qDRg I)<(qDRe x))=ac->(0:Int)<=(qDRg I)/\(qDRg I)+(1:Int)<=(qDRe x)/\∀(J:Cls),(au x)[ag (qDRg I)]? =ae J->(0:Int)<=(qDRg I)/\(qDRg I)+(1:Int)<=(qDRe y)/\∀(U:Cls),(au y)[ag (qDRg I)]? =ae U->(Ex.sz (qDRc J)+(1:Nat)<=(1000000000:Nat)/\aa (aX J)+(1:Nat)<=(1000000000:Nat))/\((!eqE (qDRf J) (qDRf U))=ac->ab=v)/\((!eqE (qDRf J) (qDRf U))=ab->∃(a0:LX),R a0/\a0.2+(1:Nat)<=I.2/\ac=ac/\((0:Nat)=(0:Nat)/\(0:Nat)=(0:Nat)/\wr af ((qDRg I)+(1:Int))=(qDRg a0)/\True)/\(qDRd x)/\(qDRd y)/\True))/\(decide ((qDRg I)<(qDRe x))=ab->ac=v))):=by kernel_rfl
theorem Yhz{x y:Ex} (I:x.op=y.op) (J:x.n=y.n) (R:x.d0=y.d0) (U:x.d1=y.d1) (h5:x.d2=y.d2) (h6:x.d3=y.d3) (h7:x.l=y.l):x=y:=by
 cases x;cases y;simp only[aJ,bX,bC,bD,bE,bF,bw] at*;subst I J R U h5 h6 h7;rfl
theorem Z1p{α:Type} {l m:List α} {k:Nat} {a b:α} (I:l[k]? =ae a) (J:m[k]? =ae b) (h:l.take k=m.take k) (e:a=b):l.take (k+1)=m.take (k+1):=by
 rw[cz,cz,I,J,h,e]
theorem Z1q{α:Type} {l m:List α} {k:Nat} (I:l.length<=k) (J:l.length=m.length) (h:l.take k=m.take k):l=m:=by
 rwa[bm I,bm (by omega)] at h
theorem Yh0{α:Type} {l m:List α} {k:Nat} {a b:α} (J:l[k]? =ae a) (I:m[k]? =ae b) (e:a≠b):l≠m:=by
 rintro rfl;rw[J] at I;cases I;exact e rfl
theorem Zr1{α:Type} {l m:List α} {V:Bool} {G:Prop} {B:α->Prop} (hl:l.length=m.length) (hb:l.length<=1000000000) (hB:∀a∈l,B a) (hT:l=m->G) (hF:l≠m->ab=V):
 ∃R:LX->Prop,(∃I:LX,R I/\(0:Int)=(I.k:Int))/\∀I:LX,R I->(((I.k:Int)<(l.length:Int))->(0:Int)<=(I.k:Int)/\(I.k:Int)+1<=(l.length:Int)/\∀a,l[ag (I.k:Int)]? =ae a->(0:Int)<=(I.k:Int)/\(I.k:Int)+1<=(m.length:Int)/\∀b,m[ag (I.k:Int)]? =ae b->B a/\(¬a=b->ab=V)/\(a=b->∃a0:LX,R a0/\a0.r+1<=I.r/\wr af ((I.k:Int)+1)=(a0.k:Int)))/\(¬(I.k:Int)<(l.length:Int)->G):=by
 refine⟨λy=>y.k<=l.length/\l.take y.k=m.take y.k/\y.r=l.length-y.k,⟨⟨0,l.length,[],0⟩,⟨(by dsimp only;omega),rfl,rfl⟩,rfl⟩,?_⟩
 rintro⟨k,r,D,q⟩ ⟨h1,J,h3⟩
 simp only at h1 J h3⊢
 refine aA (λhk=>⟨by omega,by omega,λa U=>⟨by omega,by omega,λb a1=>⟨hB a (aI U),λe=>hF (Yh0 U a1 e),λe=> ?_⟩⟩⟩) (λhk=>hT (Z1q (by omega) hl J))
 exact⟨⟨k+1,l.length-(k+1),[],0⟩,⟨(by dsimp only;omega),Z1p U a1 J e,rfl⟩,(by dsimp only;omega),(wr64 (by omega) (by omega)).trans (by dsimp only;omega)⟩
theorem Z7y{l m:List Tst} {V:Bool} {G:Prop} (hl:l.length=m.length) (J:l.length<=1000000000) (hT:l=m->G) (hF:l≠m->ab=V):
 ∃R:LX->Prop,(∃I:LX,R I/\(0:Int)=(I.k:Int))/\∀I:LX,R I->(((I.k:Int)<(l.length:Int))->(0:Int)<=(I.k:Int)/\(I.k:Int)+1<=(l.length:Int)/\∀a,l[ag (I.k:Int)]? =ae a->(0:Int)<=(I.k:Int)/\(I.k:Int)+1<=(m.length:Int)/\∀b,m[ag (I.k:Int)]? =ae b->(¬a.attr=b.attr\/¬a.low=b.low\/¬a.high=b.high->ab=V)/\(a=b->∃U:LX,R U/\U.r+1<=I.r/\wr af ((I.k:Int)+1)=(U.k:Int)))/\(¬(I.k:Int)<(l.length:Int)->G):=by
 obtain⟨R,h1,h2⟩:=Zr1 (B:=λ_=>True) hl J (λ_ _=>trivial) hT hF
 refine⟨R,h1,λI hx=>aA (λhk=> ?_) (h2 I hx).2⟩
 obtain⟨a1,a2,a3⟩:=(h2 I hx).1 hk
 refine⟨a1,a2,λa ha=> ?_⟩
 obtain⟨b1,b2,a0⟩:=a3 a ha
 refine⟨b1,b2,λb J=>⟨λe=>(a0 b J).2.1 (by rintro rfl;simp at e),(a0 b J).2.2⟩⟩
theorem Yh1:∀(m:Nat),m<=1000000000->∀(x y:Ex),x.sz<m->PureC E 85 [exA x,exA y] (.bool ab (eqE x y)):=by
 intro m
 induction m with
 |zero=>intro _ x y h;omega
 |succ m ih=>
  intro hb x y hm;have hF:FnsOk E (Fsx m):=Zm E_ok (Zb F0_ok (Yd E_ok (Zc (f:=85) rfl) λx h=>ih (by omega) x.1 x.2.1 h)) _ _ _;refine Za E_ok (Xj E_ok F0_ok λf N c=>(Zf4 E_ok hF 400 f N c).1) ?_;rw[Yda];delta qDR1 qDR2 qDR3 qDR4 qDR5;have a1:=x.sz_eq;have a0:=Ex.szL_len x.l
  simp only[Ye,Z5,Xz,X0,X1,beq_iff_eq,bne_iff_ne,beq_eq_false_iff_ne,bne_eq_false_iff_eq,decide_eq_true_eq,decide_eq_false_iff_not,be,bA,bh,bY,aq,cx,cm,bd,beq_self_eq_true,Yi,Yf,ne_eq,and_true,true_and,aO,aK,false_or,or_false,true_implies,imp_self,bL,not_true_eq_false,not_false_eq_true,bp,Ex.eta,eqE_iff,eqE_no];have no:x≠y->ab=eqE x y:=λh=>(eqE_no.2 h).symm
  by_cases U:x.op=y.op/\x.n=y.n/\(x.d0=y.d0/\x.d1=y.d1/\x.d2=y.d2/\x.d3=y.d3)/\x.l.length=y.l.length
  ·obtain⟨J,R,I,h4⟩:=U
   refine⟨λb=>b=ab,⟨λh=>absurd J h,λ_=>⟨λh=>absurd R h,λ_=>⟨λh=>absurd I (by rintro⟨a,b,c,d⟩;rcases h with h|h|h|h<;>exact h (by assumption)),λ_=>⟨λh=>absurd h4 (by omega),λ_=>rfl⟩⟩⟩⟩,λh=>by simp at h,λ_=> ?_⟩
   exact Zr1 (B:=λa=>a.sz+1<=m) (by omega) (by omega) (λa ha=>by have:=Ex.szL_mem ha;omega) (λe=>(eqE_iff.2 (Yhz J R I.1 I.2.1 I.2.2.1 I.2.2.2 e)).symm) (λh=>no λe=>h (by rw[e]))
  ·refine⟨λb=>b=ac,⟨λ_=>rfl,λJ=>⟨λ_=>rfl,λR=>⟨λ_=>rfl,λI=>⟨λ_=>rfl,λh4=>absurd ⟨J,R,I,by omega⟩ U⟩⟩⟩⟩,λ_=>no λe=>U (by rw[e];simp),λh=>by simp at h⟩
theorem Yh2:SumOk E 85 (Yc9 1000000000):=Yd E_ok (Zc (f:=85) rfl) λx h=>Yh1 1000000000 (aw _) x.1 x.2.1 h
theorem Ydd{x y:Cls} (I:x.name=y.name) (J:x.when_=y.when_) (R:x.pay=y.pay):x=y:=by
 cases x;cases y;simp only at*;subst I J R;rfl
theorem Yde{x y:Tar} (I:x.name=y.name) (J:x.for_=y.for_) (R:x.clauses=y.clauses):x=y:=by
 cases x;cases y;simp only at*;subst I J R;rfl
theorem Ydf{x y:Tst}:(x.attr=y.attr/\x.low=y.low/\x.high=y.high)↔x=y:=by
 cases x;cases y;simp
def SmC(c:Cls):Prop:=c.pay.sz<1000000000/\c.when_.length<1000000000
theorem Ydg(x y:Cls) (h:SmC x):PureC E 42 [.agg (encF ab .clauses x),.agg (encF ab .clauses y)] (.bool ab (eqE x y)):=by
 have hF:FnsOk E Fsc:=Zm E_ok (Zb F0_ok Yh2) _ _ _;refine Za E_ok (Zd E_ok hF 400) ?_;rw[Ydb];delta qDRb qDR6 qDR7 qDR8 qDR9 qDRa;obtain⟨hz,hw⟩:=h
 simp only[Ye,Z5,Xz,X0,X1,beq_iff_eq,bne_iff_ne,beq_eq_false_iff_ne,bne_eq_false_iff_eq,decide_eq_true_eq,decide_eq_false_iff_not,be,bA,bh,bY,aq,cx,cm,bd,beq_self_eq_true,Yi,Yf,ne_eq,and_true,true_and,aO,aK,false_or,or_false,true_implies,imp_self,bL,not_true_eq_false,not_false_eq_true,bp,Ex.eta,eqE_iff,eqE_no,Ydf];have no:x≠y->ab=eqE x y:=λh=>(eqE_no.2 h).symm
 by_cases R:x.name=y.name/\x.when_.length=y.when_.length
 ·obtain⟨I,U⟩:=R
  refine⟨λb=>b=ab,⟨λh=>absurd I h,λ_=>⟨λh=>absurd U (by omega),λ_=>rfl⟩⟩,λh=>by simp at h,λ_=> ?_⟩
  exact Z7y (by omega) (by omega) (λe=>⟨by omega,by
   by_cases J:x.pay=y.pay
   ·rw[eqE_iff.2 J,eqE_iff.2 (Ydd I e J)]
   ·rw[eqE_no.2 J,eqE_no.2 λh=>J (by rw[h])]⟩) (λh=>no λe=>h (by rw[e]))
 ·exact⟨λb=>b=ac,⟨λ_=>rfl,λI=>⟨λ_=>rfl,λU=>absurd ⟨I,by omega⟩ R⟩⟩,λ_=>no λe=>R (by rw[e];simp),λh=>by simp at h⟩
theorem Yh3:SumOk E 42 Seqc:=Yd E_ok (Zc (f:=42) rfl) λx h=>Ydg x.1 x.2.1 h
def SmT1(t:Tar):Prop:=(∀c∈t.clauses,SmC c)/\t.clauses.length<1000000000
theorem Ydh(x y:Tar) (h:SmT1 x):PureC E 16 [.agg (encF ab .tariffs x),.agg (encF ab .tariffs y)] (.bool ab (eqE x y)):=by
 have hF:FnsOk E Fss:=Zm E_ok (Zb F0_ok Yh3) _ _ _;refine Za E_ok (Zd E_ok hF 400) ?_;rw[Ydc];delta qDRc qDRd qDRe qDRf qDRg;obtain⟨hz,hw⟩:=h
 simp only[Ye,Z5,Xz,X0,X1,beq_iff_eq,bne_iff_ne,beq_eq_false_iff_ne,bne_eq_false_iff_eq,decide_eq_true_eq,decide_eq_false_iff_not,be,bA,bh,bY,aq,cx,cm,bd,beq_self_eq_true,Yi,Yf,ne_eq,and_true,true_and,aO,aK,false_or,or_false,true_implies,imp_self,bL,not_true_eq_false,not_false_eq_true,bp,Ex.eta,Cls.eta,eqE_iff,eqE_no];have no:x≠y->ab=eqE x y:=λh=>(eqE_no.2 h).symm
 by_cases R:x.name=y.name/\x.for_=y.for_/\x.clauses.length=y.clauses.length
 ·obtain⟨I,J,U⟩:=R
  refine⟨λb=>b=ab,⟨λh=>absurd I h,λ_=>⟨λh=>absurd J h,λ_=>⟨λh=>absurd U (by omega),λ_=>rfl⟩⟩⟩,λh=>by simp at h,λ_=> ?_⟩;exact Zr1 (B:=SmC) (by omega) (by omega) hz (λe=>(eqE_iff.2 (Yde I J e)).symm) (λh=>no λe=>h (by rw[e]))
 ·exact⟨λb=>b=ac,⟨λ_=>rfl,λI=>⟨λ_=>rfl,λJ=>⟨λ_=>rfl,λU=>absurd ⟨I,J,by omega⟩ R⟩⟩⟩,λ_=>no λe=>R (by rw[e];simp),λh=>by simp at h⟩
end
section
open Go
def Ars:Fr thy->Hp thy->Nat->Ann thy:=λT h i=>{X:=LX,fr:=λx=> [(0,T 0),(1,T 1),(5,.int ab .i64 x.k)],bl:=λ_=> [],src:=λ_=> [],md:= [],ih:=i,M:=i+30,meas:=λx=>x.r}
noncomputable def Frs:Fns thy:=addL F0 17 4 Ars E
theorem Yin:FnsOk E Frs:=Zm E_ok F0_ok _ _ _
theorem Zx0(a b:List Ins) (v:Bool):Zj E Frs (vc E Frs 400) 17 [.psl .ins a ab,.psl .ins b ab] hp0 0 (λr=>ret E (patch hp0 0 r) r.v (.bool ab v))=(
(((↑(aa a):Int) !=(↑(aa b):Int))=ac->ab=v)/\(((↑(aa a):Int) !=(↑(aa b):Int))=ab->∃(R:LX->Prop),(∃(x:LX),R x/\ac=ac/\((a=a/\(ab=ac->ab=ac))/\(b=b/\(ab=ac->ab=ac))/\(0:Int)=(↑(LX.k x):Int)/\True)/\True)/\∀(x:LX),R x->(decide ((↑(LX.k x):Int)<(↑(aa a):Int))=ac->(0:Int)<=(↑(LX.k x):Int)/\(↑(LX.k x):Int)+(1:Int)<=(↑(aa a):Int)/\∀(I:Ins),a[ag (↑(LX.k x):Int)]? =ae I->(0:Int)<=(↑(LX.k x):Int)/\(↑(LX.k x):Int)+(1:Int)<=(↑(aa b):Int)/\∀(J:Ins),b[ag (↑(LX.k x):Int)]? =ae J->((!(Ins.op I==Ins.op J&&(Ins.n I==Ins.n J&&(Ins.m I==Ins.m J&&ac))))=ac->ab=v)/\((!(Ins.op I==Ins.op J&&(Ins.n I==Ins.n J&&(Ins.m I==Ins.m J&&ac))))=ab->∃(U:LX),R U/\U.2+(1:Nat)<=x.2/\ac=ac/\((a=a/\(ab=ac->ab=ac))/\(b=b/\(ab=ac->ab=ac))/\wr af ((↑(LX.k x):Int)+(1:Int))=(↑(LX.k U):Int)/\True)/\True))/\(decide ((↑(LX.k x):Int)<(↑(aa a):Int))=ab->ac=v))):=by kernel_rfl
open Classical in
noncomputable def Zpa(a b:List Ins):Bool:=decide (a=b)
theorem Z2r{a b:List Ins} (h:a=b):ac=Zpa a b:=by unfold Zpa;simp[h]
theorem Z2s{a b:List Ins} (h:a≠b):ab=Zpa a b:=by unfold Zpa;simp[h]
theorem Zx1(a b:List Ins) (h:a.length<=1000000000):PureC E 17 [.psl .ins a ab,.psl .ins b ab] (.bool ab (Zpa a b)):=by
 refine Za E_ok (Zd E_ok Yin 400) ?_;rw[Zx0];refine⟨λq=> ?_,λq=> ?_⟩
 ·exact Z2s λe=>by rw[e] at q;simp at q
 ·have q:(↑a.length:Int)=↑b.length:=by simpa using q
  refine⟨λx=>x.k<=a.length/\x.r=a.length-x.k/\∀j,j<x.k->a[j]? =b[j]?,⟨⟨0,a.length,[],0⟩,⟨bb _,rfl,λj R=>absurd R (kc _)⟩,by simp⟩,?_⟩;rintro⟨k,r,D,m⟩ ⟨k1,k2,U⟩;simp only at k1 k2 U⊢;refine⟨λg=> ?_,λg=> ?_⟩
  ·have g:=of_decide_eq_true g
   refine⟨by omega,by omega,λx I=>⟨by omega,by omega,λy J=>⟨λn=> ?_,λn=> ?_⟩⟩⟩
   ·have I:a[k]? =ae x:=I
    have J:b[k]? =ae y:=J;refine Z2s λe=> ?_;rw[e,J] at I;cases I;simp at n
   ·have I:a[k]? =ae x:=I
    have J:b[k]? =ae y:=J;have e:x=y:=by
     obtain⟨a1,a2,a3⟩:=x;obtain⟨b1,b2,b3⟩:=y;simp only[bY,aq,beq_iff_eq,cx] at n;obtain⟨rfl,rfl,rfl⟩:=n;rfl
    have w1:wr .i64 ((↑k:Int)+1)=↑(k+1):=(wr64 (by omega) (by omega)).trans (by omega);refine⟨⟨k+1,a.length-(k+1),[],0⟩,⟨by dsimp only;omega,rfl,λj R=> ?_⟩,(by show a.length-(k+1)+1<=r;omega),by simp[w1]⟩;have R:j<k+1:=R;by_cases c:j=k
    ·rw[c,I,J,e]
    ·exact U j (by omega)
  ·have g:=of_decide_eq_false g
   refine Z2r (hJ λj=> ?_);by_cases c:j<k
   ·exact U j c
   ·rw[dx (by omega),dx (by omega)]
end
section
open Go
noncomputable def dLre:Dc E (List Rep):=(Zcv (E:=E) cD:Dc E (List (thy.dom cD)))
noncomputable def SinF:Sum thy:=Zce E (λ_=>ar) 10 dInE (λx=>x.1.length<=8) (λx=>inF x.1 x.2.1 x.2.2.1 x.2.2.2.1) λy=> .tup [tarE y.1,.int ab .i64 y.2]
theorem Zmx:SumOk E 12 SinF:=Y9 E_ok (Zc (f:=12) rfl) λx h=>Z85 x.1 x.2.1 x.2.2.1 x.2.2.2.1 h
noncomputable def SchF:Sum thy:=Zce E (λ_=>ar) 10 (.cons dLre (.cons dN (.cons dN .nil))) (λx=>x.1.length<=8) (λx=>chgF x.1 x.2.1 x.2.2.1) λy=> .psl fN y ab
theorem Z3u:SumOk E 19 SchF:=Y9 E_ok (Zc (f:=19) rfl) λx h=>Z7e x.1 x.2.1 x.2.2.1 h
noncomputable def FprE:Fns thy:=addS (addS F0 12 SinF) 25 ScpE
theorem Ye0:FnsOk E FprE:=Zb (Zb F0_ok Zmx) Zsr
theorem Z9f(l:List Rep) (J kd at_:Int) (c:List Ins) (e:Int):Zj E FprE (vc E FprE 400) 14 [.psl cD l ab,.int ab .i64 J,.int ab .i64 kd,.int ab .i64 at_] hp0 0 (λr=>ret E (patch hp0 0 r) r.v (.tup [.psl di c ab,.int ab .i64 e]))=(
aa l<=(8:Nat)/\∀(y:Tar×Int),y=inF l J kd at_->((aE y !=(0:Int))=ac->c= []/\aE y=e/\True)/\((aE y !=(0:Int))=ab->((∀(c:Cls),c∈au (ao y)->Ex.sz (aC c)<=(10000:Nat)/\aa (aX c)+(1:Nat)<=(1000000000:Nat))/\aa (au (ao y))+(1:Nat)<=(1000000000:Nat))/\∀(I:List Ins×Int),I=Z1 (ao y)->(ao I=c/\(ab=ac->ab=ac))/\aE I=e/\True)):=by kernel_rfl
structure FwX where
 k:Nat
 r:Nat
 n:Int
noncomputable def AfwE:Fr thy->Hp thy->Nat->Ann thy:=λT h i=>{X:=FwX,fr:=λx=> [(0,T 0),(3,.int ab .i64 x.n),(4,.int ab .i64 x.k)],bl:=λx=> [],src:=λ_=> [],md:= [],ih:=i,M:=i+40,meas:=λx=>x.r}
noncomputable def FfwE:Fns thy:=addL F0 11 5 AfwE E
theorem Ye1:FnsOk E FfwE:=Zm E_ok F0_ok _ _ _
theorem Z9g(l:List Rep) (v:Bool):Zj E FfwE (vc E FfwE 400) 11 [.psl cD l ab] hp0 0 (λr=>ret E (patch hp0 0 r) r.v (.bool ab v))=(
(decide ((↑(aa l):Int)>(8:Int))=ac->ab=v)/\(decide ((↑(aa l):Int)>(8:Int))=ab->∃(R:FwX->Prop),(∃(x:FwX),R x/\ac=ac/\((l=l/\(ab=ac->ab=ac))/\(0:Int)=FwX.n x/\(0:Int)=(↑(FwX.k x):Int)/\True)/\True)/\∀(x:FwX),R x->(decide ((↑(FwX.k x):Int)<(↑(aa l):Int))=ac->(0:Int)<=(↑(FwX.k x):Int)/\(↑(FwX.k x):Int)+(1:Int)<=(↑(aa l):Int)/\∀(J:Rep),l[ag (↑(FwX.k x):Int)]? =ae J->∃(I:FwX),R I/\I.2+(1:Nat)<=x.2/\ac=ac/\((l=l/\(ab=ac->ab=ac))/\wr af (FwX.n x+mm2 ab (↑(aa (ItD.text (Rep.item J))):Int) (4000:Int))=FwX.n I/\wr af ((↑(FwX.k x):Int)+(1:Int))=(↑(FwX.k I):Int)/\True)/\True)/\(decide ((↑(FwX.k x):Int)<(↑(aa l):Int))=ab->(decide (FwX.n x<=(3000:Int))=ac->ac=v)/\(decide (FwX.n x<=(3000:Int))=ab->ab=v)))):=by kernel_rfl
noncomputable def Asm7:Fr thy->Hp thy->Nat->Ann thy:=λT h i=>{X:=FwX,fr:=λx=> [(0,T 0),(1,T 1),(5,.int ab .i64 x.k)],bl:=λx=> [],src:=λ_=> [],md:= [],ih:=i,M:=i+30,meas:=λx=>x.r}
noncomputable def Fsm7:Fns thy:=addL F0 18 4 Asm7 E
theorem Ye2:FnsOk E Fsm7:=Zm E_ok F0_ok _ _ _
theorem Z9h(a b:List Int) (v:Bool):Zj E Fsm7 (vc E Fsm7 400) 18 [.psl .ints a ab,.psl .ints b ab] hp0 0 (λr=>ret E (patch hp0 0 r) r.v (.bool ab v))=(
(((↑(aa a):Int) !=(↑(aa b):Int))=ac->ab=v)/\(((↑(aa a):Int) !=(↑(aa b):Int))=ab->∃(R:FwX->Prop),(∃(x:FwX),R x/\ac=ac/\((a=a/\(ab=ac->ab=ac))/\(b=b/\(ab=ac->ab=ac))/\(0:Int)=(↑(FwX.k x):Int)/\True)/\True)/\∀(x:FwX),R x->(decide ((↑(FwX.k x):Int)<(↑(aa a):Int))=ac->(0:Int)<=(↑(FwX.k x):Int)/\(↑(FwX.k x):Int)+(1:Int)<=(↑(aa a):Int)/\∀(I:Int),a[ag (↑(FwX.k x):Int)]? =ae I->(0:Int)<=(↑(FwX.k x):Int)/\(↑(FwX.k x):Int)+(1:Int)<=(↑(aa b):Int)/\∀(J:Int),b[ag (↑(FwX.k x):Int)]? =ae J->((I !=J)=ac->ab=v)/\((I !=J)=ab->∃(U:FwX),R U/\U.2+(1:Nat)<=x.2/\ac=ac/\((a=a/\(ab=ac->ab=ac))/\(b=b/\(ab=ac->ab=ac))/\wr af ((↑(FwX.k x):Int)+(1:Int))=(↑(FwX.k U):Int)/\True)/\True))/\(decide ((↑(FwX.k x):Int)<(↑(aa a):Int))=ab->ac=v))):=by kernel_rfl
noncomputable def prgF(l:List Rep) (I kd at_:Int):List Ins×Int:=if(inF l I kd at_).2≠0 then([],(inF l I kd at_).2) else Z1 (inF l I kd at_).1
theorem Z9i(l:List Rep) (I kd at_:Int) (R:l.length<=8):PureC E 14 [.psl cD l ab,.int ab .i64 I,.int ab .i64 kd,.int ab .i64 at_] (.tup [.psl di (prgF l I kd at_).1 ab,.int ab .i64 (prgF l I kd at_).2]):=by
 refine Za E_ok (Zd E_ok Ye0 400) ?_;refine Eq.mpr (Z9f l I kd at_ (prgF l I kd at_).1 (prgF l I kd at_).2) ?_;simp only[true_and,and_true,imp_self,implies_true,bne_iff_ne,bne_eq_false_iff_eq];unfold prgF;refine⟨R,λy J=>aA (λh=> ?_) (λh=> ?_)⟩
 ·rw[<-J,if_pos h];exact⟨rfl,rfl⟩
 ·rw[<-J,if_neg (λx=>x h)]
  refine⟨?_,λz U=>by rw[U];exact⟨rfl,rfl⟩⟩;have:=(Zpu l I kd at_).1;rw[J];exact this
def txR(x:Rep):Int:=mm2 ab (x.item.text.length:Int) 4000
def fewE(l:List Rep):Bool:=decide (l.length<=8)&&decide ((l.map txR).sum<=3000)
theorem Ye3(x:Rep):0<=txR x/\txR x<=4000:=by
 unfold txR mm2;simp only;split<;>omega
theorem Z9j{l:List Rep} {k:Nat} {x:Rep} (h:l[k]? =ae x):((l.take (k+1)).map txR).sum=((l.take k).map txR).sum+txR x:=by
 rw[cz,h,fF,fD,List.sum_append];simp
theorem Z3v(l:List Rep):PureC E 11 [.psl cD l ab] (.bool ab (fewE l)):=by
 refine Za E_ok (Zd E_ok Ye1 400) ?_;rw[Z9g];simp only[bx,decide_eq_true_eq,decide_eq_false_iff_not,true_and,and_true,imp_self,implies_true];refine aA (λh=> ?_) (λh=> ?_)
 ·unfold fewE;rw[decide_eq_false (by omega)];rfl
 ·refine⟨λx=>x.k<=l.length/\x.n=((l.take x.k).map txR).sum/\0<=x.n/\x.n<=4000*x.k/\x.r=l.length-x.k,⟨⟨0,l.length,0⟩,⟨bb _,rfl,by simp,by simp,rfl⟩,rfl,rfl⟩,?_⟩
  rintro x ⟨hk,I,R,U,hr⟩;refine aA (λg=>⟨by omega,by omega,λw J=> ?_⟩) (λg=> ?_)
  ·have ht:=Ye3 w
   have e:mm2 ab (w.item.text.length:Int) 4000=txR w:=rfl;rw[e];exact⟨⟨x.k+1,l.length-(x.k+1),x.n+txR w⟩,⟨by dsimp only;omega,by dsimp only;rw[Z9j J,I],by dsimp only;omega,by dsimp only;omega,rfl⟩,by dsimp only;omega,wr64 (by omega) (by omega),wr64 (by omega) (by omega)⟩
  ·rw[bm (by omega)] at I
   refine aA (λq=> ?_) (λq=> ?_)
   ·unfold fewE;rw[decide_eq_true (by omega),decide_eq_true (by omega)];rfl
   ·unfold fewE;rw[decide_eq_true (show l.length<=8 by omega),decide_eq_false (by omega)];rfl
theorem Z9k{l:List Rep} (h:fewE l=ac):l.length<=8:=by
 unfold fewE at h;rw[aq] at h;exact of_decide_eq_true h.1
open Classical in
theorem Z9l(a b:List Int) (hl:a.length<=1000000):PureC E 18 [.psl .ints a ab,.psl .ints b ab] (.bool ab (decide (a=b))):=by
 refine Za E_ok (Zd E_ok Ye2 400) ?_;rw[Z9h];simp only[bx,decide_eq_true_eq,decide_eq_false_iff_not,true_and,and_true,imp_self,implies_true,bne_iff_ne,bne_eq_false_iff_eq];refine aA (λh=>(decide_eq_false λe=>h (by rw[e])).symm) (λh=> ?_);have a0:a.length=b.length:=by omega
 refine⟨λx=>x.k<=a.length/\(∀j,j<x.k->a[j]? =b[j]?)/\x.r=a.length-x.k,⟨⟨0,a.length,0⟩,⟨bb _,(λj I=>absurd I (kc _)),rfl⟩,rfl⟩,?_⟩;rintro x ⟨hk,U,hr⟩;refine aA (λg=>⟨by omega,by omega,λu J=>⟨by omega,by omega,λv R=>aA (λe=> ?_) (λe=> ?_)⟩⟩) (λg=> ?_)
 ·refine(decide_eq_false λe2=> ?_).symm
  rw[e2,R] at J;cases J;exact e rfl
 ·refine⟨⟨x.k+1,a.length-(x.k+1),0⟩,⟨by dsimp only;omega,λj I=> ?_,rfl⟩,by dsimp only;omega,wr64 (by omega) (by omega)⟩
  dsimp only at I;rcases Nat.lt_succ_iff_lt_or_eq.1 I with I|rfl
  ·exact U j I
  ·rw[J,R,e]
 ·refine(decide_eq_true (hJ λj=> ?_)).symm
  by_cases I:j<x.k
  ·exact U j I
  ·rw[dx (by omega),dx (by omega)]
end
section
open Go
section
variable {α β:Type} [DecidableEq α]
def Zth:List (α×β)->α->Option β
 | [],_=>ar
 |p::r,a=>if p.1=a then ae p.2 else Zth r a
def putD:List (α×β)->α->β->List (α×β)
 | [],a,v=> [(a,v)]
 |p::r,a,v=>if p.1=a then(p.1,v)::r else p::putD r a v
def delD:List (α×β)->α->List (α×β)
 | [],_=> []
 |p::r,a=>if p.1=a then r else p::delD r a
theorem Zm8:∀(l:List (α×β)) (a:α),Z6 l a=Zth l a
 | [],a=>rfl
 |p::r,a=>by
  rw[Z6,Zth,Zm8 r a]
  by_cases h:p.1=a
  ·rw[if_pos h,if_pos h]
  ·rw[if_neg h,if_neg h]
theorem Z46:∀(l:List (α×β)) (a:α) (v:β),putS l a v=putD l a v
 | [],a,v=>rfl
 |p::r,a,v=>by
  rw[putS,putD,Z46 r a v]
  by_cases h:p.1=a
  ·rw[if_pos h,if_pos h]
  ·rw[if_neg h,if_neg h]
theorem Yby:∀(l:List (α×β)) (a:α),delS l a=delD l a
 | [],a=>rfl
 |p::r,a=>by
  rw[delS,delD,Yby r a]
  by_cases h:p.1=a
  ·rw[if_pos h,if_pos h]
  ·rw[if_neg h,if_neg h]
end
def goD:Bool->Bool->List (List Nat×Bool)->List Cls->Int
 |a,b,_,[]=>if a=ac then 161 else if b=ac then 2 else 0
 |a,b,m,c::r=>if W5 c=ac then goD (a||resF c.name||(Zth m c.name).getD ab) (b||decide (8<c.when_.length)||decide (24<Y5 c.pay)) (putD m c.name ac) r else 1
theorem Ybz:∀(l:List Cls) (a b:Bool) (m:List (List Nat×Bool)),goC a b m l=goD a b m l
 | [],a,b,m=>rfl
 |c::r,a,b,m=>by rw[goC,goD,Zm8,Z46,Ybz r]
def Zfv(t:Tar):Int:=if Um t.name=ac/\1<=t.for_/\t.for_<=6 then goD (resF t.name) (decide (64<t.clauses.length)) [] t.clauses else 1
theorem Zgk(t:Tar):Ya t=Zfv t:=by unfold Ya Zfv;rw[Ybz]
def prD(t:Tar):Int:=if Zfv t≠0 then Zfv t else if 2000<(Zcc (Zmh t)).length then 2 else 0
def chD(t:Tar):Int:=if Zfv t=0 then(goU 0 t.clauses).2 else Zfv t
def cpD(t:Tar):Int:=if Zfv t=0 then(if 4096<(cdT t).length\/64<dCs t.clauses then 2 else 0) else Zfv t
def eckD(t:Tar):Int:=if prD t≠0 then prD t else if chD t≠0 then chD t else if chkB t≠0 then chkB t else cpD t
theorem Ylc(t:Tar):(Uq t).2=prD t:=by
 unfold Uq prD;rw[Zgk];split
 ·rfl
 ·split<;>rfl
theorem Yld(t:Tar):(chkP t).2=chD t:=by
 unfold chkP chD;rw[Zgk];split<;>rfl
theorem Yle(t:Tar):(Z1 t).2=cpD t:=by
 unfold Z1 cpD;rw[Zgk];split
 ·split<;>rfl
 ·rfl
theorem Zci:eckF=eckD:=by
 funext t;unfold eckF eckD;rw[Ylc,Yld,Yle]
def Yjk(s:List Nat) (k:Int):Tar×Int:=
 if k<1\/6<k then(zTE,1) else
 match Wh s with
 |(t,_,e)=>if e≠0 then(zTE,e) else if t.for_≠k then(zTE,220) else match eckD t with| .ofNat 0=>(t,0)|e=>(zTE,e)
theorem Vb:Xs=Yjk:=by
 funext s k;unfold Xs Yjk;rw[Zci];rcases Wh s with⟨t,p,e⟩
 dsimp only;split
 ·rfl
 ·split
  ·rfl
  ·split
   ·rfl
   ·split
    ·rename_i h
     split
     ·rename_i I;rw[I] at h;exact absurd rfl h
     ·rfl
    ·rename_i h
     have h:=bp.1 h;rw[h];rfl
def Zv5(m:List (List Nat×Cls)) (l:List Cls):List (List Nat×Cls):=l.foldl (λm c=>putD m c.name c) m
def Zfw:List (List Nat×Cls)->List Cls->List Cls×List (List Nat×Cls)
 |m,[]=>([],m)
 |m,c::r=>match Zth m c.name with
  |some d=>(d::(Zfw (delD m c.name) r).1,(Zfw (delD m c.name) r).2)
  |none=>(c::(Zfw m r).1,(Zfw m r).2)
def Yb0(m:List (List Nat×Cls)) (l:List Cls):List Cls:=l.filter λc=>(Zth m c.name).isSome
def amD(t a:Tar):Tar:=⟨t.name,t.for_,(Zfw (Zv5 [] a.clauses) t.clauses).1++Yb0 (Zfw (Zv5 [] a.clauses) t.clauses).2 a.clauses⟩
theorem Yag(m:List (List Nat×Cls)) (l:List Cls):Za3 m l=Zv5 m l:=by
 unfold Za3 Zv5
 congr 1
 funext m c;exact Z46 _ _ _
theorem Zm9:∀(l:List Cls) (m:List (List Nat×Cls)),Wz m l=Zfw m l
 | [],m=>rfl
 |c::r,m=>by
  rw[Wz,Zfw,Zm8]
  cases Zth m c.name with
  |none=>dsimp only;rw[Zm9 r]
  |some d=>dsimp only;rw[Yby,Zm9 r]
theorem Zna:amF=amD:=by
 funext t a;unfold amF amD Zcd Yb0;rw[Yag,Zm9]
 congr 2
 congr 1
 funext c;rw[Zm8]
def txtA:List Nat:= [116,97,114,105,102,102,32,116,32,102,111,114,32,104,105,114,101,32,123,32,99,108,97,117,115,101,32,97,32,119,104,101,110,32,116,121,112,101,32,105,115,32,48,32,112,97,121,32,50,32,109,111,110,101,121,59,32,125]
def txtB:List Nat:= [116,97,114,105,102,102,32,117,32,102,111,114,32,104,105,114,101,32,123,32,99,108,97,117,115,101,32,98,32,119,104,101,110,32,116,121,112,101,32,105,115,32,49,32,112,97,121,32,51,32,109,111,110,101,121,59,32,125]
def txtC:List Nat:= [116,97,114,105,102,102,32,118,32,102,111,114,32,104,105,114,101,32,123,32,99,108,97,117,115,101,32,99,32,119,104,101,110,32,116,121,112,101,32,105,110,32,48,46,46,49,32,112,97,121,32,52,32,109,111,110,101,121,59,32,125]
def repE(no kd I:Int) (s:List Nat):Rep:=⟨⟨0,no⟩,⟨0,no⟩,0,⟨kd,⟨0,0⟩,0,0,0,1,I,0,0,0,0,0,0,s,[]⟩⟩
def W3:List Rep:= [repE 1 11 10 txtA,repE 2 12 20 txtB,repE 3 12 25 txtC,repE 4 13 30 []]
theorem in9:inF W3 0 1 9=(zTE,220):=by unfold inF;rw[Vb,Zci,Zna];kernel_rfl
theorem in30:inF W3 0 1 30=(zTE,220):=by unfold inF;rw[Vb,Zci,Zna];kernel_rfl
def Zy4(y:Tar×Int) (w:List Nat):Bool:=decide (y.2=0)&&decide (y.1.name= [116])&&decide (y.1.for_=1)&&decide ((y.1.clauses.flatMap λc=>c.name)=w)
theorem in10:Zy4 (inF W3 0 1 10) [97]=true:=by unfold inF;rw[Vb,Zci,Zna];kernel_rfl
theorem in20:Zy4 (inF W3 0 1 20) [97,98]=true:=by unfold inF;rw[Vb,Zci,Zna];kernel_rfl
theorem in25:Zy4 (inF W3 0 1 25) [97,98]=true:=by unfold inF;rw[Vb,Zci,Zna];kernel_rfl
theorem inD2:(inF W3 0 2 20).2=220:=by unfold inF;rw[Vb,Zci,Zna];kernel_rfl
theorem inR1:(inF W3 1 1 20).2=220:=by unfold inF;rw[Vb,Zci,Zna];kernel_rfl
theorem Ylf:(inF W3 16 1 20).2=1:=by unfold inF;rw[Vb,Zci,Zna];kernel_rfl
def txtP:List Nat:= [116,97,114,105,102,102,32,116,32,102,111,114,32,104,105,114,101,32,123,32,99,108,97,117,115,101,32,97,32,112,97,121,32,50,59,32,125]
theorem gd0:(Xs [] 0).2=1:=by rw[Vb];kernel_rfl
theorem gdA:(Xs txtA 2).2=220:=by rw[Vb];kernel_rfl
theorem gdP:(Xs txtP 1).2=170:=by rw[Vb];kernel_rfl
theorem chE:chgF W3 0 1= [10,20,25,30]:=by unfold chgF;kernel_rfl
theorem cpE:(Z1 (inF W3 0 1 10).1).2=0/\(Z1 (inF W3 0 1 10).1).1≠ []:=by
 unfold Z1;rw[Zgk];unfold inF;rw[Vb,Zci,Zna];refine⟨by kernel_rfl,?_⟩;have:∀l:List Ins,l.isEmpty=ab->l≠ []:=λl h e=>by rw[e] at h;cases h
 exact this _ (by kernel_rfl)
end
section
open Go
noncomputable def SssE:Sum thy:=Zce E (λ_=>ar) 10 (.cons (dR .tariffs) (.cons (dR .tariffs) .nil)) (λx=>SmT1 x.1) (λx=>eqE x.1 x.2.1) λy=> .bool ab y
theorem Z4e:SumOk E 16 SssE:=Y9 E_ok (Zc (f:=16) rfl) λx h=>Ydh x.1 x.2.1 h
structure NmX where
 k:Nat
 r:Nat
 s:List Nat
noncomputable def AnmE:Fr thy->Hp thy->Nat->Ann thy:=λT h i=>{X:=NmX,fr:=λx=> [(1,T 1),(5,T 5),(6,T 6),(7,.str ab x.s),(8,.int ab .i64 x.k)],bl:=λx=>blkP h (T 5),src:=λ_=> [],md:= [],ih:=i,M:=i+40,meas:=λx=>x.r}
noncomputable def FnmE:Fns thy:=addL (addS (addS F0 12 SinF) 16 SssE) 31 6 AnmE E
theorem Yfb:FnsOk E FnmE:=Zm E_ok (Zb (Zb F0_ok Zmx) Z4e) _ _ _
abbrev qDV1(I:Tar×Int):=(bN (ao I)=bN (ao I)/\bB (ao I)=bB (ao I)/\(au (ao I)=au (ao I)/\(ab=ac->ab=ac))/\True)
abbrev qDV2(I:Tar×Int):=(↑(aa (au (ao I))):Int)
abbrev qDV3(I:NmX):=(↑(NmX.k I):Int)
theorem Z94(at_:Int) (w:List Nat) (v:Bool):Zj E FnmE (vc E FnmE 400) 31 [.int ab .i64 at_,.str ab w] hp0 0 (λr=>ret E (patch hp0 0 r) r.v (.bool ab v))=(
 (4:Nat)<=(8:Nat)/\∀(y:Tar×Int),y=inF W3 (0:Int) (1:Int) at_->((w==toL (dU #[]))=ac->((aE y==(220:Int))=ac->((∀(c:Cls),c∈au (ao y)->Ex.sz (aC c)+(1:Nat)<=(1000000000:Nat)/\aa (aX c)+(1:Nat)<=(1000000000:Nat))/\aa (au (ao y))+(1:Nat)<=(1000000000:Nat))/\∀(U:Bool),U=eqE (ao y) (Tar.mk [] (0:Int) [])->U=v)/\((aE y==(220:Int))=ab->ab=v))/\((w==toL (dU #[]))=ab->∃(R:NmX->Prop),(∃(x:NmX),R x/\ac=ac/\(w=w/\(0:Nat)=(0:Nat)/\aE y=aE y/\ []=NmX.s x/\(0:Int)=(qDV3 x)/\True)/\(qDV1 y)/\True)/\∀(x:NmX),R x->(decide ((qDV3 x)<(qDV2 y))=ac->(0:Int)<=(qDV3 x)/\(qDV3 x)+(1:Int)<=(qDV2 y)/\∀(J:Cls),(au (ao y))[ag (qDV3 x)]? =ae J->aa (NmX.s x)+aa (aP J)<=(9223372036854775807:Nat)/\∃(I:NmX),R I/\I.2+(1:Nat)<=x.2/\ac=ac/\(w=w/\(0:Nat)=(0:Nat)/\aE y=aE y/\NmX.s x++aP J=NmX.s I/\wr af ((qDV3 x)+(1:Int))=(qDV3 I)/\True)/\(qDV1 y)/\True)/\(decide ((qDV3 x)<(qDV2 y))=ab->((aE y==(0:Int))=ac->((bN (ao y)==toL (dU #[(116:UInt8)]))=ac->((bB (ao y)==(1:Int))=ac->((NmX.s x==w)=ac->ac=v)/\((NmX.s x==w)=ab->ab=v))/\((bB (ao y)==(1:Int))=ab->ab=v))/\((bN (ao y)==toL (dU #[(116:UInt8)]))=ab->ab=v))/\((aE y==(0:Int))=ab->ab=v)))):=by kernel_rfl
noncomputable def nmE(at_:Int) (w:List Nat):Bool:=if w= [] then decide ((inF W3 0 1 at_).2=220)&&eqE (inF W3 0 1 at_).1 zTE else Zy4 (inF W3 0 1 at_) w
theorem Yjc(l:List Rep) (R kd at_:Int):∀c∈(inF l R kd at_).1.clauses,c.name.length<=32:=by
 intro c J;obtain⟨_,_,U,h2⟩:=Zpu l R kd at_;by_cases h:(inF l R kd at_).2=0
 ·have I:=Vq (U h).1
  unfold Ya at I;split at I
  ·have:=Z5m _ _ _ _ I c J
   unfold W5 Um at this;simp only[aq,decide_eq_true_eq] at this;exact this.1.1.1.1
  ·cases I
 ·rw[h2 h] at J;cases J
theorem Ybv{t:Tar} (h:SmE t):SmT1 t:=⟨λc I=>⟨Nat.lt_of_le_of_lt (h.1 c I).1 (by decide),(h.1 c I).2⟩,h.2⟩
theorem Yfc(at_:Int) (w:List Nat):PureC E 31 [.int ab .i64 at_,.str ab w] (.bool ab (nmE at_ w)):=by
 refine Za E_ok (Zd E_ok Yfb 400) ?_;rw[Z94];delta qDV1 qDV2 qDV3;simp only[bx,decide_eq_true_eq,decide_eq_false_iff_not,true_and,and_true,imp_self,implies_true,beq_iff_eq,beq_eq_false_iff_ne];refine⟨by decide,λy hy=> ?_⟩;have hs:=(Zpu W3 0 1 at_).1;have hl:=(Zpu W3 0 1 at_).2.1;have hn:=Yjc W3 0 1 at_;unfold nmE;rw[<-hy] at hs hl hn⊢;refine aA (λh=> ?_) (λh=> ?_)
 ·have h:w= []:=h
  rw[if_pos h];refine aA (λI=> ?_) (λI=> ?_)
  ·have:=Ybv hs
   refine⟨this,λz hz=> ?_⟩;rw[hz,decide_eq_true I];rfl
  ·rw[decide_eq_false I];rfl
 ·have h:¬w= []:=h
  rw[if_neg h];refine⟨λx=>x.k<=y.1.clauses.length/\x.s=(y.1.clauses.take x.k).flatMap (λc=>c.name)/\x.s.length<=32*x.k/\x.r=y.1.clauses.length-x.k,⟨⟨0,y.1.clauses.length,[]⟩,⟨bb _,rfl,by simp,rfl⟩,rfl,rfl⟩,?_⟩;rintro x ⟨hk,J,a1,hr⟩;refine aA (λg=>⟨by omega,by omega,λc hc=> ?_⟩) (λg=> ?_)
  ·have a0:=hn c (aI hc)
   refine⟨by omega,⟨x.k+1,y.1.clauses.length-(x.k+1),x.s++c.name⟩,⟨by dsimp only;omega,?_,by dsimp only;rw[aD];omega,rfl⟩,by dsimp only;omega,rfl,wr64 (by omega) (by omega)⟩;dsimp only;rw[cz,hc,fF,List.flatMap_append,J];simp
  ·rw[bm (by omega)] at J
   unfold Zy4;rw[<-J];refine aA (λR=>aA (λq2=>aA (λq3=>aA (λU=> ?_) (λU=> ?_)) (λq3=> ?_)) (λq2=> ?_)) (λR=> ?_)
   ·have q2:y.1.name= [116]:=q2
    rw[decide_eq_true R,decide_eq_true q2,decide_eq_true q3,decide_eq_true U];rfl
   ·rw[decide_eq_false U,iy]
   ·rw[decide_eq_false q3,iy,eu]
   ·have q2:¬y.1.name= [116]:=q2
    rw[decide_eq_false q2,iy,eu,eu]
   ·rw[decide_eq_false R,eu,eu,eu]
noncomputable def SnmE:Sum thy:=X6 (.cons dN (.cons dS .nil)) (λ_=>True) (λx=>nmE x.1 x.2.1) λy=> .bool ab y
theorem Yfd:SumOk E 31 SnmE:=Zw E_ok (Zc (f:=31) rfl) λx _=>Yfc x.1 x.2.1
noncomputable def SprF:Sum thy:=Zce E (λ_=>ar) 10 dInE (λx=>x.1.length<=8) (λx=>prgF x.1 x.2.1 x.2.2.1 x.2.2.2.1) λy=> .tup [.psl di y.1 ab,.int ab .i64 y.2]
theorem Z4f:SumOk E 14 SprF:=Y9 E_ok (Zc (f:=14) rfl) λx h=>Z9i x.1 x.2.1 x.2.2.1 x.2.2.2.1 h
noncomputable def dIts:Dc E (List Int):=(Zcv (E:=E) fN:Dc E (List (thy.dom fN)))
noncomputable def Yjd:Sum thy:=Zce E (λ_=>ar) 10 (.cons dIts (.cons dIts .nil)) (λx=>x.1.length<=1000000) (λx=>(decide (x.1=x.2.1):Bool)) λy=> .bool ab y
theorem Z95:SumOk E 18 Yjd:=Y9 E_ok (Zc (f:=18) rfl) λx h=>Z9l x.1 x.2.1 h
noncomputable def FsnE:Fns thy:=addS (addS (addS (addS (addS (addS F0 31 SnmE) 12 SinF) 21 SgoE) 14 SprF) 18 Yjd) 19 SchF
theorem Yfe:FnsOk E FsnE:=Zb (Zb (Zb (Zb (Zb (Zb F0_ok Yfd) Zmx) Z3e) Z4f) Z95) Z3u
abbrev qDV4(I:Tar×Int):=(aE I==(220:Int))
abbrev qDV5:=(1:Int)
theorem Z4g(u:Nat) (v:Bool):Zj E FsnE (vc E FsnE 400) 10 [] hp0 0 (λr=>ret E (patch hp0 0 r) r.v (.bool ab v))=(
 True/\∀(y:Bool),y=nmE (9:Int) []->((!y)=ac->ab=v)/\((!y)=ab->True/\∀(y:Bool),y=nmE (10:Int) [(97:Nat)]->((!y)=ac->ab=v)/\((!y)=ab->True/\∀(y:Bool),y=nmE (20:Int) [(97:Nat),(98:Nat)]->((!y)=ac->ab=v)/\((!y)=ab->True/\∀(y:Bool),y=nmE (25:Int) [(97:Nat),(98:Nat)]->((!y)=ac->ab=v)/\((!y)=ab->True/\∀(y:Bool),y=nmE (30:Int) []->((!y)=ac->ab=v)/\((!y)=ab->(4:Nat)<=(8:Nat)/\∀(y:Tar×Int),y=inF W3 (0:Int) (2:Int) (20:Int)->(4:Nat)<=(8:Nat)/\∀(J:Tar×Int),J=inF W3 qDV5 qDV5 (20:Int)->(4:Nat)<=(8:Nat)/\∀(R:Tar×Int),R=inF W3 (16:Int) qDV5 (20:Int)->True/\∀(U:Tar×Int),U=Xs [] (0:Int)->True/\∀(a0:Tar×Int),a0=Xs txtA (2:Int)->True/\∀(a1:Tar×Int),a1=Xs txtP qDV5->(4:Nat)<=(8:Nat)/\∀(I:List Ins×Int),I=prgF W3 (0:Int) qDV5 (10:Int)->((qDV4 y)=ac->((qDV4 J)=ac->((aE R==qDV5)=ac->((aE U==qDV5)=ac->((qDV4 a0)=ac->((aE a1==(170:Int))=ac->((aE I==(0:Int))=ac->(decide ((↑(aa (ao I)):Int)>(0:Int))=ac->(4:Nat)<=(8:Nat)/\∀(y:List Int),y=chgF W3 (0:Int) qDV5->aa y<=(1000000:Nat)/\∀(a2:Bool),a2=decide (y= [(10:Int),(20:Int),(25:Int),(30:Int)])->a2=v)/\(decide ((↑(aa (ao I)):Int)>(0:Int))=ab->ab=v))/\((aE I==(0:Int))=ab->ab=v))/\((aE a1==(170:Int))=ab->ab=v))/\((qDV4 a0)=ab->ab=v))/\((aE U==qDV5)=ab->ab=v))/\((aE R==qDV5)=ab->ab=v))/\((qDV4 J)=ab->ab=v))/\((qDV4 y)=ab->ab=v))))))):=by kernel_rfl
theorem nm9:nmE 9 []=true:=by unfold nmE;rw[if_pos rfl,in9,Zl2];rfl
theorem nm30:nmE 30 []=true:=by unfold nmE;rw[if_pos rfl,in30,Zl2];rfl
theorem nm10:nmE 10 [97]=true:=by unfold nmE;rw[if_neg (by decide),in10]
theorem nm20:nmE 20 [97,98]=true:=by unfold nmE;rw[if_neg (by decide),in20]
theorem nm25:nmE 25 [97,98]=true:=by unfold nmE;rw[if_neg (by decide),in25]
theorem ifT{y:Bool} {A B:Prop} (h:y=ac) (k:B):((!y)=ac->A)/\((!y)=ab->B):=aA (λe=>by rw[h] at e;cases e) (λ_=>k)
theorem ifE{a b:Int} {A B:Prop} (h:a=b) (k:A):((a==b)=ac->A)/\((a==b)=ab->B):=⟨λ_=>k,λe=>by rw[h,beq_self_eq_true] at e;cases e⟩
theorem prg10:(prgF W3 0 1 10).2=0/\(prgF W3 0 1 10).1≠ []:=by
 have I:(inF W3 0 1 10).2=0:=by
  have:=in10;unfold Zy4 at this;simp only[aq,decide_eq_true_eq] at this;exact this.1.1.1
 unfold prgF;rw[if_neg (λh=>h I)];exact cpE
theorem Zyp:PureC E 10 [] (.bool ab ac):=by
 refine Za E_ok (Zd E_ok Yfe 400) ?_;rw[Z4g 0];refine⟨trivial,λy h=>ifT (h.trans nm9) ⟨trivial,λy h=>ifT (h.trans nm10) ⟨trivial,λy h=>ifT (h.trans nm20) ⟨trivial,λy h=>ifT (h.trans nm25) ⟨trivial,λy h=>ifT (h.trans nm30) ⟨by decide,λa R=>⟨by decide,λb U=>⟨by decide,λc hc=>⟨trivial,λd hd=>⟨trivial,λe he=>⟨trivial,λf hf=>⟨by decide,λg I=> ?_⟩⟩⟩⟩⟩⟩⟩⟩⟩⟩⟩⟩
 refine ifE (by rw[R];exact inD2) (ifE (by rw[U];exact inR1) (ifE (by rw[hc];exact Ylf) (ifE (by rw[hd];exact gd0) (ifE (by rw[he];exact gdA) (ifE (by rw[hf];exact gdP) (ifE (by rw[I];exact prg10.1) ?_))))));have hp:g.1.length>0:=List.length_pos_iff.2 (by rw[I];exact prg10.2);refine⟨λ_=>⟨by decide,λq J=>⟨?_,λr hr=> ?_⟩⟩,λh=>by have:=of_decide_eq_false h;omega⟩
 ·rw[J,chE];decide
 ·rw[hr,J,chE];rfl
noncomputable def SsnE:Sum thy:=X6 (.nil:DcL E Unit) (λ_=>True) (λ_=>ac) λy=> .bool ab y
theorem Yff:SumOk E 10 SsnE:=Zw E_ok (Zc (f:=10) rfl) λx _=>Zyp
end
section
open Go
noncomputable def SfwE:Sum thy:=Zce E (λ_=>ar) 10 (.cons dLre .nil) (λ_=>True) (λx=>fewE x.1) λy=> .bool ab y
theorem Yf0:SumOk E 11 SfwE:=Y9 E_ok (Zc (f:=11) rfl) λx _=>Z3v x.1
noncomputable def FlwE:Fns thy:=addS (addS (addS (addS (addS F0 10 SsnE) 11 SfwE) 12 SinF) 19 SchF) 16 SssE
theorem Yf1:FnsOk E FlwE:=Zb (Zb (Zb (Zb (Zb F0_ok Yff) Yf0) Zmx) Z3u) Z4e
end
section
open Go
noncomputable def SrsE:Sum thy:=X6 (.cons (Zcv (E:=E) di:Dc E (List (thy.dom di))) (.cons (Zcv (E:=E) di:Dc E (List (thy.dom di))) .nil)) (λx=>(show List Ins from x.1).length<=1000000000) (λx=>Zpa x.1 x.2.1) λy=> .bool ab y
theorem Yd9:SumOk E 17 SrsE:=Zw E_ok (Zc (f:=17) rfl) λx h=>Zx1 x.1 x.2.1 h
noncomputable def FcoL:Fns thy:=addS (addS (addS (addS (addS FlwE 14 SprF) 24 StyE) 25 ScpE) 26 SbxE) 17 SrsE
theorem Yea:FnsOk E FcoL:=Zb (Zb (Zb (Zb (Zb Yf1 Z4f) Z29) Zsr) Z3a) Yd9
abbrev qDX2:=(1000000000:Nat)
abbrev qDX1(I:Tar×Int):=((∀(c:Cls),c∈au (ao I)->Ex.sz (aC c)<=(10000:Nat)/\aa (aX c)+(1:Nat)<=qDX2)/\aa (au (ao I))+(1:Nat)<=qDX2)
abbrev qDX3:=(0:Int)
theorem Z8u(l:List Rep) (U kd at_:Int) (v:Bool):Zj E FcoL (vc E FcoL 400) 9 [.psl cD l ab,.int ab .i64 U,.int ab .i64 kd,.int ab .i64 at_] hp0 0 (λr=>ret E (patch hp0 0 r) r.v (.bool ab v))=(
 True/\∀(y:Bool),y=ac->((!y)=ac->ab=v)/\((!y)=ab->True/\∀(y:Bool),y=fewE l->((!y)=ac->ac=v)/\((!y)=ab->aa l<=(8:Nat)/\∀(y:Tar×Int),y=inF l U kd at_->aa l<=(8:Nat)/\∀(I:List Ins×Int),I=prgF l U kd at_->((aE y !=qDX3)=ac->((aE I==aE y)=ac->(((↑(aa (ao I)):Int)==qDX3)=ac->((∀(c:Cls),c∈au (ao y)->Ex.sz (aC c)+(1:Nat)<=qDX2/\aa (aX c)+(1:Nat)<=qDX2)/\aa (au (ao y))+(1:Nat)<=qDX2)/\∀(J:Bool),J=eqE (ao y) (Tar.mk [] qDX3 [])->J=v)/\(((↑(aa (ao I)):Int)==qDX3)=ab->ab=v))/\((aE I==aE y)=ab->ab=v))/\((aE y !=qDX3)=ab->(qDX1 y)/\∀(J:Int×Int),J=chkP (ao y)->(qDX1 y)/\∀(R:List Ins×Int),R=Z1 (ao y)->((aE I==qDX3)=ac->((aE J==qDX3)=ac->((aE R==qDX3)=ac->(qDX1 y)/\∀(a0:Int),a0=chkB (ao y)->((a0==qDX3)=ac->((bB (ao y)==kd)=ac->aa (have this:=ao I;this)<=qDX2/\∀(y:Bool),y=Zpa (ao I) (ao R)->y=v)/\((bB (ao y)==kd)=ab->ab=v))/\((a0==qDX3)=ab->ab=v))/\((aE R==qDX3)=ab->ab=v))/\((aE J==qDX3)=ab->ab=v))/\((aE I==qDX3)=ab->ab=v))))):=by kernel_rfl
theorem Zx6(a:List Ins):Zpa a a=true:=(Z2r rfl).symm
theorem Z8v{t:Tar} (h:eckF t=0):(Uq t).2=0/\(chkP t).2=0/\chkB t=0/\(Z1 t).2=0:=by
 unfold eckF at h;split at h
 ·rename_i I;exact absurd h I
 ·rename_i I
  split at h
  ·rename_i J;exact absurd h J
  ·rename_i J
   split at h
   ·rename_i R;exact absurd h R
   ·rename_i R
    exact⟨bp.1 I,bp.1 J,bp.1 R,h⟩
theorem Z21(t:Tar):(Z1 t).1.length<=4096:=by
 unfold Z1;split
 ·split
  ·exact bb _
  ·rename_i h
   show(cdT t).length<=4096;omega
 ·exact bb _
theorem Z8w(l:List Rep) (a0 kd at_:Int):PureC E 9 [.psl cD l ab,.int ab .i64 a0,.int ab .i64 kd,.int ab .i64 at_] (.bool ab ac):=by
 refine Za E_ok (Zd E_ok Yea 400) ?_;rw[Z8u];delta qDX2 qDX1 qDX3;refine⟨trivial,λy h=>ifT h ⟨trivial,λf hf=>aA (λ_=>rfl) (λa1=> ?_)⟩⟩;have h8:l.length<=8:=Z9k (by rw[<-hf];simpa using a1);obtain⟨J,g2,g3,g4⟩:=Zpu l a0 kd at_;refine⟨h8,λy U=>⟨h8,λz hz=> ?_⟩⟩;rw[<-U] at J g2 g3 g4;refine aA (λe=> ?_) (λe=> ?_)
 ·have e:y.2≠0:=by simpa using e
  have I:z=([],y.2):=by rw[hz];unfold prgF;rw[<-U,if_pos e]
  refine ifE (by rw[I]) (ifE (by rw[I];rfl) ⟨Ybv J,λq R=> ?_⟩);rw[R,g4 e];exact Zl2 _
 ·have e:y.2=0:=by simpa using e
  have I:z=Z1 y.1:=by rw[hz];unfold prgF;rw[<-U,if_neg (λh=>h e)]
  obtain⟨k1,k2⟩:=g3 e;obtain⟨_,c2,c3,c4⟩:=Z8v k1;refine⟨J,λa ha=>⟨J,λb hb=>ifE (by rw[I];exact c4) (ifE (by rw[ha];exact c2) (ifE (by rw[hb];exact c4) ⟨J,λd hd=>ifE (by rw[hd];exact c3) (ifE k2 ⟨?_,λq R=> ?_⟩)⟩))⟩⟩
  ·show z.1.length<=1000000000
   rw[I];exact bR (Z21 _) (by decide)
  ·rw[R,I,hb];exact Zx6 _
end
section
open Go.ChangeShapes Go.WideShapes Go.ChangeAt Go.RowKit

theorem editionsCompiles_lifted(os:Os) (started:os.Started) (H:Type) (enc:TypeId×Value->H):
    ReturnsInHanded {} Tryz.checked os 9 .any (λw args=>(Rows.editionsCompilesSpec.pre enc Tryz.prog Tryz.f9 [] ab w args/\laidMetH Tryz.prog Zjp w)/\sizedMet enc Tryz.prog Tryz.f9 (OpenSpec.ofChange Rows.editionsCompilesSpec) ab w args)
      (Rows.editionsCompilesSpec.post enc Tryz.prog Tryz.f9 ab ac ab ab):=by
  refine returnsInHanded_of_change_and (C:=Tryz.checked) (X:=λw _=>laidMetH Tryz.prog Zjp w) (λ_ _ _ hh h=>h.of_heap hh) Tryz.own started (by kernel_rfl) Tryz.func9
    (ChangeSpec.witness_shaped (enc:=enc) (C:=Tryz.checked) (os:=os) (X:=λw _=>laidMetH Tryz.prog Zjp w) ab (Zny os) #[.slice ar 0 0,.int .i64 0,.int .i64 0,.int .i64 0] 8 (Zz8 os) (Z6m os _) (by kernel_rfl) (by kernel_rfl) (by kernel_rfl) (Z6n os _)) ?_
  intro W base args ds gs before hval0 hW _ hz hL _
  have hval:∀(j:Nat) t v,Tryz.f9.params[j]? =ae t->args[j]? =ae v->Value.okWide Tryz.prog W .any base t v:=hval0
  have hW':=hW
  obtain⟨p,q,hA0,hV,rfl,hfz,hnd⟩:=hW
  have hA:DataW.TrodAll enc Tryz.prog W 0 (λ_=>ac) ac Tryz.f9.params.toList args.toList ds p:=hA0
  rw[Tryz.params9] at hA hval hz
  obtain⟨v0,v1,v2,v3,d0,d1,d2,d3,p0,p1,p2,p3,rfl,rfl,rfl,h0,h1,h2,h3⟩:=trodAll_four hA
  obtain⟨rfl,rfl⟩:=trodVars_none hV
  obtain⟨l,hdl⟩:=Z0d (hval 0 22 v0 rfl rfl) h0
  obtain⟨rw,rfl,_,hrrw,_⟩:=open_int Tryz.underlying3 (hval 1 3 v1 rfl rfl) h1
  obtain⟨kd,rfl,_,hrkd,_⟩:=open_int Tryz.underlying3 (hval 2 3 v2 rfl rfl) h2
  obtain⟨tm,rfl,_,hrtm,_⟩:=open_int Tryz.underlying3 (hval 3 3 v3 rfl rfl) h3
  refine(Z0b (Z8w l rw kd tm) hL (Zgz hdl (Zgz (.int _ _ _) (Zgz (.int _ _ _) (Yke (.int _ _ _)))))).mono λen W' ⟨hen,hw⟩=> ?_
  exact⟨_,hen,Z3t Tryz.laidOut rfl Tryz.underlying4 (by kernel_rfl) rfl hW' rfl rfl rfl hw⟩

end
section
open Go.ChangeShapes Go.WideShapes Go.ChangeAt Go.RowKit

theorem Uj:(Rows.editionsCompilesRow.inPlace==Tryz.prog.inPlace 9)=true:=by kernel_rfl
theorem Ve:(Rows.editionsCompilesRow.unfollowed==Tryz.prog.unfollowed 9)=true:=by kernel_rfl
theorem V3:(Rows.editionsCompilesRow.recurses==Tryz.prog.recurses 9)=true:=by kernel_rfl
theorem U0:(Rows.editionsCompilesRow.named==Tryz.prog.varsNamed 9)=true:=by kernel_rfl
theorem U1:joinedFacts Tryz.prog 9 Tryz.f9 Rows.editionsCompilesSpec Rows.editionsCompilesRow=true:=by
  unfold joinedFacts;rw[Uj,Ve,V3,U0]
  kernel_rfl
theorem Zad:Tryz.prog.funcNamed Rows.editionsCompilesRow.func=ae 9:=by kernel_rfl
theorem editionsCompiles_holds:Rows.EditionsCompilesSaid:=
  OpenClaim.holds_of_wide 9 Tryz.f9 rfl rfl rfl rfl rfl rfl rfl ⟨rfl,rfl,rfl,rfl,rfl⟩ rfl rfl rfl rfl rfl Zad Tryz.func9 U1
    (of_decide_eq_true (by kernel_rfl)) (by unfold Func.isWrapper;first|(rw[if_pos (by decide+kernel)];kernel_rfl)|(rw[if_neg (by decide+kernel)];exact⟨rfl,rfl⟩))
    (λos started H enc _=>editionsCompiles_lifted os started H enc)

end
end Go.Proofs.YtpmhbnameoklkaaGreatDoor
