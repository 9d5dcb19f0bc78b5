/- Merged texts: TpV, TcH, EdJ, EdL, EdK, EdM, EdRp, EdR, EdFive, RowEditionsOrderA, RowEditionsOrderB. -/
import Derived.Test.YtpmhbnameoklkaaGreatDoorMf
open And renaming intro->ay
open Bool renaming and_eq_false_iff->bi,and_eq_true->aq,and_false->iJ,and_true->cG,false->ab,false_and->ew,false_eq_true->aP,not_eq_false'->cp,not_eq_true'->bn,or_eq_false_iff->bH,or_eq_true->bg,true->ac,true_and->cx,true_eq_false->aT
open ByteArray renaming mk->dW
open Decidable renaming not_not->bK
open Go.DataW renaming Trod->gX,TrodAll->fV
open Go.IntKind renaming i64->af
open Go.Proofs.YtpmhbnameoklkaaGreatDoor.Cls renaming name->aQ,pay->aC,when_->aW
open Go.Proofs.YtpmhbnameoklkaaGreatDoor.Ex renaming d0->bA,d1->bB,d2->bC,d3->bD,l->bw,n->bX,op->aJ
open Go.Proofs.YtpmhbnameoklkaaGreatDoor.Rep renaming item->cE,ref->gK
open Go.Proofs.YtpmhbnameoklkaaGreatDoor.Tar renaming clauses->au,for_->bJ,name->bO
open Go.Proofs.YtpmhbnameoklkaaGreatDoor.Th renaming ins->dx,ints->gJ,reps->cz
open Int renaming ofNat_eq_natCast->bY,toNat->ag,toNat_natCast->be
open List renaming append_nil->di,drop->bx,drop_zero->cI,filter_congr->jN,filter_filter->hH,getElem?_eq_getElem->ai,getElem?_eq_none->ej,getElem?_eq_some_iff->aj,length->aa,length_append->aB,length_drop->cM,length_reverse->eF,length_take->bd,mem_filter->cO,mem_of_getElem?->aI,pairwise_iff_getElem->fW,take->ar,take_add_one->cA,take_length->aM,take_of_length_le->bm
open Nat renaming le_refl->aw,lt_succ_iff_lt_or_eq->gh,not_lt_zero->iH,zero_le->aY
open Option renaming none->av,some->ae,toList_some->fK
open Prod renaming fst->ao,snd->aE
namespace Go.Proofs.YtpmhbnameoklkaaGreatDoor
set_option linter.unusedVariables false
set_option linter.unusedSimpArgs false
set_option linter.unnecessarySimpa false
set_option maxRecDepth 100000
section
open Go
open Classical in
noncomputable def eqE{α:Type} (a b:α):Bool:=decide (a=b)
theorem eqE_iff{α:Type} {a b:α}:eqE a b=ac↔a=b:=by unfold eqE;simp
theorem eqE_no{α:Type} {a b:α}:eqE a b=ab↔a≠b:=by unfold eqE;simp
theorem Zlz{α:Type} (a:α):eqE a a=true:=eqE_iff.2 rfl
noncomputable def dEx2:DcL E (Ex×Ex×Unit):= .cons (dR .exprs) (.cons (dR .exprs) .nil)
noncomputable def Yc8(m:Nat):Sum thy:=sumP dEx2 (λx=>x.1.sz<m) λx=> .bool ab (eqE x.1 x.2.1)
noncomputable def Asx:Fr thy->Hp thy->Nat->Ann thy:=λT h i=>{X:=LX,fr:=λx=> [(2,T 2),(3,T 3),(5,.int ab .i64 x.k)],bl:=λx=>blkP h (T 2)++blkP h (T 3),src:=λ_=> [],md:= [],ih:=i,M:=i+30,meas:=λx=>x.r}
noncomputable def Fsx(m:Nat):Fns thy:=addL (addS F0 85 (Yc8 m)) 85 4 Asx E
abbrev qDR1(I:Ex):=(aJ I=aJ I/\bX I=bX I/\bA I=bA I/\bB I=bB I/\bC I=bC I/\bD I=bD I/\(bw I=bw I/\(ab=ac->ab=ac))/\True)
abbrev qDR2(I:Ex):=(Ex.mk (aJ I) (bX I) (bA I) (bB I) (bC I) (bD I) (bw I))
abbrev qDR3(I:Ex):=(↑(aa (bw I)):Int)
abbrev qDR4(I:LX):=(↑(LX.k I):Int)
abbrev qDR5(I:Ex) (J:Ex):=(!(bA I==bA J&&(bB I==bB J&&(bC I==bC J&&(bD I==bD J&&ac)))))
theorem Yc9(m:Nat) (x y:Ex) (v:Bool):Zk E F0 (vc E (Fsx m) 400) 85 [exA x,exA y] hp0 0 (λr=>ret E (patch hp0 0 r) r.v (.bool ab v))=(
 ∃(Q:Bool->Prop),(((aJ x !=aJ y)=ac->Q ac)/\((aJ x !=aJ y)=ab->((bX x !=bX y)=ac->Q ac)/\((bX x !=bX y)=ab->((qDR5 x y)=ac->Q ac)/\((qDR5 x y)=ab->(((qDR3 x) !=(qDR3 y))=ac->Q ac)/\(((qDR3 x) !=(qDR3 y))=ab->Q ab)))))/\(Q ac->ab=v)/\(Q ab->∃(R:LX->Prop),(∃(I:LX),R I/\ac=ac/\((0:Nat)=(0:Nat)/\(0:Nat)=(0:Nat)/\(0:Int)=(qDR4 I)/\True)/\(qDR1 x)/\(qDR1 y)/\True)/\∀(I:LX),R I->(decide ((qDR4 I)<(qDR3 x))=ac->(0:Int)<=(qDR4 I)/\(qDR4 I)+(1:Int)<=(qDR3 x)/\∀(J:Ex),(bw x)[ag (qDR4 I)]? =ae J->(0:Int)<=(qDR4 I)/\(qDR4 I)+(1:Int)<=(qDR3 y)/\∀(U:Ex),(bw y)[ag (qDR4 I)]? =ae U->Ex.sz (qDR2 J)+(1:Nat)<=m/\((!eqE (qDR2 J) (qDR2 U))=ac->ab=v)/\((!eqE (qDR2 J) (qDR2 U))=ab->∃(a0:LX),R a0/\a0.2+(1:Nat)<=I.2/\ac=ac/\((0:Nat)=(0:Nat)/\(0:Nat)=(0:Nat)/\wr af ((qDR4 I)+(1:Int))=(qDR4 a0)/\True)/\(qDR1 x)/\(qDR1 y)/\True))/\(decide ((qDR4 I)<(qDR3 x))=ab->ac=v))):=by kernel_rfl
noncomputable def dCl2:DcL E (Cls×Cls×Unit):= .cons (dR .clauses) (.cons (dR .clauses) .nil)
noncomputable def Seqc:Sum thy:=sumP dCl2 (λx=>x.1.pay.sz<1000000000/\x.1.when_.length<1000000000) λx=> .bool ab (eqE x.1 x.2.1)
noncomputable def Fsc:Fns thy:=addL (addS F0 85 (Yc8 1000000000)) 42 4 Asx E
abbrev qDRb(I:Cls):=(aC I)
abbrev qDR6(I:Cls):=(aQ I=aQ I/\(aW I=aW I/\(ab=ac->ab=ac))/\aJ (qDRb I)=aJ (qDRb I)/\bX (qDRb I)=bX (qDRb I)/\bA (qDRb I)=bA (qDRb I)/\bB (qDRb I)=bB (qDRb I)/\bC (qDRb I)=bC (qDRb I)/\bD (qDRb I)=bD (qDRb I)/\(bw (qDRb I)=bw (qDRb I)/\(ab=ac->ab=ac))/\True)
abbrev qDR7(I:Cls):=(Ex.mk (aJ (qDRb I)) (bX (qDRb I)) (bA (qDRb I)) (bB (qDRb I)) (bC (qDRb I)) (bD (qDRb I)) (bw (qDRb I)))
abbrev qDR8(I:Cls):=(↑(aa (aW I)):Int)
abbrev qDR9(I:LX):=(↑(LX.k I):Int)
abbrev qDRa(I:Tst) (J:Tst):=(!(Tst.attr I==Tst.attr J&&(Tst.low I==Tst.low J&&(Tst.high I==Tst.high J&&ac))))
theorem Yda(x y:Cls) (v:Bool):Zk E Fsc (vc E Fsc 400) 42 [.agg (encF ab .clauses x),.agg (encF ab .clauses y)] hp0 0 (λr=>ret E (patch hp0 0 r) r.v (.bool ab v))=(
 ∃(Q:Bool->Prop),(((!aQ x==aQ y)=ac->Q ac)/\((!aQ x==aQ y)=ab->(((qDR8 x) !=(qDR8 y))=ac->Q ac)/\(((qDR8 x) !=(qDR8 y))=ab->Q ab)))/\(Q ac->ab=v)/\(Q ab->∃(R:LX->Prop),(∃(I:LX),R I/\ac=ac/\((0:Nat)=(0:Nat)/\(0:Nat)=(0:Nat)/\(0:Int)=(qDR9 I)/\True)/\(qDR6 x)/\(qDR6 y)/\True)/\∀(I:LX),R I->(decide ((qDR9 I)<(qDR8 x))=ac->(0:Int)<=(qDR9 I)/\(qDR9 I)+(1:Int)<=(qDR8 x)/\∀(J:Tst),(aW x)[ag (qDR9 I)]? =ae J->(0:Int)<=(qDR9 I)/\(qDR9 I)+(1:Int)<=(qDR8 y)/\∀(U:Tst),(aW y)[ag (qDR9 I)]? =ae U->((qDRa J U)=ac->ab=v)/\((qDRa J U)=ab->∃(a0:LX),R a0/\a0.2+(1:Nat)<=I.2/\ac=ac/\((0:Nat)=(0:Nat)/\(0:Nat)=(0:Nat)/\wr af ((qDR9 I)+(1:Int))=(qDR9 a0)/\True)/\(qDR6 x)/\(qDR6 y)/\True))/\(decide ((qDR9 I)<(qDR8 x))=ab->Ex.sz (qDR7 x)+(1:Nat)<=(1000000000:Nat)/\eqE (qDR7 x) (qDR7 y)=v))):=by kernel_rfl
noncomputable def Fss:Fns thy:=addL (addS F0 42 Seqc) 16 4 Asx E
abbrev qDRc(I:Cls):=(Ex.mk (aJ (aC I)) (bX (aC I)) (bA (aC I)) (bB (aC I)) (bC (aC I)) (bD (aC I)) (bw (aC I)))
abbrev qDRd(I:Tar):=(bO I=bO I/\bJ I=bJ I/\(au I=au I/\(ab=ac->ab=ac))/\True)
abbrev qDRe(I:Tar):=(↑(aa (au I)):Int)
abbrev qDRf(I:Cls):=(Cls.mk (aQ I) (aW I) (qDRc I))
abbrev qDRg(I:LX):=(↑(LX.k I):Int)
theorem Ydb(x y:Tar) (v:Bool):Zk E Fss (vc E Fss 400) 16 [.agg (encF ab .tariffs x),.agg (encF ab .tariffs y)] hp0 0 (λr=>ret E (patch hp0 0 r) r.v (.bool ab v))=(
 ∃(Q:Bool->Prop),(((!bO x==bO y)=ac->Q ac)/\((!bO x==bO y)=ab->((bJ x !=bJ y)=ac->Q ac)/\((bJ x !=bJ y)=ab->(((qDRe x) !=(qDRe y))=ac->Q ac)/\(((qDRe x) !=(qDRe y))=ab->Q ab))))/\(Q ac->ab=v)/\(Q ab->∃(R:LX->Prop),(∃(I:LX),R I/\ac=ac/\((0:Nat)=(0:Nat)/\(0:Nat)=(0:Nat)/\(0:Int)=(qDRg I)/\True)/\(qDRd x)/\(qDRd y)/\True)/\∀(I:LX),R I->(decide ((qDRg I)<(qDRe x))=ac->(0:Int)<=(qDRg I)/\(qDRg I)+(1:Int)<=(qDRe x)/\∀(J:Cls),(au x)[ag (qDRg I)]? =ae J->(0:Int)<=(qDRg I)/\(qDRg I)+(1:Int)<=(qDRe y)/\∀(U:Cls),(au y)[ag (qDRg I)]? =ae U->(Ex.sz (qDRc J)+(1:Nat)<=(1000000000:Nat)/\aa (aW J)+(1:Nat)<=(1000000000:Nat))/\((!eqE (qDRf J) (qDRf U))=ac->ab=v)/\((!eqE (qDRf J) (qDRf U))=ab->∃(a0:LX),R a0/\a0.2+(1:Nat)<=I.2/\ac=ac/\((0:Nat)=(0:Nat)/\(0:Nat)=(0:Nat)/\wr af ((qDRg I)+(1:Int))=(qDRg a0)/\True)/\(qDRd x)/\(qDRd y)/\True))/\(decide ((qDRg I)<(qDRe x))=ab->ac=v))):=by kernel_rfl
theorem Yh5{x y:Ex} (I:x.op=y.op) (J:x.n=y.n) (R:x.d0=y.d0) (U:x.d1=y.d1) (h5:x.d2=y.d2) (h6:x.d3=y.d3) (h7:x.l=y.l):x=y:=by
 cases x;cases y;simp only[aJ,bX,bA,bB,bC,bD,bw] at*;subst I J R U h5 h6 h7;rfl
theorem Z1p{α:Type} {l m:List α} {k:Nat} {a b:α} (I:l[k]? =ae a) (J:m[k]? =ae b) (h:l.take k=m.take k) (e:a=b):l.take (k+1)=m.take (k+1):=by
 rw[cA,cA,I,J,h,e]
theorem Z1q{α:Type} {l m:List α} {k:Nat} (I:l.length<=k) (J:l.length=m.length) (h:l.take k=m.take k):l=m:=by
 rwa[bm I,bm (by omega)] at h
theorem Yh6{α:Type} {l m:List α} {k:Nat} {a b:α} (J:l[k]? =ae a) (I:m[k]? =ae b) (e:a≠b):l≠m:=by
 rintro rfl;rw[J] at I;cases I;exact e rfl
theorem Zr0{α:Type} {l m:List α} {V:Bool} {G:Prop} {B:α->Prop} (hl:l.length=m.length) (hb:l.length<=1000000000) (hB:∀a∈l,B a) (hT:l=m->G) (hF:l≠m->ab=V):
 ∃R:LX->Prop,(∃I:LX,R I/\(0:Int)=(I.k:Int))/\∀I:LX,R I->(((I.k:Int)<(l.length:Int))->(0:Int)<=(I.k:Int)/\(I.k:Int)+1<=(l.length:Int)/\∀a,l[ag (I.k:Int)]? =ae a->(0:Int)<=(I.k:Int)/\(I.k:Int)+1<=(m.length:Int)/\∀b,m[ag (I.k:Int)]? =ae b->B a/\(¬a=b->ab=V)/\(a=b->∃a0:LX,R a0/\a0.r+1<=I.r/\wr af ((I.k:Int)+1)=(a0.k:Int)))/\(¬(I.k:Int)<(l.length:Int)->G):=by
 refine⟨λy=>y.k<=l.length/\l.take y.k=m.take y.k/\y.r=l.length-y.k,⟨⟨0,l.length,[],0⟩,⟨(by dsimp only;omega),rfl,rfl⟩,rfl⟩,?_⟩
 rintro⟨k,r,D,q⟩ ⟨h1,J,h3⟩
 simp only at h1 J h3⊢
 refine ay (λhk=>⟨by omega,by omega,λa U=>⟨by omega,by omega,λb a1=>⟨hB a (aI U),λe=>hF (Yh6 U a1 e),λe=> ?_⟩⟩⟩) (λhk=>hT (Z1q (by omega) hl J))
 exact⟨⟨k+1,l.length-(k+1),[],0⟩,⟨(by dsimp only;omega),Z1p U a1 J e,rfl⟩,(by dsimp only;omega),(wr64 (by omega) (by omega)).trans (by dsimp only;omega)⟩
theorem Z7t{l m:List Tst} {V:Bool} {G:Prop} (hl:l.length=m.length) (J:l.length<=1000000000) (hT:l=m->G) (hF:l≠m->ab=V):
 ∃R:LX->Prop,(∃I:LX,R I/\(0:Int)=(I.k:Int))/\∀I:LX,R I->(((I.k:Int)<(l.length:Int))->(0:Int)<=(I.k:Int)/\(I.k:Int)+1<=(l.length:Int)/\∀a,l[ag (I.k:Int)]? =ae a->(0:Int)<=(I.k:Int)/\(I.k:Int)+1<=(m.length:Int)/\∀b,m[ag (I.k:Int)]? =ae b->(¬a.attr=b.attr\/¬a.low=b.low\/¬a.high=b.high->ab=V)/\(a=b->∃U:LX,R U/\U.r+1<=I.r/\wr af ((I.k:Int)+1)=(U.k:Int)))/\(¬(I.k:Int)<(l.length:Int)->G):=by
 obtain⟨R,h1,h2⟩:=Zr0 (B:=λ_=>True) hl J (λ_ _=>trivial) hT hF
 refine⟨R,h1,λI hx=>ay (λhk=> ?_) (h2 I hx).2⟩
 obtain⟨a1,a2,a3⟩:=(h2 I hx).1 hk
 refine⟨a1,a2,λa ha=> ?_⟩
 obtain⟨b1,b2,a0⟩:=a3 a ha
 refine⟨b1,b2,λb J=>⟨λe=>(a0 b J).2.1 (by rintro rfl;simp at e),(a0 b J).2.2⟩⟩
theorem Yh7:∀(m:Nat),m<=1000000000->∀(x y:Ex),x.sz<m->PureC E 85 [exA x,exA y] (.bool ab (eqE x y)):=by
 intro m
 induction m with
 |zero=>intro _ x y h;omega
 |succ m ih=>
  intro hb x y hm;have hF:FnsOk E (Fsx m):=Zm E_ok (Zb F0_ok (Yg E_ok (Zc (f:=85) rfl) λx h=>ih (by omega) x.1 x.2.1 h)) _ _ _;refine Za E_ok (Xk E_ok F0_ok λf N c=>(Zf5 E_ok hF 400 f N c).1) ?_;rw[Yc9];delta qDR1 qDR2 qDR3 qDR4 qDR5;have a1:=x.sz_eq;have a0:=Ex.szL_len x.l
  simp only[Yf,Z6,Wh,Wi,Wj,beq_iff_eq,bne_iff_ne,beq_eq_false_iff_ne,bne_eq_false_iff_eq,decide_eq_true_eq,decide_eq_false_iff_not,bg,bH,bn,cp,aq,cG,cx,bi,beq_self_eq_true,Yt,Yn,ne_eq,and_true,true_and,aT,aP,false_or,or_false,true_implies,imp_self,bY,not_true_eq_false,not_false_eq_true,bK,Ex.eta,eqE_iff,eqE_no];have no:x≠y->ab=eqE x y:=λh=>(eqE_no.2 h).symm
  by_cases U:x.op=y.op/\x.n=y.n/\(x.d0=y.d0/\x.d1=y.d1/\x.d2=y.d2/\x.d3=y.d3)/\x.l.length=y.l.length
  ·obtain⟨J,R,I,h4⟩:=U
   refine⟨λb=>b=ab,⟨λh=>absurd J h,λ_=>⟨λh=>absurd R h,λ_=>⟨λh=>absurd I (by rintro⟨a,b,c,d⟩;rcases h with h|h|h|h<;>exact h (by assumption)),λ_=>⟨λh=>absurd h4 (by omega),λ_=>rfl⟩⟩⟩⟩,λh=>by simp at h,λ_=> ?_⟩
   exact Zr0 (B:=λa=>a.sz+1<=m) (by omega) (by omega) (λa ha=>by have:=Ex.szL_mem ha;omega) (λe=>(eqE_iff.2 (Yh5 J R I.1 I.2.1 I.2.2.1 I.2.2.2 e)).symm) (λh=>no λe=>h (by rw[e]))
  ·refine⟨λb=>b=ac,⟨λ_=>rfl,λJ=>⟨λ_=>rfl,λR=>⟨λ_=>rfl,λI=>⟨λ_=>rfl,λh4=>absurd ⟨J,R,I,by omega⟩ U⟩⟩⟩⟩,λ_=>no λe=>U (by rw[e];simp),λh=>by simp at h⟩
theorem Yh8:SumOk E 85 (Yc8 1000000000):=Yg E_ok (Zc (f:=85) rfl) λx h=>Yh7 1000000000 (aw _) x.1 x.2.1 h
theorem Ydc{x y:Cls} (I:x.name=y.name) (J:x.when_=y.when_) (R:x.pay=y.pay):x=y:=by
 cases x;cases y;simp only at*;subst I J R;rfl
theorem Ydd{x y:Tar} (I:x.name=y.name) (J:x.for_=y.for_) (R:x.clauses=y.clauses):x=y:=by
 cases x;cases y;simp only at*;subst I J R;rfl
theorem Yde{x y:Tst}:(x.attr=y.attr/\x.low=y.low/\x.high=y.high)↔x=y:=by
 cases x;cases y;simp
def SmC(c:Cls):Prop:=c.pay.sz<1000000000/\c.when_.length<1000000000
theorem Ydf(x y:Cls) (h:SmC x):PureC E 42 [.agg (encF ab .clauses x),.agg (encF ab .clauses y)] (.bool ab (eqE x y)):=by
 have hF:FnsOk E Fsc:=Zm E_ok (Zb F0_ok Yh8) _ _ _;refine Za E_ok (Zd E_ok hF 400) ?_;rw[Yda];delta qDRb qDR6 qDR7 qDR8 qDR9 qDRa;obtain⟨hz,hw⟩:=h
 simp only[Yf,Z6,Wh,Wi,Wj,beq_iff_eq,bne_iff_ne,beq_eq_false_iff_ne,bne_eq_false_iff_eq,decide_eq_true_eq,decide_eq_false_iff_not,bg,bH,bn,cp,aq,cG,cx,bi,beq_self_eq_true,Yt,Yn,ne_eq,and_true,true_and,aT,aP,false_or,or_false,true_implies,imp_self,bY,not_true_eq_false,not_false_eq_true,bK,Ex.eta,eqE_iff,eqE_no,Yde];have no:x≠y->ab=eqE x y:=λh=>(eqE_no.2 h).symm
 by_cases R:x.name=y.name/\x.when_.length=y.when_.length
 ·obtain⟨I,U⟩:=R
  refine⟨λb=>b=ab,⟨λh=>absurd I h,λ_=>⟨λh=>absurd U (by omega),λ_=>rfl⟩⟩,λh=>by simp at h,λ_=> ?_⟩
  exact Z7t (by omega) (by omega) (λe=>⟨by omega,by
   by_cases J:x.pay=y.pay
   ·rw[eqE_iff.2 J,eqE_iff.2 (Ydc I e J)]
   ·rw[eqE_no.2 J,eqE_no.2 λh=>J (by rw[h])]⟩) (λh=>no λe=>h (by rw[e]))
 ·exact⟨λb=>b=ac,⟨λ_=>rfl,λI=>⟨λ_=>rfl,λU=>absurd ⟨I,by omega⟩ R⟩⟩,λ_=>no λe=>R (by rw[e];simp),λh=>by simp at h⟩
theorem Yh9:SumOk E 42 Seqc:=Yg E_ok (Zc (f:=42) rfl) λx h=>Ydf x.1 x.2.1 h
def SmT1(t:Tar):Prop:=(∀c∈t.clauses,SmC c)/\t.clauses.length<1000000000
theorem Ydg(x y:Tar) (h:SmT1 x):PureC E 16 [.agg (encF ab .tariffs x),.agg (encF ab .tariffs y)] (.bool ab (eqE x y)):=by
 have hF:FnsOk E Fss:=Zm E_ok (Zb F0_ok Yh9) _ _ _;refine Za E_ok (Zd E_ok hF 400) ?_;rw[Ydb];delta qDRc qDRd qDRe qDRf qDRg;obtain⟨hz,hw⟩:=h
 simp only[Yf,Z6,Wh,Wi,Wj,beq_iff_eq,bne_iff_ne,beq_eq_false_iff_ne,bne_eq_false_iff_eq,decide_eq_true_eq,decide_eq_false_iff_not,bg,bH,bn,cp,aq,cG,cx,bi,beq_self_eq_true,Yt,Yn,ne_eq,and_true,true_and,aT,aP,false_or,or_false,true_implies,imp_self,bY,not_true_eq_false,not_false_eq_true,bK,Ex.eta,Cls.eta,eqE_iff,eqE_no];have no:x≠y->ab=eqE x y:=λh=>(eqE_no.2 h).symm
 by_cases R:x.name=y.name/\x.for_=y.for_/\x.clauses.length=y.clauses.length
 ·obtain⟨I,J,U⟩:=R
  refine⟨λb=>b=ab,⟨λh=>absurd I h,λ_=>⟨λh=>absurd J h,λ_=>⟨λh=>absurd U (by omega),λ_=>rfl⟩⟩⟩,λh=>by simp at h,λ_=> ?_⟩;exact Zr0 (B:=SmC) (by omega) (by omega) hz (λe=>(eqE_iff.2 (Ydd I J e)).symm) (λh=>no λe=>h (by rw[e]))
 ·exact⟨λb=>b=ac,⟨λ_=>rfl,λI=>⟨λ_=>rfl,λJ=>⟨λ_=>rfl,λU=>absurd ⟨I,J,by omega⟩ R⟩⟩⟩,λ_=>no λe=>R (by rw[e];simp),λh=>by simp at h⟩
end
section
open Go
open Classical in
end
section
open Go
noncomputable def dLre:Dc E (List Rep):=(Ze4 (E:=E) cz:Dc E (List (thy.dom cz)))
noncomputable def SinF:Sum thy:=Zcd E (λ_=>av) 10 dInE (λx=>x.1.length<=8) (λx=>inF x.1 x.2.1 x.2.2.1 x.2.2.2.1) λy=> .tup [tarE y.1,.int ab .i64 y.2]
theorem Zms:SumOk E 12 SinF:=Xa E_ok (Zc (f:=12) rfl) λx h=>Z80 x.1 x.2.1 x.2.2.1 x.2.2.2.1 h
noncomputable def SchF:Sum thy:=Zcd E (λ_=>av) 10 (.cons dLre (.cons dN (.cons dN .nil))) (λx=>x.1.length<=8) (λx=>chgF x.1 x.2.1 x.2.2.1) λy=> .psl gJ y ab
theorem Z3o:SumOk E 19 SchF:=Xa E_ok (Zc (f:=19) rfl) λx h=>Z69 x.1 x.2.1 x.2.2.1 h
noncomputable def FprE:Fns thy:=addS (addS F0 12 SinF) 25 ScpE
theorem Ye1:FnsOk E FprE:=Zb (Zb F0_ok Zms) Z24
theorem Z9a(l:List Rep) (J kd at_:Int) (c:List Ins) (e:Int):Zk E FprE (vc E FprE 400) 14 [.psl cz l ab,.int ab .i64 J,.int ab .i64 kd,.int ab .i64 at_] hp0 0 (λr=>ret E (patch hp0 0 r) r.v (.tup [.psl dx c ab,.int ab .i64 e]))=(
aa l<=(8:Nat)/\∀(y:Tar×Int),y=inF l J kd at_->((aE y !=(0:Int))=ac->c= []/\aE y=e/\True)/\((aE y !=(0:Int))=ab->((∀(c:Cls),c∈au (ao y)->Ex.sz (aC c)<=(10000:Nat)/\aa (aW c)+(1:Nat)<=(1000000000:Nat))/\aa (au (ao y))+(1:Nat)<=(1000000000:Nat))/\∀(I:List Ins×Int),I=Yc (ao y)->(ao I=c/\(ab=ac->ab=ac))/\aE I=e/\True)):=by kernel_rfl
structure FwX where
 k:Nat
 r:Nat
 n:Int
noncomputable def AfwE:Fr thy->Hp thy->Nat->Ann thy:=λT h i=>{X:=FwX,fr:=λx=> [(0,T 0),(3,.int ab .i64 x.n),(4,.int ab .i64 x.k)],bl:=λx=> [],src:=λ_=> [],md:= [],ih:=i,M:=i+40,meas:=λx=>x.r}
noncomputable def FfwE:Fns thy:=addL F0 11 5 AfwE E
theorem Ye2:FnsOk E FfwE:=Zm E_ok F0_ok _ _ _
theorem Z9b(l:List Rep) (v:Bool):Zk E FfwE (vc E FfwE 400) 11 [.psl cz l ab] hp0 0 (λr=>ret E (patch hp0 0 r) r.v (.bool ab v))=(
(decide ((↑(aa l):Int)>(8:Int))=ac->ab=v)/\(decide ((↑(aa l):Int)>(8:Int))=ab->∃(R:FwX->Prop),(∃(x:FwX),R x/\ac=ac/\((l=l/\(ab=ac->ab=ac))/\(0:Int)=FwX.n x/\(0:Int)=(↑(FwX.k x):Int)/\True)/\True)/\∀(x:FwX),R x->(decide ((↑(FwX.k x):Int)<(↑(aa l):Int))=ac->(0:Int)<=(↑(FwX.k x):Int)/\(↑(FwX.k x):Int)+(1:Int)<=(↑(aa l):Int)/\∀(J:Rep),l[ag (↑(FwX.k x):Int)]? =ae J->∃(I:FwX),R I/\I.2+(1:Nat)<=x.2/\ac=ac/\((l=l/\(ab=ac->ab=ac))/\wr af (FwX.n x+mm2 ab (↑(aa (ItD.text (cE J))):Int) (4000:Int))=FwX.n I/\wr af ((↑(FwX.k x):Int)+(1:Int))=(↑(FwX.k I):Int)/\True)/\True)/\(decide ((↑(FwX.k x):Int)<(↑(aa l):Int))=ab->(decide (FwX.n x<=(3000:Int))=ac->ac=v)/\(decide (FwX.n x<=(3000:Int))=ab->ab=v)))):=by kernel_rfl
noncomputable def Adi1:Fr thy->Hp thy->Nat->Ann thy:=λT h i=>{X:=FwX,fr:=λx=> [(0,T 0),(3,.int ab .i64 x.k)],bl:=λx=> [],src:=λ_=> [],md:= [],ih:=i,M:=i+40,meas:=λx=>x.r}
noncomputable def Adi2:Fr thy->Hp thy->Nat->Ann thy:=λT h i=>{X:=FwX,fr:=λx=> [(0,T 0),(3,T 3),(4,.int ab .i64 x.k)],bl:=λx=> [],src:=λ_=> [],md:= [],ih:=i,M:=i+40,meas:=λx=>x.r}
noncomputable def FdiE:Fns thy:=addL (addL F0 27 2 Adi1 E) 27 5 Adi2 E
theorem Ye3:FnsOk E FdiE:=Zm E_ok (Zm E_ok F0_ok _ _ _) _ _ _
abbrev qDT1(I:FwX):=(↑(FwX.k I):Int)
abbrev qDT2:=(ab=ac->ab=ac)
abbrev qDT3(I:Rep) (J:Rep):=(RefD.rw_ (gK I)==RefD.rw_ (gK J)&&(RefD.no (gK I)==RefD.no (gK J)&&ac))
theorem Z9c(l:List Rep) (v:Bool):Zk E FdiE (vc E FdiE 400) 27 [.psl cz l ab] hp0 0 (λr=>ret E (patch hp0 0 r) r.v (.bool ab v))=(
 ∃(R:FwX->Prop),(∃(x:FwX),R x/\ac=ac/\((l=l/\qDT2)/\(0:Int)=(qDT1 x)/\True)/\True)/\∀(x:FwX),R x->(decide ((qDT1 x)<(↑(aa l):Int))=ac->∃(U:FwX->Prop),(∃(I:FwX),U I/\ac=ac/\((l=l/\qDT2)/\(qDT1 x)=(qDT1 x)/\(0:Int)=(qDT1 I)/\True)/\True)/\∀(I:FwX),U I->(decide ((qDT1 I)<(qDT1 x))=ac->(0:Int)<=(qDT1 x)/\(qDT1 x)+(1:Int)<=(↑(aa l):Int)/\∀(J:Rep),l[ag (qDT1 x)]? =ae J->(0:Int)<=(qDT1 I)/\(qDT1 I)+(1:Int)<=(↑(aa l):Int)/\∀(a0:Rep),l[ag (qDT1 I)]? =ae a0->((qDT3 J a0)=ac->ab=v)/\((qDT3 J a0)=ab->∃(a1:FwX),U a1/\a1.2+(1:Nat)<=I.2/\ac=ac/\((l=l/\qDT2)/\(qDT1 x)=(qDT1 x)/\wr af ((qDT1 I)+(1:Int))=(qDT1 a1)/\True)/\True))/\(decide ((qDT1 I)<(qDT1 x))=ab->∃(J:FwX),R J/\J.2+(1:Nat)<=x.2/\ac=ac/\((l=l/\qDT2)/\wr af ((qDT1 x)+(1:Int))=(qDT1 J)/\True)/\True))/\(decide ((qDT1 x)<(↑(aa l):Int))=ab->ac=v)):=by kernel_rfl
noncomputable def Asm7:Fr thy->Hp thy->Nat->Ann thy:=λT h i=>{X:=FwX,fr:=λx=> [(0,T 0),(1,T 1),(5,.int ab .i64 x.k)],bl:=λx=> [],src:=λ_=> [],md:= [],ih:=i,M:=i+30,meas:=λx=>x.r}
noncomputable def Fsm7:Fns thy:=addL F0 18 4 Asm7 E
theorem Ye4:FnsOk E Fsm7:=Zm E_ok F0_ok _ _ _
theorem Z9d(a b:List Int) (v:Bool):Zk E Fsm7 (vc E Fsm7 400) 18 [.psl .ints a ab,.psl .ints b ab] hp0 0 (λr=>ret E (patch hp0 0 r) r.v (.bool ab v))=(
(((↑(aa a):Int) !=(↑(aa b):Int))=ac->ab=v)/\(((↑(aa a):Int) !=(↑(aa b):Int))=ab->∃(R:FwX->Prop),(∃(x:FwX),R x/\ac=ac/\((a=a/\(ab=ac->ab=ac))/\(b=b/\(ab=ac->ab=ac))/\(0:Int)=(↑(FwX.k x):Int)/\True)/\True)/\∀(x:FwX),R x->(decide ((↑(FwX.k x):Int)<(↑(aa a):Int))=ac->(0:Int)<=(↑(FwX.k x):Int)/\(↑(FwX.k x):Int)+(1:Int)<=(↑(aa a):Int)/\∀(I:Int),a[ag (↑(FwX.k x):Int)]? =ae I->(0:Int)<=(↑(FwX.k x):Int)/\(↑(FwX.k x):Int)+(1:Int)<=(↑(aa b):Int)/\∀(J:Int),b[ag (↑(FwX.k x):Int)]? =ae J->((I !=J)=ac->ab=v)/\((I !=J)=ab->∃(U:FwX),R U/\U.2+(1:Nat)<=x.2/\ac=ac/\((a=a/\(ab=ac->ab=ac))/\(b=b/\(ab=ac->ab=ac))/\wr af ((↑(FwX.k x):Int)+(1:Int))=(↑(FwX.k U):Int)/\True)/\True))/\(decide ((↑(FwX.k x):Int)<(↑(aa a):Int))=ab->ac=v))):=by kernel_rfl
noncomputable def prgF(l:List Rep) (I kd at_:Int):List Ins×Int:=if(inF l I kd at_).2≠0 then([],(inF l I kd at_).2) else Yc (inF l I kd at_).1
theorem Z9e(l:List Rep) (I kd at_:Int) (R:l.length<=8):PureC E 14 [.psl cz l ab,.int ab .i64 I,.int ab .i64 kd,.int ab .i64 at_] (.tup [.psl dx (prgF l I kd at_).1 ab,.int ab .i64 (prgF l I kd at_).2]):=by
 refine Za E_ok (Zd E_ok Ye1 400) ?_;refine Eq.mpr (Z9a l I kd at_ (prgF l I kd at_).1 (prgF l I kd at_).2) ?_;simp only[true_and,and_true,imp_self,implies_true,bne_iff_ne,bne_eq_false_iff_eq];unfold prgF;refine⟨R,λy J=>ay (λh=> ?_) (λh=> ?_)⟩
 ·rw[<-J,if_pos h];exact⟨rfl,rfl⟩
 ·rw[<-J,if_neg (λx=>x h)]
  refine⟨?_,λz U=>by rw[U];exact⟨rfl,rfl⟩⟩;have:=(Zpr l I kd at_).1;rw[J];exact this
def txR(x:Rep):Int:=mm2 ab (x.item.text.length:Int) 4000
def fewE(l:List Rep):Bool:=decide (l.length<=8)&&decide ((l.map txR).sum<=3000)
theorem Ye5(x:Rep):0<=txR x/\txR x<=4000:=by
 unfold txR mm2;simp only;split<;>omega
theorem Z9f{l:List Rep} {k:Nat} {x:Rep} (h:l[k]? =ae x):((l.take (k+1)).map txR).sum=((l.take k).map txR).sum+txR x:=by
 rw[cA,h,fK,List.map_append,List.sum_append];simp
theorem Z3p(l:List Rep):PureC E 11 [.psl cz l ab] (.bool ab (fewE l)):=by
 refine Za E_ok (Zd E_ok Ye2 400) ?_;rw[Z9b];simp only[be,decide_eq_true_eq,decide_eq_false_iff_not,true_and,and_true,imp_self,implies_true];refine ay (λh=> ?_) (λh=> ?_)
 ·unfold fewE;rw[decide_eq_false (by omega)];rfl
 ·refine⟨λx=>x.k<=l.length/\x.n=((l.take x.k).map txR).sum/\0<=x.n/\x.n<=4000*x.k/\x.r=l.length-x.k,⟨⟨0,l.length,0⟩,⟨aY _,rfl,by simp,by simp,rfl⟩,rfl,rfl⟩,?_⟩
  rintro x ⟨hk,I,R,U,hr⟩;refine ay (λg=>⟨by omega,by omega,λw J=> ?_⟩) (λg=> ?_)
  ·have ht:=Ye5 w
   have e:mm2 ab (w.item.text.length:Int) 4000=txR w:=rfl;rw[e];exact⟨⟨x.k+1,l.length-(x.k+1),x.n+txR w⟩,⟨by dsimp only;omega,by dsimp only;rw[Z9f J,I],by dsimp only;omega,by dsimp only;omega,rfl⟩,by dsimp only;omega,wr64 (by omega) (by omega),wr64 (by omega) (by omega)⟩
  ·rw[bm (by omega)] at I
   refine ay (λq=> ?_) (λq=> ?_)
   ·unfold fewE;rw[decide_eq_true (by omega),decide_eq_true (by omega)];rfl
   ·unfold fewE;rw[decide_eq_true (show l.length<=8 by omega),decide_eq_false (by omega)];rfl
theorem Z9g{l:List Rep} (h:fewE l=ac):l.length<=8:=by
 unfold fewE at h;rw[aq] at h;exact of_decide_eq_true h.1
open Classical in
noncomputable def disB(l:List Rep):Bool:=decide (DisE l)
theorem Yja{l:List Rep} (h:DisE l):disB l=true:=by unfold disB;simp[h]
theorem Ybt{l:List Rep} (h:¬DisE l):disB l=false:=by unfold disB;simp[h]
theorem Ye6{l:List Rep} (h:disB l=ac):DisE l:=Classical.byContradiction λI=>by rw[Ybt I] at h;cases h
theorem Z9h(l:List Rep) (h8:l.length<=8):PureC E 27 [.psl cz l ab] (.bool ab (disB l)):=by
 refine Za E_ok (Zd E_ok Ye3 400) ?_;rw[Z9c];delta qDT1 qDT2 qDT3;simp only[be,decide_eq_true_eq,decide_eq_false_iff_not,true_and,and_true,imp_self,implies_true,cG,aq,bi,beq_iff_eq,beq_eq_false_iff_ne];refine⟨λx=>x.k<=l.length/\(∀(i k:Nat) (a b:Rep),i<x.k->k<i->l[i]? =ae a->l[k]? =ae b->¬(b.ref.rw_=a.ref.rw_/\b.ref.no=a.ref.no))/\x.r=l.length-x.k,⟨⟨0,l.length,0⟩,⟨aY _,(λi k a b hi=>absurd hi (iH _)),rfl⟩,rfl⟩,?_⟩;rintro x ⟨I,hx,hr⟩;refine ay (λh=> ?_) (λh=> ?_)
 ·refine⟨λz=>z.k<=x.k/\(∀(k:Nat) (a b:Rep),k<z.k->l[x.k]? =ae a->l[k]? =ae b->¬(b.ref.rw_=a.ref.rw_/\b.ref.no=a.ref.no))/\z.r=x.k-z.k,⟨⟨0,x.k,0⟩,⟨aY _,(λk a b I=>absurd I (iH _)),rfl⟩,rfl⟩,?_⟩
  rintro z ⟨zk,hz,zr⟩;refine ay (λg=>⟨by omega,by omega,λa J=>⟨by omega,by omega,λb R=>ay (λe=> ?_) (λe=> ?_)⟩⟩) (λg=> ?_)
  ·refine(Ybt λhd=> ?_).symm
   have a3:z.k<x.k:=by omega
   obtain⟨i1,e1⟩:=aj.1 R;obtain⟨i2,e2⟩:=aj.1 J;have:=fW.1 hd z.k x.k i1 i2 a3;rw[e1,e2] at this;exact this ⟨e.1.symm,e.2.symm⟩
  ·refine⟨⟨z.k+1,x.k-(z.k+1),0⟩,⟨by dsimp only;omega,λk a' b' I U a0=> ?_,rfl⟩,by dsimp only;omega,wr64 (by omega) (by omega)⟩
   dsimp only at I;rcases gh.1 I with I|rfl
   ·exact hz k a' b' I U a0
   ·rw[J] at U;rw[R] at a0;cases U;cases a0
    rintro⟨q1,q2⟩;rcases e with e|e
    ·exact e q1.symm
    ·exact e q2.symm
  ·refine⟨⟨x.k+1,l.length-(x.k+1),0⟩,⟨by dsimp only;omega,λi k a b hi a2 J R=> ?_,rfl⟩,by dsimp only;omega,wr64 (by omega) (by omega)⟩
   dsimp only at hi;rcases gh.1 hi with hi|rfl
   ·exact hx i k a b hi a2 J R
   ·exact hz k a b (by omega) J R
 ·refine(Yja ?_).symm
  refine fW.2 λi j hi hj a1=> ?_;exact hx j i _ _ (by omega) a1 (ai hj) (ai hi)
theorem Z9i(a b:List Int) (hl:a.length<=1000000):PureC E 18 [.psl .ints a ab,.psl .ints b ab] (.bool ab (decide (a=b))):=by
 refine Za E_ok (Zd E_ok Ye4 400) ?_;rw[Z9d];simp only[be,decide_eq_true_eq,decide_eq_false_iff_not,true_and,and_true,imp_self,implies_true,bne_iff_ne,bne_eq_false_iff_eq];refine ay (λh=>(decide_eq_false λe=>h (by rw[e])).symm) (λh=> ?_);have a0:a.length=b.length:=by omega
 refine⟨λx=>x.k<=a.length/\(∀j,j<x.k->a[j]? =b[j]?)/\x.r=a.length-x.k,⟨⟨0,a.length,0⟩,⟨aY _,(λj I=>absurd I (iH _)),rfl⟩,rfl⟩,?_⟩;rintro x ⟨hk,U,hr⟩;refine ay (λg=>⟨by omega,by omega,λu J=>⟨by omega,by omega,λv R=>ay (λe=> ?_) (λe=> ?_)⟩⟩) (λg=> ?_)
 ·refine(decide_eq_false λe2=> ?_).symm
  rw[e2,R] at J;cases J;exact e rfl
 ·refine⟨⟨x.k+1,a.length-(x.k+1),0⟩,⟨by dsimp only;omega,λj I=> ?_,rfl⟩,by dsimp only;omega,wr64 (by omega) (by omega)⟩
  dsimp only at I;rcases gh.1 I with I|rfl
  ·exact U j I
  ·rw[J,R,e]
 ·refine(decide_eq_true (List.ext_getElem? λj=> ?_)).symm
  by_cases I:j<x.k
  ·exact U j I
  ·rw[ej (by omega),ej (by omega)]
end
section
open Go
section
variable {α β:Type} [DecidableEq α]
def Ztd:List (α×β)->α->Option β
 | [],_=>av
 |p::r,a=>if p.1=a then ae p.2 else Ztd r a
def putD:List (α×β)->α->β->List (α×β)
 | [],a,v=> [(a,v)]
 |p::r,a,v=>if p.1=a then(p.1,v)::r else p::putD r a v
def delD:List (α×β)->α->List (α×β)
 | [],_=> []
 |p::r,a=>if p.1=a then r else p::delD r a
theorem Zm4:∀(l:List (α×β)) (a:α),Z4 l a=Ztd l a
 | [],a=>rfl
 |p::r,a=>by
  rw[Z4,Ztd,Zm4 r a]
  by_cases h:p.1=a
  ·rw[if_pos h,if_pos h]
  ·rw[if_neg h,if_neg h]
theorem Z4z:∀(l:List (α×β)) (a:α) (v:β),putS l a v=putD l a v
 | [],a,v=>rfl
 |p::r,a,v=>by
  rw[putS,putD,Z4z r a v]
  by_cases h:p.1=a
  ·rw[if_pos h,if_pos h]
  ·rw[if_neg h,if_neg h]
theorem Ybx:∀(l:List (α×β)) (a:α),delS l a=delD l a
 | [],a=>rfl
 |p::r,a=>by
  rw[delS,delD,Ybx r a]
  by_cases h:p.1=a
  ·rw[if_pos h,if_pos h]
  ·rw[if_neg h,if_neg h]
end
def goD:Bool->Bool->List (List Nat×Bool)->List Cls->Int
 |a,b,_,[]=>if a=ac then 161 else if b=ac then 2 else 0
 |a,b,m,c::r=>if W6 c=ac then goD (a||resF c.name||(Ztd m c.name).getD ab) (b||decide (8<c.when_.length)||decide (24<Y6 c.pay)) (putD m c.name ac) r else 1
theorem Yby:∀(l:List Cls) (a b:Bool) (m:List (List Nat×Bool)),goC a b m l=goD a b m l
 | [],a,b,m=>rfl
 |c::r,a,b,m=>by rw[goC,goD,Zm4,Z4z,Yby r]
def Zfv(t:Tar):Int:=if Um t.name=ac/\1<=t.for_/\t.for_<=6 then goD (resF t.name) (decide (64<t.clauses.length)) [] t.clauses else 1
theorem Zgl(t:Tar):Z9 t=Zfv t:=by unfold Z9 Zfv;rw[Yby]
def prD(t:Tar):Int:=if Zfv t≠0 then Zfv t else if 2000<(Zb9 (Zme t)).length then 2 else 0
def chD(t:Tar):Int:=if Zfv t=0 then(goU 0 t.clauses).2 else Zfv t
def cpD(t:Tar):Int:=if Zfv t=0 then(if 4096<(cdT t).length\/64<dCs t.clauses then 2 else 0) else Zfv t
def eckD(t:Tar):Int:=if prD t≠0 then prD t else if chD t≠0 then chD t else if chkB t≠0 then chkB t else cpD t
theorem Ylm(t:Tar):(U8 t).2=prD t:=by
 unfold U8 prD;rw[Zgl];split
 ·rfl
 ·split<;>rfl
theorem Yln(t:Tar):(chkP t).2=chD t:=by
 unfold chkP chD;rw[Zgl];split<;>rfl
theorem Ylo(t:Tar):(Yc t).2=cpD t:=by
 unfold Yc cpD;rw[Zgl];split
 ·split<;>rfl
 ·rfl
theorem Zch:eckF=eckD:=by
 funext t;unfold eckF eckD;rw[Ylm,Yln,Ylo]
def Yjs(s:List Nat) (k:Int):Tar×Int:=
 if k<1\/6<k then(zTE,1) else
 match Wf s with
 |(t,_,e)=>if e≠0 then(zTE,e) else if t.for_≠k then(zTE,220) else match eckD t with| .ofNat 0=>(t,0)|e=>(zTE,e)
theorem Vc:Xm=Yjs:=by
 funext s k;unfold Xm Yjs;rw[Zch];rcases Wf s with⟨t,p,e⟩
 dsimp only;split
 ·rfl
 ·split
  ·rfl
  ·split
   ·rfl
   ·split
    ·rename_i h
     split
     ·rename_i I;rw[I] at h;exact absurd rfl h
     ·rfl
    ·rename_i h
     have h:=bK.1 h;rw[h];rfl
def Zv3(m:List (List Nat×Cls)) (l:List Cls):List (List Nat×Cls):=l.foldl (λm c=>putD m c.name c) m
def Zfw:List (List Nat×Cls)->List Cls->List Cls×List (List Nat×Cls)
 |m,[]=>([],m)
 |m,c::r=>match Ztd m c.name with
  |some d=>(d::(Zfw (delD m c.name) r).1,(Zfw (delD m c.name) r).2)
  |none=>(c::(Zfw m r).1,(Zfw m r).2)
def Ybz(m:List (List Nat×Cls)) (l:List Cls):List Cls:=l.filter λc=>(Ztd m c.name).isSome
def amD(t a:Tar):Tar:=⟨t.name,t.for_,(Zfw (Zv3 [] a.clauses) t.clauses).1++Ybz (Zfw (Zv3 [] a.clauses) t.clauses).2 a.clauses⟩
theorem Yad(m:List (List Nat×Cls)) (l:List Cls):Zaz m l=Zv3 m l:=by
 unfold Zaz Zv3
 congr 1
 funext m c;exact Z4z _ _ _
theorem Zm5:∀(l:List Cls) (m:List (List Nat×Cls)),W0 m l=Zfw m l
 | [],m=>rfl
 |c::r,m=>by
  rw[W0,Zfw,Zm4]
  cases Ztd m c.name with
  |none=>dsimp only;rw[Zm5 r]
  |some d=>dsimp only;rw[Ybx,Zm5 r]
theorem Zm6:amF=amD:=by
 funext t a;unfold amF amD Zca Ybz;rw[Yad,Zm5]
 congr 2
 congr 1
 funext c;rw[Zm4]
def txtA:List Nat:= [116,97,114,105,102,102,32,116,32,102,111,114,32,104,105,114,101,32,123,32,99,108,97,117,115,101,32,97,32,119,104,101,110,32,116,121,112,101,32,105,115,32,48,32,112,97,121,32,50,32,109,111,110,101,121,59,32,125]
def txtB:List Nat:= [116,97,114,105,102,102,32,117,32,102,111,114,32,104,105,114,101,32,123,32,99,108,97,117,115,101,32,98,32,119,104,101,110,32,116,121,112,101,32,105,115,32,49,32,112,97,121,32,51,32,109,111,110,101,121,59,32,125]
def txtC:List Nat:= [116,97,114,105,102,102,32,118,32,102,111,114,32,104,105,114,101,32,123,32,99,108,97,117,115,101,32,99,32,119,104,101,110,32,116,121,112,101,32,105,110,32,48,46,46,49,32,112,97,121,32,52,32,109,111,110,101,121,59,32,125]
def repE(no kd I:Int) (s:List Nat):Rep:=⟨⟨0,no⟩,⟨0,no⟩,0,⟨kd,⟨0,0⟩,0,0,0,1,I,0,0,0,0,0,0,s,[]⟩⟩
def W4:List Rep:= [repE 1 11 10 txtA,repE 2 12 20 txtB,repE 3 12 25 txtC,repE 4 13 30 []]
theorem in9:inF W4 0 1 9=(zTE,220):=by unfold inF;rw[Vc,Zch,Zm6];kernel_rfl
theorem in30:inF W4 0 1 30=(zTE,220):=by unfold inF;rw[Vc,Zch,Zm6];kernel_rfl
def Zy4(y:Tar×Int) (w:List Nat):Bool:=decide (y.2=0)&&decide (y.1.name= [116])&&decide (y.1.for_=1)&&decide ((y.1.clauses.flatMap λc=>c.name)=w)
theorem in10:Zy4 (inF W4 0 1 10) [97]=true:=by unfold inF;rw[Vc,Zch,Zm6];kernel_rfl
theorem in20:Zy4 (inF W4 0 1 20) [97,98]=true:=by unfold inF;rw[Vc,Zch,Zm6];kernel_rfl
theorem in25:Zy4 (inF W4 0 1 25) [97,98]=true:=by unfold inF;rw[Vc,Zch,Zm6];kernel_rfl
theorem inD2:(inF W4 0 2 20).2=220:=by unfold inF;rw[Vc,Zch,Zm6];kernel_rfl
theorem inR1:(inF W4 1 1 20).2=220:=by unfold inF;rw[Vc,Zch,Zm6];kernel_rfl
theorem Ylp:(inF W4 16 1 20).2=1:=by unfold inF;rw[Vc,Zch,Zm6];kernel_rfl
def txtP:List Nat:= [116,97,114,105,102,102,32,116,32,102,111,114,32,104,105,114,101,32,123,32,99,108,97,117,115,101,32,97,32,112,97,121,32,50,59,32,125]
theorem gd0:(Xm [] 0).2=1:=by rw[Vc];kernel_rfl
theorem gdA:(Xm txtA 2).2=220:=by rw[Vc];kernel_rfl
theorem gdP:(Xm txtP 1).2=170:=by rw[Vc];kernel_rfl
theorem chE:chgF W4 0 1= [10,20,25,30]:=by unfold chgF;kernel_rfl
theorem cpE:(Yc (inF W4 0 1 10).1).2=0/\(Yc (inF W4 0 1 10).1).1≠ []:=by
 unfold Yc;rw[Zgl];unfold inF;rw[Vc,Zch,Zm6];refine⟨by kernel_rfl,?_⟩;have:∀l:List Ins,l.isEmpty=ab->l≠ []:=λl h e=>by rw[e] at h;cases h
 exact this _ (by kernel_rfl)
end
section
open Go
noncomputable def SssE:Sum thy:=Zcd E (λ_=>av) 10 (.cons (dR .tariffs) (.cons (dR .tariffs) .nil)) (λx=>SmT1 x.1) (λx=>eqE x.1 x.2.1) λy=> .bool ab y
theorem Z38:SumOk E 16 SssE:=Xa E_ok (Zc (f:=16) rfl) λx h=>Ydg x.1 x.2.1 h
structure NmX where
 k:Nat
 r:Nat
 s:List Nat
noncomputable def AnmE:Fr thy->Hp thy->Nat->Ann thy:=λT h i=>{X:=NmX,fr:=λx=> [(1,T 1),(5,T 5),(6,T 6),(7,.str ab x.s),(8,.int ab .i64 x.k)],bl:=λx=>blkP h (T 5),src:=λ_=> [],md:= [],ih:=i,M:=i+40,meas:=λx=>x.r}
noncomputable def FnmE:Fns thy:=addL (addS (addS F0 12 SinF) 16 SssE) 31 6 AnmE E
theorem Yfe:FnsOk E FnmE:=Zm E_ok (Zb (Zb F0_ok Zms) Z38) _ _ _
abbrev qDV1(I:Tar×Int):=(bO (ao I)=bO (ao I)/\bJ (ao I)=bJ (ao I)/\(au (ao I)=au (ao I)/\(ab=ac->ab=ac))/\True)
abbrev qDV2(I:Tar×Int):=(↑(aa (au (ao I))):Int)
abbrev qDV3(I:NmX):=(↑(NmX.k I):Int)
theorem Z91(at_:Int) (w:List Nat) (v:Bool):Zk E FnmE (vc E FnmE 400) 31 [.int ab .i64 at_,.str ab w] hp0 0 (λr=>ret E (patch hp0 0 r) r.v (.bool ab v))=(
 (4:Nat)<=(8:Nat)/\∀(y:Tar×Int),y=inF W4 (0:Int) (1:Int) at_->((w==toL (dW #[]))=ac->((aE y==(220:Int))=ac->((∀(c:Cls),c∈au (ao y)->Ex.sz (aC c)+(1:Nat)<=(1000000000:Nat)/\aa (aW c)+(1:Nat)<=(1000000000:Nat))/\aa (au (ao y))+(1:Nat)<=(1000000000:Nat))/\∀(U:Bool),U=eqE (ao y) (Tar.mk [] (0:Int) [])->U=v)/\((aE y==(220:Int))=ab->ab=v))/\((w==toL (dW #[]))=ab->∃(R:NmX->Prop),(∃(x:NmX),R x/\ac=ac/\(w=w/\(0:Nat)=(0:Nat)/\aE y=aE y/\ []=NmX.s x/\(0:Int)=(qDV3 x)/\True)/\(qDV1 y)/\True)/\∀(x:NmX),R x->(decide ((qDV3 x)<(qDV2 y))=ac->(0:Int)<=(qDV3 x)/\(qDV3 x)+(1:Int)<=(qDV2 y)/\∀(J:Cls),(au (ao y))[ag (qDV3 x)]? =ae J->aa (NmX.s x)+aa (aQ J)<=(9223372036854775807:Nat)/\∃(I:NmX),R I/\I.2+(1:Nat)<=x.2/\ac=ac/\(w=w/\(0:Nat)=(0:Nat)/\aE y=aE y/\NmX.s x++aQ J=NmX.s I/\wr af ((qDV3 x)+(1:Int))=(qDV3 I)/\True)/\(qDV1 y)/\True)/\(decide ((qDV3 x)<(qDV2 y))=ab->((aE y==(0:Int))=ac->((bO (ao y)==toL (dW #[(116:UInt8)]))=ac->((bJ (ao y)==(1:Int))=ac->((NmX.s x==w)=ac->ac=v)/\((NmX.s x==w)=ab->ab=v))/\((bJ (ao y)==(1:Int))=ab->ab=v))/\((bO (ao y)==toL (dW #[(116:UInt8)]))=ab->ab=v))/\((aE y==(0:Int))=ab->ab=v)))):=by kernel_rfl
noncomputable def nmE(at_:Int) (w:List Nat):Bool:=if w= [] then decide ((inF W4 0 1 at_).2=220)&&eqE (inF W4 0 1 at_).1 zTE else Zy4 (inF W4 0 1 at_) w
theorem Yjk(l:List Rep) (R kd at_:Int):∀c∈(inF l R kd at_).1.clauses,c.name.length<=32:=by
 intro c J;obtain⟨_,_,U,h2⟩:=Zpr l R kd at_;by_cases h:(inF l R kd at_).2=0
 ·have I:=Vq (U h).1
  unfold Z9 at I;split at I
  ·have:=Z5f _ _ _ _ I c J
   unfold W6 Um at this;simp only[aq,decide_eq_true_eq] at this;exact this.1.1.1.1
  ·cases I
 ·rw[h2 h] at J;cases J
theorem Ybu{t:Tar} (h:SmE t):SmT1 t:=⟨λc I=>⟨Nat.lt_of_le_of_lt (h.1 c I).1 (by decide),(h.1 c I).2⟩,h.2⟩
theorem Yff(at_:Int) (w:List Nat):PureC E 31 [.int ab .i64 at_,.str ab w] (.bool ab (nmE at_ w)):=by
 refine Za E_ok (Zd E_ok Yfe 400) ?_;rw[Z91];delta qDV1 qDV2 qDV3;simp only[be,decide_eq_true_eq,decide_eq_false_iff_not,true_and,and_true,imp_self,implies_true,beq_iff_eq,beq_eq_false_iff_ne];refine⟨by decide,λy hy=> ?_⟩;have hs:=(Zpr W4 0 1 at_).1;have hl:=(Zpr W4 0 1 at_).2.1;have hn:=Yjk W4 0 1 at_;unfold nmE;rw[<-hy] at hs hl hn⊢;refine ay (λh=> ?_) (λh=> ?_)
 ·have h:w= []:=h
  rw[if_pos h];refine ay (λI=> ?_) (λI=> ?_)
  ·have:=Ybu hs
   refine⟨this,λz hz=> ?_⟩;rw[hz,decide_eq_true I];rfl
  ·rw[decide_eq_false I];rfl
 ·have h:¬w= []:=h
  rw[if_neg h];refine⟨λx=>x.k<=y.1.clauses.length/\x.s=(y.1.clauses.take x.k).flatMap (λc=>c.name)/\x.s.length<=32*x.k/\x.r=y.1.clauses.length-x.k,⟨⟨0,y.1.clauses.length,[]⟩,⟨aY _,rfl,by simp,rfl⟩,rfl,rfl⟩,?_⟩;rintro x ⟨hk,J,a1,hr⟩;refine ay (λg=>⟨by omega,by omega,λc hc=> ?_⟩) (λg=> ?_)
  ·have a0:=hn c (aI hc)
   refine⟨by omega,⟨x.k+1,y.1.clauses.length-(x.k+1),x.s++c.name⟩,⟨by dsimp only;omega,?_,by dsimp only;rw[aB];omega,rfl⟩,by dsimp only;omega,rfl,wr64 (by omega) (by omega)⟩;dsimp only;rw[cA,hc,fK,List.flatMap_append,J];simp
  ·rw[bm (by omega)] at J
   unfold Zy4;rw[<-J];refine ay (λR=>ay (λq2=>ay (λq3=>ay (λU=> ?_) (λU=> ?_)) (λq3=> ?_)) (λq2=> ?_)) (λR=> ?_)
   ·have q2:y.1.name= [116]:=q2
    rw[decide_eq_true R,decide_eq_true q2,decide_eq_true q3,decide_eq_true U];rfl
   ·rw[decide_eq_false U,iJ]
   ·rw[decide_eq_false q3,iJ,ew]
   ·have q2:¬y.1.name= [116]:=q2
    rw[decide_eq_false q2,iJ,ew,ew]
   ·rw[decide_eq_false R,ew,ew,ew]
noncomputable def SnmE:Sum thy:=X4 (.cons dN (.cons dS .nil)) (λ_=>True) (λx=>nmE x.1 x.2.1) λy=> .bool ab y
theorem Yfg:SumOk E 31 SnmE:=Zw E_ok (Zc (f:=31) rfl) λx _=>Yff x.1 x.2.1
noncomputable def SprF:Sum thy:=Zcd E (λ_=>av) 10 dInE (λx=>x.1.length<=8) (λx=>prgF x.1 x.2.1 x.2.2.1 x.2.2.2.1) λy=> .tup [.psl dx y.1 ab,.int ab .i64 y.2]
theorem Yfh:SumOk E 14 SprF:=Xa E_ok (Zc (f:=14) rfl) λx h=>Z9e x.1 x.2.1 x.2.2.1 x.2.2.2.1 h
noncomputable def dIts:Dc E (List Int):=(Ze4 (E:=E) gJ:Dc E (List (thy.dom gJ)))
noncomputable def Yjl:Sum thy:=Zcd E (λ_=>av) 10 (.cons dIts (.cons dIts .nil)) (λx=>x.1.length<=1000000) (λx=>(decide (x.1=x.2.1):Bool)) λy=> .bool ab y
theorem Z92:SumOk E 18 Yjl:=Xa E_ok (Zc (f:=18) rfl) λx h=>Z9i x.1 x.2.1 h
noncomputable def FsnE:Fns thy:=addS (addS (addS (addS (addS (addS F0 31 SnmE) 12 SinF) 21 SgoE) 14 SprF) 18 Yjl) 19 SchF
theorem Yfi:FnsOk E FsnE:=Zb (Zb (Zb (Zb (Zb (Zb F0_ok Yfg) Zms) Z28) Yfh) Z92) Z3o
abbrev qDV4(I:Tar×Int):=(aE I==(220:Int))
abbrev qDV5:=(1:Int)
theorem Z39(u:Nat) (v:Bool):Zk E FsnE (vc E FsnE 400) 10 [] hp0 0 (λr=>ret E (patch hp0 0 r) r.v (.bool ab v))=(
 True/\∀(y:Bool),y=nmE (9:Int) []->((!y)=ac->ab=v)/\((!y)=ab->True/\∀(y:Bool),y=nmE (10:Int) [(97:Nat)]->((!y)=ac->ab=v)/\((!y)=ab->True/\∀(y:Bool),y=nmE (20:Int) [(97:Nat),(98:Nat)]->((!y)=ac->ab=v)/\((!y)=ab->True/\∀(y:Bool),y=nmE (25:Int) [(97:Nat),(98:Nat)]->((!y)=ac->ab=v)/\((!y)=ab->True/\∀(y:Bool),y=nmE (30:Int) []->((!y)=ac->ab=v)/\((!y)=ab->(4:Nat)<=(8:Nat)/\∀(y:Tar×Int),y=inF W4 (0:Int) (2:Int) (20:Int)->(4:Nat)<=(8:Nat)/\∀(J:Tar×Int),J=inF W4 qDV5 qDV5 (20:Int)->(4:Nat)<=(8:Nat)/\∀(R:Tar×Int),R=inF W4 (16:Int) qDV5 (20:Int)->True/\∀(U:Tar×Int),U=Xm [] (0:Int)->True/\∀(a0:Tar×Int),a0=Xm txtA (2:Int)->True/\∀(a1:Tar×Int),a1=Xm txtP qDV5->(4:Nat)<=(8:Nat)/\∀(I:List Ins×Int),I=prgF W4 (0:Int) qDV5 (10:Int)->((qDV4 y)=ac->((qDV4 J)=ac->((aE R==qDV5)=ac->((aE U==qDV5)=ac->((qDV4 a0)=ac->((aE a1==(170:Int))=ac->((aE I==(0:Int))=ac->(decide ((↑(aa (ao I)):Int)>(0:Int))=ac->(4:Nat)<=(8:Nat)/\∀(y:List Int),y=chgF W4 (0:Int) qDV5->aa y<=(1000000:Nat)/\∀(a2:Bool),a2=decide (y= [(10:Int),(20:Int),(25:Int),(30:Int)])->a2=v)/\(decide ((↑(aa (ao I)):Int)>(0:Int))=ab->ab=v))/\((aE I==(0:Int))=ab->ab=v))/\((aE a1==(170:Int))=ab->ab=v))/\((qDV4 a0)=ab->ab=v))/\((aE U==qDV5)=ab->ab=v))/\((aE R==qDV5)=ab->ab=v))/\((qDV4 J)=ab->ab=v))/\((qDV4 y)=ab->ab=v))))))):=by kernel_rfl
theorem nm9:nmE 9 []=true:=by unfold nmE;rw[if_pos rfl,in9,Zlz];rfl
theorem nm30:nmE 30 []=true:=by unfold nmE;rw[if_pos rfl,in30,Zlz];rfl
theorem nm10:nmE 10 [97]=true:=by unfold nmE;rw[if_neg (by decide),in10]
theorem nm20:nmE 20 [97,98]=true:=by unfold nmE;rw[if_neg (by decide),in20]
theorem nm25:nmE 25 [97,98]=true:=by unfold nmE;rw[if_neg (by decide),in25]
theorem ifT{y:Bool} {A B:Prop} (h:y=ac) (k:B):((!y)=ac->A)/\((!y)=ab->B):=ay (λe=>by rw[h] at e;cases e) (λ_=>k)
theorem ifE{a b:Int} {A B:Prop} (h:a=b) (k:A):((a==b)=ac->A)/\((a==b)=ab->B):=⟨λ_=>k,λe=>by rw[h,beq_self_eq_true] at e;cases e⟩
theorem prg10:(prgF W4 0 1 10).2=0/\(prgF W4 0 1 10).1≠ []:=by
 have I:(inF W4 0 1 10).2=0:=by
  have:=in10;unfold Zy4 at this;simp only[aq,decide_eq_true_eq] at this;exact this.1.1.1
 unfold prgF;rw[if_neg (λh=>h I)];exact cpE
theorem Zyp:PureC E 10 [] (.bool ab ac):=by
 refine Za E_ok (Zd E_ok Yfi 400) ?_;rw[Z39 0];refine⟨trivial,λy h=>ifT (h.trans nm9) ⟨trivial,λy h=>ifT (h.trans nm10) ⟨trivial,λy h=>ifT (h.trans nm20) ⟨trivial,λy h=>ifT (h.trans nm25) ⟨trivial,λy h=>ifT (h.trans nm30) ⟨by decide,λa R=>⟨by decide,λb U=>⟨by decide,λc hc=>⟨trivial,λd hd=>⟨trivial,λe he=>⟨trivial,λf hf=>⟨by decide,λg I=> ?_⟩⟩⟩⟩⟩⟩⟩⟩⟩⟩⟩⟩
 refine ifE (by rw[R];exact inD2) (ifE (by rw[U];exact inR1) (ifE (by rw[hc];exact Ylp) (ifE (by rw[hd];exact gd0) (ifE (by rw[he];exact gdA) (ifE (by rw[hf];exact gdP) (ifE (by rw[I];exact prg10.1) ?_))))));have hp:g.1.length>0:=List.length_pos_iff.2 (by rw[I];exact prg10.2);refine⟨λ_=>⟨by decide,λq J=>⟨?_,λr hr=> ?_⟩⟩,λh=>by have:=of_decide_eq_false h;omega⟩
 ·rw[J,chE];decide
 ·rw[hr,J,chE];rfl
noncomputable def SsnE:Sum thy:=X4 (.nil:DcL E Unit) (λ_=>True) (λ_=>ac) λy=> .bool ab y
theorem Yfj:SumOk E 10 SsnE:=Zw E_ok (Zc (f:=10) rfl) λx _=>Zyp
end
section
open Go
noncomputable def SfwE:Sum thy:=Zcd E (λ_=>av) 10 (.cons dLre .nil) (λ_=>True) (λx=>fewE x.1) λy=> .bool ab y
theorem Yf4:SumOk E 11 SfwE:=Xa E_ok (Zc (f:=11) rfl) λx _=>Z3p x.1
noncomputable def FlwE:Fns thy:=addS (addS (addS (addS (addS F0 10 SsnE) 11 SfwE) 12 SinF) 19 SchF) 16 SssE
theorem Yf5:FnsOk E FlwE:=Zb (Zb (Zb (Zb (Zb F0_ok Yfj) Yf4) Zms) Z3o) Z38
end
section
open Go
theorem Yd6{l m:List Rep} {I kd:Int} (at_:Int) (h:edsF m I kd=edsF l I kd):inF m I kd at_=inF l I kd at_:=by
 unfold inF;rw[h]
theorem Zu7{l m:List Rep} (I kd at_:Int) (hd:DisE l) (J:m.Perm l):inF m I kd at_=inF l I kd at_:=
 Yd6 at_ (Yan I kd hd (J.filter _))
theorem Yd7{l:List Rep} (I kd at_:Int) (hd:DisE l):inF l.reverse I kd at_=inF l I kd at_:=Zu7 _ _ _ hd (List.reverse_perm l)
theorem Z8m{l:List Rep} (I kd at_:Int) (f:Nat) (hd:DisE l):inF (l.drop f++l.take f) I kd at_=inF l I kd at_:=by
 refine Zu7 _ _ _ hd ?_;have:(l.drop f++l.take f).Perm (l.take f++l.drop f):=List.perm_append_comm
 rwa[List.take_append_drop] at this
def lesF(I kd at_:Int) (l:List Rep):List Rep:=l.filter λx=>edO I kd x&&decide (x.item.from_<=at_)
theorem Z8n{l:List Rep} (I kd at_:Int) (hd:DisE l):edsF (lesF I kd at_ l) I kd=(edsF l I kd).filter λx=>decide (x.item.from_<=at_):=by
 have e:(lesF I kd at_ l).filter (edO I kd)=(l.filter (edO I kd)).filter λx=>decide (x.item.from_<=at_):=by
  unfold lesF;rw[hH,hH];refine jN λx _=> ?_;cases edO I kd x<;>cases decide (x.item.from_<=at_)<;>rfl
 unfold edsF;rw[e];refine Znd ((Y1 _).trans ((Y1 _).filter _).symm) (Zbx _) ((Zbx _).filter _) λa U b hb J R=> ?_;have ma:=(Y1 _).mem_iff.1 U;have mb:=(Y1 _).mem_iff.1 hb;exact Zwi I kd hd a (cO.1 ma).1 b (cO.1 mb).1 J R
theorem Z8o{l:List Rep} (I kd at_:Int) (hd:DisE l):inF (lesF I kd at_ l) I kd at_=inF l I kd at_:=by
 have e:rnE Xm eckF amF kd at_ (edsF (lesF I kd at_ l) I kd) (zTE,ab)=rnE Xm eckF amF kd at_ (edsF l I kd) (zTE,ab):=by
  rw[Zne,Zne,Zdc at_ (show AscE (edsF (lesF I kd at_ l) I kd) from Zbx _),Zdc at_ (show AscE (edsF l I kd) from Zbx _),Z8n I kd at_ hd,hH]
  congr 1
  refine jN λx _=> ?_;cases decide (x.item.from_<=at_)<;>rfl
 unfold inF;rw[e]
end
section
open Go
noncomputable def SdiE:Sum thy:=X4 (.cons dLre .nil) (λx=>x.1.length<=8) (λx=>disB x.1) λy=> .bool ab y
theorem Yf9:SumOk E 27 SdiE:=Zw E_ok (Zc (f:=27) rfl) λx h=>Z9h x.1 h
structure OrX where
 k:Int
 r:Nat
 L:List Rep
noncomputable def Ylq:Fr thy->Hp thy->Nat->Ann thy:=λT h i=>{X:=OrX,fr:=λx=> [(0,T 0),(1,T 1),(2,T 2),(3,T 3),(4,T 4),(11,.sl i 0 x.L.length 21 av),(12,.int ab .i64 x.k)],bl:=λx=> [(i,.rows cz x.L 0)],src:=λ_=> [(i,11)],md:= [bOf (T 11)],ih:=i+1,M:=i+60,meas:=λx=>x.r}
noncomputable def Ylr:Fr thy->Hp thy->Nat->Ann thy:=λT h i=>{X:=OrX,fr:=λx=> [(0,T 0),(1,T 1),(2,T 2),(3,T 3),(11,T 11),(13,T 13),(14,.sl i 0 x.L.length 21 av),(15,.int ab .i64 x.k)],bl:=λx=>(i,.rows cz x.L 0)::(blkS h (T 11)++blkS h (T 13)),src:=λ_=> [(i,14)],md:= [bOf (T 14)],ih:=i+1,M:=i+60,meas:=λx=>x.r}
noncomputable def ForL:Fns thy:=addL (addL (addS FlwE 27 SdiE) 5 7 Ylq E) 5 14 Ylr E
theorem Yga:FnsOk E ForL:=Zm E_ok (Zm E_ok (Zb Yf5 Yf9) _ _ _) _ _ _
def orT(l:List Rep) (J kd at_:Int) (v:Bool) (x:OrX) (U:List Rep) (a0:Nat):Prop:=
 ∃(R:OrX->Prop),(∃(I:OrX),R I/\ac=ac/\((l=l/\(ab=ac->ab=ac))/\J=J/\kd=kd/\at_=at_/\((0:Nat)=(0:Nat)/\aa (OrX.L
 x)=aa (OrX.L x)/\True)/\((0:Nat)=(0:Nat)/\a0=a0/\True)/\((0:Nat)=(0:Nat)/\(0:Nat)=aa (OrX.L I)/\True)/\(0:Int)=OrX.k I/\
 True)/\([]=OrX.L I/\(0:Nat)=(0:Nat))/\(OrX.L x=OrX.L x/\(0:Nat)=(0:Nat))/\(U=U/\(0:Nat)=(0:Nat))/\True)/\∀(I:OrX),R I->(decide (OrX.k
 I<(↑(aa l):Int))=ac->(0:Int)<=OrX.k I/\OrX.k I+(1:Int)<=(↑(aa l):Int)/\∀(a2:Rep),l[ag (OrX.k I)]? =ae a2->∃(Q:
 Bool->Prop),((0:Int)<=OrX.k I/\OrX.k I+(1:Int)<=(↑(aa l):Int)/\∀(x:Rep),l[ag (OrX.k I)]? =ae x->((RefD.rw_ (gK x)==J)=ac
 ->(0:Int)<=OrX.k I/\OrX.k I+(1:Int)<=(↑(aa l):Int)/\∀(x:Rep),l[ag (OrX.k I)]? =ae x->((ItD.number (cE x)==kd)=ac->(0:Int)
 <=OrX.k I/\OrX.k I+(1:Int)<=(↑(aa l):Int)/\∀(x:Rep),l[ag (OrX.k I)]? =ae x->(decide (ItD.from_ (cE x)<=at_)=ac->((ItD.kind
 (cE a2)==(11:Int))=ac->Q ac)/\((ItD.kind (cE a2)==(11:Int))=ab->((ItD.kind (cE a2)==(12:Int))=ac->Q ac)/\((ItD.kind
 (cE a2)==(12:Int))=ab->((ItD.kind (cE a2)==(13:Int))=ac->Q ac)/\((ItD.kind (cE a2)==(13:Int))=ab->Q ab))))/\(decide
 (ItD.from_ (cE x)<=at_)=ab->Q ab))/\((ItD.number (cE x)==kd)=ab->Q ab))/\((RefD.rw_ (gK x)==J)=ab->Q ab))/\(Q ac->(0:
 Int)<=OrX.k I/\OrX.k I+(1:Int)<=(↑(aa l):Int)/\∀(a1:Rep),l[ag (OrX.k I)]? =ae a1->(aa (OrX.L I)<=aa (OrX.L I)/\
 (0:Nat)<=aa (OrX.L I)/\(aa (OrX.L I)+(1:Nat))*(192:Nat)<=(140737488355328:Nat))/\∃(a3:OrX),R a3/\a3.2+(1:Nat)<=I.2/\ac=
 ac/\((l=l/\(ab=ac->ab=ac))/\J=J/\kd=kd/\at_=at_/\((0:Nat)=(0:Nat)/\aa (OrX.L x)=aa (OrX.L x)/\True)/\((0:Nat)=
 (0:Nat)/\a0=a0/\True)/\((0:Nat)=(0:Nat)/\aa (OrX.L I)+(1:Nat)=aa (OrX.L a3)/\True)/\wr af (OrX.k I+(1:Int))=OrX.k a3
 /\True)/\(ar (aa (OrX.L I)) (OrX.L I)++ [a1]=OrX.L a3/\(0:Nat)=(0:Nat))/\(OrX.L x=OrX.L x/\(0:Nat)=(0:Nat))/\(U=U/\(0:Nat)=(0
 :Nat))/\True)/\(Q ab->∃(a1:OrX),R a1/\a1.2+(1:Nat)<=I.2/\ac=ac/\((l=l/\(ab=ac->ab=ac))/\J=J/\kd=kd/\at_=at_/\((0:
 Nat)=(0:Nat)/\aa (OrX.L x)=aa (OrX.L x)/\True)/\((0:Nat)=(0:Nat)/\a0=a0/\True)/\((0:Nat)=(0:Nat)/\aa (OrX.L I)=
 aa (OrX.L a1)/\True)/\wr af (OrX.k I+(1:Int))=OrX.k a1/\True)/\(OrX.L I=OrX.L a1/\(0:Nat)=(0:Nat))/\(OrX.L x=OrX.L x/\(0:Nat)=
 (0:Nat))/\(U=U/\(0:Nat)=(0:Nat))/\True))/\(decide (OrX.k I<(↑(aa l):Int))=ab->aa l<=(8:Nat)/\∀(y:Tar×Int),y=inF l J kd
 at_->(0:Nat)+aa (OrX.L x)<=aa (OrX.L x)/\aa (ar (aa (OrX.L x)) (bx (0:Nat) (OrX.L x)))<=(8:Nat)/\∀(a4:Tar×
 Int),a4=inF (ar (aa (OrX.L x)) (bx (0:Nat) (OrX.L x))) J kd at_->(0:Nat)+a0<=aa U/\aa (ar a0 (bx (0:Nat)
 U))<=(8:Nat)/\∀(a5:Tar×Int),a5=inF (ar a0 (bx (0:Nat) U)) J kd at_->(0:Nat)+aa (OrX.L I)<=aa (OrX.L I)/\aa
 (ar (aa (OrX.L I)) (bx (0:Nat) (OrX.L I)))<=(8:Nat)/\∀(a6:Tar×Int),a6=inF (ar (aa (OrX.L I)) (bx (0:Nat)
 (OrX.L I))) J kd at_->((∀(c:Cls),c∈au (ao y)->Ex.sz (aC c)+(1:Nat)<=(1000000000:Nat)/\aa (aW c)+(1:Nat)<=(1000000000
 :Nat))/\aa (au (ao y))+(1:Nat)<=(1000000000:Nat))/\∀(a7:Bool),a7=eqE (ao y) (ao a4)->(a7=ac->((∀(c:Cls),c∈
 au (ao y)->Ex.sz (aC c)+(1:Nat)<=(1000000000:Nat)/\aa (aW c)+(1:Nat)<=(1000000000:Nat))/\aa (au (ao
 y))+(1:Nat)<=(1000000000:Nat))/\∀(a8:Bool),a8=eqE (ao y) (ao a5)->(a8=ac->((∀(c:Cls),c∈au (ao y)->Ex.sz (aC c)+(1
 :Nat)<=(1000000000:Nat)/\aa (aW c)+(1:Nat)<=(1000000000:Nat))/\aa (au (ao y))+(1:Nat)<=(1000000000:Nat))/\∀(a9:
 Bool),a9=eqE (ao y) (ao a6)->(a9=ac->((aE y==aE a4)=ac->((aE y==aE a5)=ac->((aE y==aE a6)=ac->
 ac=v)/\((aE y==aE a6)=ab->ab=v))/\((aE y==aE a5)=ab->ab=v))/\((aE y==aE a4)=ab->ab=v))/\(a9
 =ab->ab=v))/\(a8=ab->ab=v))/\(a7=ab->ab=v))
abbrev qFW1:=(0:Nat)
abbrev qFW2(I:Int):=(ag I)
abbrev qFW3(I:List Rep):=(↑(aa I):Int)
abbrev qFW4:=(140737488355328:Nat)
theorem Yak(l:List Rep) (J kd at_ I:Int) (v:Bool):Zk E ForL (vc E ForL 400) 5 [.psl cz l ab,.int ab .i64 J,.int ab .i64 kd,.int ab .i64 at_,.int ab .i64 I] hp0 0 (λr=>ret E (patch hp0 0 r) r.v (.bool ab v))=(
 True/\∀(y:Bool),y=ac->((!y)=ac->ab=v)/\((!y)=ab->True/\∀(y:Bool),y=fewE l->((!y)=ac->ac=v)/\((!y)=ab->aa l<=(8:Nat)/\∀(y:Bool),y=disB l->((!y)=ac->ac=v)/\((!y)=ab->(decide (I<(0:Int))=ac->ac=v)/\(decide (I<(0:Int))=ab->(decide (I>(qFW3 l))=ac->ac=v)/\(decide (I>(qFW3 l))=ab->∃(R:OrX->Prop),(∃(x:OrX),R x/\ac=ac/\((l=l/\(ab=ac->ab=ac))/\J=J/\kd=kd/\at_=at_/\I=I/\(qFW1=qFW1/\qFW1=aa (OrX.L x)/\True)/\wr af ((qFW3 l)-(1:Int))=OrX.k x/\True)/\([]=OrX.L x/\qFW1=qFW1)/\True)/\∀(x:OrX),R x->(decide (OrX.k x>=(0:Int))=ac->(0:Int)<=OrX.k x/\OrX.k x+(1:Int)<=(qFW3 l)/\∀(a0:Rep),l[ag (OrX.k x)]? =ae a0->(aa (OrX.L x)<=aa (OrX.L x)/\qFW1<=aa (OrX.L x)/\(aa (OrX.L x)+(1:Nat))*(192:Nat)<=qFW4)/\∃(U:OrX),R U/\U.2+(1:Nat)<=x.2/\ac=ac/\((l=l/\(ab=ac->ab=ac))/\J=J/\kd=kd/\at_=at_/\I=I/\(qFW1=qFW1/\aa (OrX.L x)+(1:Nat)=aa (OrX.L U)/\True)/\wr af (OrX.k x-(1:Int))=OrX.k U/\True)/\(ar (aa (OrX.L x)) (OrX.L x)++ [a0]=OrX.L U/\qFW1=qFW1)/\True)/\(decide (OrX.k x>=(0:Int))=ab->((0:Int)<=I/\I<=(qFW3 l))/\(bx (qFW2 I) l= []->((0:Int)<=I/\I<=(qFW3 l))/\(ar (qFW2 I) l= []->orT l J kd at_ v x ([]) (qFW1))/\(ar (qFW2 I) l≠ []->(qFW1<=qFW1/\qFW1<=qFW1/\(qFW1+aa (ar (qFW2 I) l))*(192:Nat)<=qFW4)/\orT l J kd at_ v x (ar qFW1 []++ar (qFW2 I) l) (qFW1+aa (ar (qFW2 I) l))))/\(bx (qFW2 I) l≠ []->(qFW1<=qFW1/\qFW1<=qFW1/\(qFW1+aa (bx (qFW2 I) l))*(192:Nat)<=qFW4)/\((0:Int)<=I/\I<=(qFW3 l))/\(ar (qFW2 I) l= []->orT l J kd at_ v x (ar qFW1 []++bx (qFW2 I) l) (qFW1+aa (bx (qFW2 I) l)))/\(ar (qFW2 I) l≠ []->(qFW1+aa (bx (qFW2 I) l)<=aa (ar qFW1 []++bx (qFW2 I) l)/\qFW1<=qFW1+aa (bx (qFW2 I) l)/\(qFW1+aa (bx (qFW2 I) l)+aa (ar (qFW2 I) l))*(192:Nat)<=qFW4)/\orT l J kd at_ v x (ar (qFW1+aa (bx (qFW2 I) l)) (ar qFW1 []++bx (qFW2 I) l)++ar (qFW2 I) l) (qFW1+aa (bx (qFW2 I) l)+aa (ar (qFW2 I) l))))))))))):=by kernel_rfl
theorem Zwb{I kd at_:Int} {l:List Rep} {k:Nat} {w:Rep} (h:l[k]? =ae w):lesF I kd at_ (l.take (k+1))=lesF I kd at_ (l.take k)++(if edO I kd w=ac/\w.item.from_<=at_ then[w] else[]):=by
 unfold lesF;rw[V0 h];by_cases c:edO I kd w=ac/\w.item.from_<=at_
 ·rw[if_pos c,if_pos (by simp[c.1,c.2])]
 ·rw[if_neg c,if_neg (by simpa using c)]
theorem Zwc(l:List Rep) (J kd at_:Int) (x:OrX) (TT:List Rep) (cc f:Nat) (h8:l.length<=8) (hd:DisE l) (hx:x.L=l.reverse) (hc:0+cc<=TT.length) (hT:ar cc (bx 0 TT)=l.drop f++l.take f):orT l J kd at_ ac x TT cc:=by
 unfold orT;simp only[hT,decide_eq_true_eq,decide_eq_false_iff_not,true_and,and_true,imp_self,implies_true,beq_iff_eq,beq_eq_false_iff_ne];refine⟨λq=>0<=q.k/\q.k<=l.length/\q.L=lesF J kd at_ (l.take q.k.toNat)/\q.r=l.length-q.k.toNat,⟨⟨0,l.length,[]⟩,⟨Int.le_refl _,by dsimp only;omega,rfl,rfl⟩,⟨rfl,rfl⟩,rfl⟩,?_⟩;rintro⟨k,r,L⟩ ⟨a7,a8,U,hr⟩;dsimp only at a7 a8 U hr⊢;obtain⟨i,rfl⟩:∃i:Nat,k=(i:Int):=⟨k.toNat,by omega⟩;simp only[be] at U hr⊢;have a4:L.length<=8:=by
  rw[U];exact Nat.le_trans (List.length_filter_le _ _) (by rw[bd];omega)
 refine ay (λg=>⟨by omega,by omega,λw hw=> ?_⟩) (λg=> ?_)
 ·refine qB (P:=edO J kd w=ac/\w.item.from_<=at_) ⟨by omega,by omega,λw1 R=> ?_⟩ (λI=>⟨by omega,by omega,λw1 R=> ?_⟩) (λI=> ?_)
  ·rw[hw] at R;cases R
   refine ay (λe1=>⟨by omega,by omega,λw2 h2=> ?_⟩) (λe1=>⟨(λe=>by cases e),λI=>absurd (edO_t.1 I.1).1.1 e1⟩);rw[hw] at h2;cases h2;refine ay (λe2=>⟨by omega,by omega,λw3 h3=> ?_⟩) (λe2=>⟨(λe=>by cases e),λI=>absurd (edO_t.1 I.1).1.2 e2⟩);rw[hw] at h3;cases h3;refine ay (λe3=> ?_) (λe3=>⟨(λe=>by cases e),λI=>absurd I.2 e3⟩);have yes:(w.item.kind=11\/w.item.kind=12\/w.item.kind=13)->(ac=ac↔edO J kd w=ac/\w.item.from_<=at_):=λh=>⟨λ_=>⟨edO_t.2 ⟨⟨e1,e2⟩,h⟩,e3⟩,λ_=>rfl⟩
   exact⟨λh=>yes (.inl h),λa=>⟨λh=>yes (.inr (.inl h)),λb=>⟨λh=>yes (.inr (.inr h)),λc=>⟨(λe=>by cases e),λI=>by have:=(edO_t.1 I.1).2;omega⟩⟩⟩⟩
  ·rw[hw] at R;cases R
   refine⟨⟨aw _,aY _,by omega⟩,⟨(i:Int)+1,l.length-(i+1),L++ [w]⟩,⟨by dsimp only;omega,by dsimp only;omega,?_,by dsimp only;omega⟩,by dsimp only;omega,⟨by simp,wr64 (by omega) (by omega)⟩,by dsimp only;rw[aM]⟩;dsimp only;rw[show((i:Int)+1).toNat=i+1 by omega,Zwb hw,if_pos I,U]
  ·refine⟨⟨(i:Int)+1,l.length-(i+1),L⟩,⟨by dsimp only;omega,by dsimp only;omega,?_,by dsimp only;omega⟩,by dsimp only;omega,⟨rfl,wr64 (by omega) (by omega)⟩,rfl⟩
   dsimp only;rw[show((i:Int)+1).toNat=i+1 by omega,Zwb hw,if_neg I,U,di]
 ·have hi:i=l.length:=by omega
  subst hi;have a3:L=lesF J kd at_ l:=by rw[U,aM]
  refine⟨h8,λy hy=>⟨by omega,?_,λy1 a0=>⟨hc,?_,λy2 a1=>⟨by omega,?_,λy3 a2=> ?_⟩⟩⟩⟩
  ·rw[cI,aM,hx,eF];exact h8
  ·rw[aB,cM,bd];omega
  ·rw[cI,aM];exact a4
  ·rw[cI,aM,hx,Yd7 J kd at_ hd,<-hy] at a0
   rw[Z8m J kd at_ f hd,<-hy] at a1;rw[cI,aM,a3,Z8o J kd at_ hd,<-hy] at a2;have sy:=Ybu (Zpr l J kd at_).1;rw[<-hy] at sy;rw[a0,a1,a2];have no:∀{b:Bool} {Z:Prop},b=eqE y.1 y.1->b=ab->Z:=λR h2=>by rw[Zlz] at R;rw[R] at h2;cases h2
   refine⟨sy,λb hb=>ay (λ_=>⟨sy,λb1 a5=>ay (λ_=>⟨sy,λb2 a6=>ay (λ_=> ?_) (λe=>no a6 e)⟩) (λe=>no a5 e)⟩) (λe=>no hb e)⟩;exact⟨λ_=>⟨λ_=>λe=>absurd rfl e,λe=>absurd rfl e⟩,λe=>absurd rfl e⟩
theorem Z5h(l:List Rep) (a0 kd at_ fi:Int):PureC E 5 [.psl cz l ab,.int ab .i64 a0,.int ab .i64 kd,.int ab .i64 at_,.int ab .i64 fi] (.bool ab ac):=by
 refine Za E_ok (Zd E_ok Yga 400) ?_;rw[Yak];delta qFW1 qFW2 qFW3 qFW4;refine⟨trivial,λy h=>ifT h ⟨trivial,λf hf=>ay (λ_=>rfl) (λa2=> ?_)⟩⟩;have R:l.length<=8:=Z9g (by rw[<-hf];simpa using a2);refine⟨R,λd hd=>ay (λ_=>rfl) (λa1=>ay (λ_=>rfl) (λU=>ay (λ_=>rfl) (λp1=> ?_)))⟩;have hD:DisE l:=Ye6 (by rw[<-hd];simpa using a1);have U:0<=fi:=by have:=of_decide_eq_false U;omega
 have p1:fi<=l.length:=by have:=of_decide_eq_false p1;omega
 refine⟨λq=> -1<=q.k/\q.k<l.length/\q.L=(l.drop (q.k+1).toNat).reverse/\q.r=(q.k+1).toNat,⟨⟨(l.length:Int)-1,l.length,[]⟩,⟨by dsimp only;omega,by dsimp only;omega,?_,by dsimp only;omega⟩,rfl,⟨⟨rfl,λh=>h⟩,rfl,rfl,rfl,rfl,⟨rfl,rfl,trivial⟩,wr64 (by omega) (by omega),trivial⟩,⟨rfl,rfl⟩,trivial⟩,?_⟩
 ·dsimp only
  rw[show((l.length:Int)-1+1).toNat=l.length by omega,List.drop_length];rfl
 rintro⟨k,r,L⟩ ⟨a3,a4,I,hr⟩;dsimp only at a3 a4 I hr⊢;have a6:L.length<=8:=by rw[I,eF,cM];omega
 refine ay (λg=> ?_) (λg=> ?_)
 ·have g:=of_decide_eq_true g
  obtain⟨i,rfl⟩:∃i:Nat,k=(i:Int):=⟨k.toNat,by omega⟩;refine⟨by omega,by omega,λw hw=>⟨⟨aw _,aY _,by omega⟩,⟨(i:Int)-1,i,L++ [w]⟩,⟨by dsimp only;omega,by dsimp only;omega,?_,by dsimp only;omega⟩,by dsimp only;omega,rfl,⟨⟨rfl,λh=>h⟩,rfl,rfl,rfl,rfl,⟨rfl,by simp,trivial⟩,wr64 (by omega) (by omega),trivial⟩,⟨by dsimp only;rw[aM],rfl⟩,trivial⟩⟩;dsimp only;rw[be] at hw;obtain⟨hi,hw⟩:=aj.1 hw;rw[show((i:Int)-1+1).toNat=i by omega,List.drop_eq_getElem_cons hi,hw,List.reverse_cons,I,show((i:Int)+1).toNat=i+1 by omega]
 ·have g:=of_decide_eq_false g
  have hk:k= -1:=by omega
  subst hk;have I:L=l.reverse:=I;obtain⟨f,rfl⟩:∃f:Nat,fi=(f:Int):=⟨fi.toNat,by omega⟩;simp only[be];have tk:∀(A:List Rep) (n:Nat),n=A.length->ar n (bx 0 A)=A:=λA n h=>by subst h;rw[cI,aM]
  have a5:(l.drop f).length+(l.take f).length=l.length:=by rw[cM,bd];omega
  refine⟨⟨U,p1⟩,ay (λe1=>⟨⟨U,p1⟩,ay (λJ=> ?_) (λJ=>⟨⟨aw _,aw _,by omega⟩,?_⟩)⟩) (λe1=>⟨⟨aw _,aw _,by omega⟩,⟨U,p1⟩,ay (λJ=> ?_) (λJ=>⟨⟨by simp,by omega,by omega⟩,?_⟩)⟩)⟩
  ·exact Zwc l a0 kd at_ ⟨-1,r,L⟩ _ _ f R hD I (aw _) (by rw[e1,J];rfl)
  ·exact Zwc l a0 kd at_ ⟨-1,r,L⟩ _ _ f R hD I (by simp) (by rw[tk _ _ (by simp),e1];rfl)
  ·exact Zwc l a0 kd at_ ⟨-1,r,L⟩ _ _ f R hD I (by simp) (by rw[tk _ _ (by simp),J,di];rfl)
  ·have e3:ar (0+(l.drop f).length) (ar 0 []++l.drop f)=l.drop f:=tk (ar 0 []++l.drop f) _ (by simp)
   refine Zwc l a0 kd at_ ⟨-1,r,L⟩ _ _ f R hD I (by rw[e3,aB,a5];omega) ?_;rw[e3];exact tk _ _ (by rw[aB];omega)
end
section
open Go.ChangeShapes Go.WideShapes Go.ChangeAt Go.RowKit
theorem Zpg{H:Type} {enc:TypeId×Value->H} {P:Program} {w:World} {base:Nat} {I:Nat->Bool} {held:Bool} {t0 t1 t2 t3 t4:TypeId} {args:Array Value} {ds:List (DataW H)} {ps:List MemPlace} (h:fV enc P w base I held [t0,t1,t2,t3,t4] args.toList ds ps):
 ∃v0 v1 v2 v3 v4 d0 d1 d2 d3 J R U p2 p3 p4,args= #[v0,v1,v2,v3,v4]/\ds= [d0,d1,d2,d3,J]/\ps=R++U++p2++p3++p4/\gX enc P w base I held t0 v0 d0 R/\gX enc P w base I held t1 v1 d1 U/\gX enc P w base I held t2 v2 d2 p2/\gX enc P w base I held t3 v3 d3 p3/\gX enc P w base I held t4 v4 J p4:=by
 obtain⟨v0,a6,d0,a0,R,q0,a5,rfl,rfl,h0,r0⟩:=trodAll_cons h
 obtain⟨v1,a7,d1,a1,U,q1,rfl,rfl,rfl,h1,r1⟩:=trodAll_cons r0
 obtain⟨v2,a8,d2,a2,p2,q2,rfl,rfl,rfl,h2,r2⟩:=trodAll_cons r1
 obtain⟨v3,a9,d3,a3,p3,q3,rfl,rfl,rfl,h3,r3⟩:=trodAll_cons r2
 obtain⟨v4,b0,J,a4,p4,q4,rfl,rfl,rfl,h4,r4⟩:=trodAll_cons r3
 obtain⟨rfl,rfl,rfl⟩:=trodAll_nil r4
 exact⟨v0,v1,v2,v3,v4,d0,d1,d2,d3,J,R,U,p2,p3,p4,by cases args;simp_all,rfl,by simp,h0,h1,h2,h3,h4⟩
end
section
open Go.ChangeShapes Go.WideShapes Go.ChangeAt Go.RowKit

theorem editionsOrder_lifted(os:Os) (started:os.Started) (H:Type) (enc:TypeId×Value->H):
    ReturnsInHanded {} Tryz.checked os 5 .any (λw args=>(Rows.editionsOrderSpec.pre enc Tryz.prog Tryz.f5 [] ab w args/\laidMetH Tryz.prog Zjr w)/\sizedMet enc Tryz.prog Tryz.f5 (OpenSpec.ofChange Rows.editionsOrderSpec) ab w args)
      (Rows.editionsOrderSpec.post enc Tryz.prog Tryz.f5 ab ac ab ab):=by
  refine returnsInHanded_of_change_and (C:=Tryz.checked) (X:=λw _=>laidMetH Tryz.prog Zjr w) (λ_ _ _ hh h=>h.of_heap hh) Tryz.own started (by kernel_rfl) Tryz.func5
    (ChangeSpec.witness_shaped (enc:=enc) (C:=Tryz.checked) (os:=os) (X:=λw _=>laidMetH Tryz.prog Zjr w) ab (Znx os) #[.slice av 0 0,.int .i64 0,.int .i64 0,.int .i64 0,.int .i64 0] 8 (Zz8 os) (Z6h os _) (by kernel_rfl) (by kernel_rfl) (by kernel_rfl) (Z6i os _)) ?_
  intro W base args ds gs before hval0 hW _ hz hL _
  have hval:∀(j:Nat) t v,Tryz.f5.params[j]? =ae t->args[j]? =ae v->Value.okWide Tryz.prog W .any base t v:=hval0
  have hW':=hW
  obtain⟨p,q,hA0,hV,rfl,hfz,hnd⟩:=hW
  have hA:fV enc Tryz.prog W 0 (λ_=>ac) ac Tryz.f5.params.toList args.toList ds p:=hA0
  rw[Tryz.params5] at hA hval hz
  obtain⟨v0,v1,v2,v3,v4,d0,d1,d2,d3,d4,p0,p1,p2,p3,p4,rfl,rfl,rfl,h0,h1,h2,h3,h4⟩:=Zpg hA
  obtain⟨rfl,rfl⟩:=trodVars_none hV
  obtain⟨l,hdl⟩:=Z0d (hval 0 22 v0 rfl rfl) h0
  obtain⟨rw,rfl,_,hrrw,_⟩:=open_int Tryz.underlying3 (hval 1 3 v1 rfl rfl) h1
  obtain⟨kd,rfl,_,hrkd,_⟩:=open_int Tryz.underlying3 (hval 2 3 v2 rfl rfl) h2
  obtain⟨tt,rfl,_,hrtt,_⟩:=open_int Tryz.underlying3 (hval 3 3 v3 rfl rfl) h3
  obtain⟨fi,rfl,_,hrfi,_⟩:=open_int Tryz.underlying3 (hval 4 3 v4 rfl rfl) h4
  refine(Z0b (Z5h l rw kd tt fi) hL (Zdi hdl (Zdi (.int _ _ _) (Zdi (.int _ _ _) (Zdi (.int _ _ _) (Ykn (.int _ _ _))))))).mono λen W' ⟨hen,hw⟩=> ?_
  exact⟨_,hen,Z3n Tryz.laidOut rfl Tryz.underlying4 (by kernel_rfl) rfl hW' rfl rfl rfl hw⟩

end
section
open Go.ChangeShapes Go.WideShapes Go.ChangeAt Go.RowKit

theorem Zab:(Rows.editionsOrderRow.inPlace==Tryz.prog.inPlace 5)=true:=by kernel_rfl
theorem Uk:(Rows.editionsOrderRow.unfollowed==Tryz.prog.unfollowed 5)=true:=by kernel_rfl
theorem U0:(Rows.editionsOrderRow.recurses==Tryz.prog.recurses 5)=true:=by kernel_rfl
theorem Zcb:(Rows.editionsOrderRow.named==Tryz.prog.varsNamed 5)=true:=by kernel_rfl
theorem Zcc:joinedFacts Tryz.prog 5 Tryz.f5 Rows.editionsOrderSpec Rows.editionsOrderRow=true:=by
  unfold joinedFacts;rw[Zab,Uk,U0,Zcb]
  kernel_rfl
theorem Zc9:Tryz.prog.funcNamed Rows.editionsOrderRow.func=ae 5:=by kernel_rfl
theorem editionsOrder_holds:Rows.EditionsOrderSaid:=
  OpenClaim.holds_of_wide 5 Tryz.f5 rfl rfl rfl rfl rfl rfl rfl ⟨rfl,rfl,rfl,rfl,rfl⟩ rfl rfl rfl rfl rfl Zc9 Tryz.func5 Zcc
    (of_decide_eq_true (by kernel_rfl)) (by unfold Func.isWrapper;first|(rw[if_pos (by decide+kernel)];kernel_rfl)|(rw[if_neg (by decide+kernel)];exact⟨rfl,rfl⟩))
    (λos started H enc _=>editionsOrder_lifted os started H enc)

end
end Go.Proofs.YtpmhbnameoklkaaGreatDoor
