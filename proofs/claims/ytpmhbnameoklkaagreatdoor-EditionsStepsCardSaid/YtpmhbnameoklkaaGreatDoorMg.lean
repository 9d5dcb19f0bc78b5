/- Merged texts: TpV, TcH, EdJ, EdL, EdK, EdM, EdO, EdFive, RowEditionsStepsA, RowEditionsStepsB. -/
import Derived.Test.YtpmhbnameoklkaaGreatDoorMf
open And renaming intro->az
open Bool renaming and_eq_false_iff->bn,and_eq_true->aq,and_false->iC,and_true->cG,false->ab,false_and->eu,false_eq_true->aO,not_eq_false'->cd,not_eq_true'->bh,or_eq_false_iff->bG,or_eq_true->bd,true->ac,true_and->cx,true_eq_false->aS
open ByteArray renaming mk->dV
open Decidable renaming not_not->bJ
open Go.DataW renaming Trod->gT,TrodAll->fU
open Go.IntKind renaming i64->af
open Go.Proofs.YtpmhbnameoklkaaGreatDoor.Cls renaming name->aP,pay->aD,when_->aX
open Go.Proofs.YtpmhbnameoklkaaGreatDoor.Ex renaming d0->bx,d1->bA,d2->bB,d3->bC,l->bw,n->bW,op->aJ
open Go.Proofs.YtpmhbnameoklkaaGreatDoor.Tar renaming clauses->au,for_->bI,name->bN
open Int renaming ofNat_eq_natCast->bX,toNat->ag,toNat_natCast->bk
open List renaming getElem?_eq_none->ei,getElem?_eq_some_iff->aj,length->aa,length_cons->aB,mem_cons->aK,mem_filter->cU,mem_of_getElem?->aI,pairwise_cons->dU,take_add_one->cz,take_of_length_le->bm
open Nat renaming le_refl->aw,lt_succ_iff_lt_or_eq->iN,not_lt_zero->kk,zero_le->ba
open Option renaming none->ar,some->ae,toList_some->fJ
open Prod renaming fst->ao,snd->aE
namespace Go.Proofs.YtpmhbnameoklkaaGreatDoor
set_option linter.unusedVariables false
set_option linter.unusedSimpArgs false
set_option linter.unnecessarySimpa false
set_option maxRecDepth 100000
section
open Go
open Classical in
noncomputable def eqE{α:Type} (a b:α):Bool:=decide (a=b)
theorem eqE_iff{α:Type} {a b:α}:eqE a b=ac↔a=b:=by unfold eqE;simp
theorem eqE_no{α:Type} {a b:α}:eqE a b=ab↔a≠b:=by unfold eqE;simp
theorem Zl1{α:Type} (a:α):eqE a a=true:=eqE_iff.2 rfl
noncomputable def dEx2:DcL E (Ex×Ex×Unit):= .cons (dR .exprs) (.cons (dR .exprs) .nil)
noncomputable def Yc3(m:Nat):Sum thy:=sumP dEx2 (λx=>x.1.sz<m) λx=> .bool ab (eqE x.1 x.2.1)
noncomputable def Asx:Fr thy->Hp thy->Nat->Ann thy:=λT h i=>{X:=LX,fr:=λx=> [(2,T 2),(3,T 3),(5,.int ab .i64 x.k)],bl:=λx=>blkP h (T 2)++blkP h (T 3),src:=λ_=> [],md:= [],ih:=i,M:=i+30,meas:=λx=>x.r}
noncomputable def Fsx(m:Nat):Fns thy:=addL (addS F0 85 (Yc3 m)) 85 4 Asx E
abbrev qDR1(I:Ex):=(aJ I=aJ I/\bW I=bW I/\bx I=bx I/\bA I=bA I/\bB I=bB I/\bC I=bC I/\(bw I=bw I/\(ab=ac->ab=ac))/\True)
abbrev qDR2(I:Ex):=(Ex.mk (aJ I) (bW I) (bx I) (bA I) (bB I) (bC I) (bw I))
abbrev qDR3(I:Ex):=(↑(aa (bw I)):Int)
abbrev qDR4(I:LX):=(↑(LX.k I):Int)
abbrev qDR5(I:Ex) (J:Ex):=(!(bx I==bx J&&(bA I==bA J&&(bB I==bB J&&(bC I==bC J&&ac)))))
theorem Yc4(m:Nat) (x y:Ex) (v:Bool):Zk E F0 (vc E (Fsx m) 400) 85 [exA x,exA y] hp0 0 (λr=>ret E (patch hp0 0 r) r.v (.bool ab v))=(
 ∃(Q:Bool->Prop),(((aJ x !=aJ y)=ac->Q ac)/\((aJ x !=aJ y)=ab->((bW x !=bW y)=ac->Q ac)/\((bW x !=bW y)=ab->((qDR5 x y)=ac->Q ac)/\((qDR5 x y)=ab->(((qDR3 x) !=(qDR3 y))=ac->Q ac)/\(((qDR3 x) !=(qDR3 y))=ab->Q ab)))))/\(Q ac->ab=v)/\(Q ab->∃(R:LX->Prop),(∃(I:LX),R I/\ac=ac/\((0:Nat)=(0:Nat)/\(0:Nat)=(0:Nat)/\(0:Int)=(qDR4 I)/\True)/\(qDR1 x)/\(qDR1 y)/\True)/\∀(I:LX),R I->(decide ((qDR4 I)<(qDR3 x))=ac->(0:Int)<=(qDR4 I)/\(qDR4 I)+(1:Int)<=(qDR3 x)/\∀(J:Ex),(bw x)[ag (qDR4 I)]? =ae J->(0:Int)<=(qDR4 I)/\(qDR4 I)+(1:Int)<=(qDR3 y)/\∀(U:Ex),(bw y)[ag (qDR4 I)]? =ae U->Ex.sz (qDR2 J)+(1:Nat)<=m/\((!eqE (qDR2 J) (qDR2 U))=ac->ab=v)/\((!eqE (qDR2 J) (qDR2 U))=ab->∃(a0:LX),R a0/\a0.2+(1:Nat)<=I.2/\ac=ac/\((0:Nat)=(0:Nat)/\(0:Nat)=(0:Nat)/\wr af ((qDR4 I)+(1:Int))=(qDR4 a0)/\True)/\(qDR1 x)/\(qDR1 y)/\True))/\(decide ((qDR4 I)<(qDR3 x))=ab->ac=v))):=by kernel_rfl
noncomputable def dCl2:DcL E (Cls×Cls×Unit):= .cons (dR .clauses) (.cons (dR .clauses) .nil)
noncomputable def Seqc:Sum thy:=sumP dCl2 (λx=>x.1.pay.sz<1000000000/\x.1.when_.length<1000000000) λx=> .bool ab (eqE x.1 x.2.1)
noncomputable def Fsc:Fns thy:=addL (addS F0 85 (Yc3 1000000000)) 42 4 Asx E
abbrev qDRb(I:Cls):=(aD I)
abbrev qDR6(I:Cls):=(aP I=aP I/\(aX I=aX I/\(ab=ac->ab=ac))/\aJ (qDRb I)=aJ (qDRb I)/\bW (qDRb I)=bW (qDRb I)/\bx (qDRb I)=bx (qDRb I)/\bA (qDRb I)=bA (qDRb I)/\bB (qDRb I)=bB (qDRb I)/\bC (qDRb I)=bC (qDRb I)/\(bw (qDRb I)=bw (qDRb I)/\(ab=ac->ab=ac))/\True)
abbrev qDR7(I:Cls):=(Ex.mk (aJ (qDRb I)) (bW (qDRb I)) (bx (qDRb I)) (bA (qDRb I)) (bB (qDRb I)) (bC (qDRb I)) (bw (qDRb I)))
abbrev qDR8(I:Cls):=(↑(aa (aX I)):Int)
abbrev qDR9(I:LX):=(↑(LX.k I):Int)
abbrev qDRa(I:Tst) (J:Tst):=(!(Tst.attr I==Tst.attr J&&(Tst.low I==Tst.low J&&(Tst.high I==Tst.high J&&ac))))
theorem Yc5(x y:Cls) (v:Bool):Zk E Fsc (vc E Fsc 400) 42 [.agg (encF ab .clauses x),.agg (encF ab .clauses y)] hp0 0 (λr=>ret E (patch hp0 0 r) r.v (.bool ab v))=(
 ∃(Q:Bool->Prop),(((!aP x==aP y)=ac->Q ac)/\((!aP x==aP y)=ab->(((qDR8 x) !=(qDR8 y))=ac->Q ac)/\(((qDR8 x) !=(qDR8 y))=ab->Q ab)))/\(Q ac->ab=v)/\(Q ab->∃(R:LX->Prop),(∃(I:LX),R I/\ac=ac/\((0:Nat)=(0:Nat)/\(0:Nat)=(0:Nat)/\(0:Int)=(qDR9 I)/\True)/\(qDR6 x)/\(qDR6 y)/\True)/\∀(I:LX),R I->(decide ((qDR9 I)<(qDR8 x))=ac->(0:Int)<=(qDR9 I)/\(qDR9 I)+(1:Int)<=(qDR8 x)/\∀(J:Tst),(aX x)[ag (qDR9 I)]? =ae J->(0:Int)<=(qDR9 I)/\(qDR9 I)+(1:Int)<=(qDR8 y)/\∀(U:Tst),(aX y)[ag (qDR9 I)]? =ae U->((qDRa J U)=ac->ab=v)/\((qDRa J U)=ab->∃(a0:LX),R a0/\a0.2+(1:Nat)<=I.2/\ac=ac/\((0:Nat)=(0:Nat)/\(0:Nat)=(0:Nat)/\wr af ((qDR9 I)+(1:Int))=(qDR9 a0)/\True)/\(qDR6 x)/\(qDR6 y)/\True))/\(decide ((qDR9 I)<(qDR8 x))=ab->Ex.sz (qDR7 x)+(1:Nat)<=(1000000000:Nat)/\eqE (qDR7 x) (qDR7 y)=v))):=by kernel_rfl
noncomputable def Fss:Fns thy:=addL (addS F0 42 Seqc) 16 4 Asx E
abbrev qDRc(I:Cls):=(Ex.mk (aJ (aD I)) (bW (aD I)) (bx (aD I)) (bA (aD I)) (bB (aD I)) (bC (aD I)) (bw (aD I)))
abbrev qDRd(I:Tar):=(bN I=bN I/\bI I=bI I/\(au I=au I/\(ab=ac->ab=ac))/\True)
abbrev qDRe(I:Tar):=(↑(aa (au I)):Int)
abbrev qDRf(I:Cls):=(Cls.mk (aP I) (aX I) (qDRc I))
abbrev qDRg(I:LX):=(↑(LX.k I):Int)
theorem Yc6(x y:Tar) (v:Bool):Zk E Fss (vc E Fss 400) 16 [.agg (encF ab .tariffs x),.agg (encF ab .tariffs y)] hp0 0 (λr=>ret E (patch hp0 0 r) r.v (.bool ab v))=(
 ∃(Q:Bool->Prop),(((!bN x==bN y)=ac->Q ac)/\((!bN x==bN y)=ab->((bI x !=bI y)=ac->Q ac)/\((bI x !=bI y)=ab->(((qDRe x) !=(qDRe y))=ac->Q ac)/\(((qDRe x) !=(qDRe y))=ab->Q ab))))/\(Q ac->ab=v)/\(Q ab->∃(R:LX->Prop),(∃(I:LX),R I/\ac=ac/\((0:Nat)=(0:Nat)/\(0:Nat)=(0:Nat)/\(0:Int)=(qDRg I)/\True)/\(qDRd x)/\(qDRd y)/\True)/\∀(I:LX),R I->(decide ((qDRg I)<(qDRe x))=ac->(0:Int)<=(qDRg I)/\(qDRg I)+(1:Int)<=(qDRe x)/\∀(J:Cls),(au x)[ag (qDRg I)]? =ae J->(0:Int)<=(qDRg I)/\(qDRg I)+(1:Int)<=(qDRe y)/\∀(U:Cls),(au y)[ag (qDRg I)]? =ae U->(Ex.sz (qDRc J)+(1:Nat)<=(1000000000:Nat)/\aa (aX J)+(1:Nat)<=(1000000000:Nat))/\((!eqE (qDRf J) (qDRf U))=ac->ab=v)/\((!eqE (qDRf J) (qDRf U))=ab->∃(a0:LX),R a0/\a0.2+(1:Nat)<=I.2/\ac=ac/\((0:Nat)=(0:Nat)/\(0:Nat)=(0:Nat)/\wr af ((qDRg I)+(1:Int))=(qDRg a0)/\True)/\(qDRd x)/\(qDRd y)/\True))/\(decide ((qDRg I)<(qDRe x))=ab->ac=v))):=by kernel_rfl
theorem Yhw{x y:Ex} (I:x.op=y.op) (J:x.n=y.n) (R:x.d0=y.d0) (U:x.d1=y.d1) (h5:x.d2=y.d2) (h6:x.d3=y.d3) (h7:x.l=y.l):x=y:=by
 cases x;cases y;simp only[aJ,bW,bx,bA,bB,bC,bw] at*;subst I J R U h5 h6 h7;rfl
theorem Z1p{α:Type} {l m:List α} {k:Nat} {a b:α} (I:l[k]? =ae a) (J:m[k]? =ae b) (h:l.take k=m.take k) (e:a=b):l.take (k+1)=m.take (k+1):=by
 rw[cz,cz,I,J,h,e]
theorem Z1q{α:Type} {l m:List α} {k:Nat} (I:l.length<=k) (J:l.length=m.length) (h:l.take k=m.take k):l=m:=by
 rwa[bm I,bm (by omega)] at h
theorem Yhx{α:Type} {l m:List α} {k:Nat} {a b:α} (J:l[k]? =ae a) (I:m[k]? =ae b) (e:a≠b):l≠m:=by
 rintro rfl;rw[J] at I;cases I;exact e rfl
theorem Zr4{α:Type} {l m:List α} {V:Bool} {G:Prop} {B:α->Prop} (hl:l.length=m.length) (hb:l.length<=1000000000) (hB:∀a∈l,B a) (hT:l=m->G) (hF:l≠m->ab=V):
 ∃R:LX->Prop,(∃I:LX,R I/\(0:Int)=(I.k:Int))/\∀I:LX,R I->(((I.k:Int)<(l.length:Int))->(0:Int)<=(I.k:Int)/\(I.k:Int)+1<=(l.length:Int)/\∀a,l[ag (I.k:Int)]? =ae a->(0:Int)<=(I.k:Int)/\(I.k:Int)+1<=(m.length:Int)/\∀b,m[ag (I.k:Int)]? =ae b->B a/\(¬a=b->ab=V)/\(a=b->∃a0:LX,R a0/\a0.r+1<=I.r/\wr af ((I.k:Int)+1)=(a0.k:Int)))/\(¬(I.k:Int)<(l.length:Int)->G):=by
 refine⟨λy=>y.k<=l.length/\l.take y.k=m.take y.k/\y.r=l.length-y.k,⟨⟨0,l.length,[],0⟩,⟨(by dsimp only;omega),rfl,rfl⟩,rfl⟩,?_⟩
 rintro⟨k,r,D,q⟩ ⟨h1,J,h3⟩
 simp only at h1 J h3⊢
 refine az (λhk=>⟨by omega,by omega,λa U=>⟨by omega,by omega,λb a1=>⟨hB a (aI U),λe=>hF (Yhx U a1 e),λe=> ?_⟩⟩⟩) (λhk=>hT (Z1q (by omega) hl J))
 exact⟨⟨k+1,l.length-(k+1),[],0⟩,⟨(by dsimp only;omega),Z1p U a1 J e,rfl⟩,(by dsimp only;omega),(wr64 (by omega) (by omega)).trans (by dsimp only;omega)⟩
theorem Z7s{l m:List Tst} {V:Bool} {G:Prop} (hl:l.length=m.length) (J:l.length<=1000000000) (hT:l=m->G) (hF:l≠m->ab=V):
 ∃R:LX->Prop,(∃I:LX,R I/\(0:Int)=(I.k:Int))/\∀I:LX,R I->(((I.k:Int)<(l.length:Int))->(0:Int)<=(I.k:Int)/\(I.k:Int)+1<=(l.length:Int)/\∀a,l[ag (I.k:Int)]? =ae a->(0:Int)<=(I.k:Int)/\(I.k:Int)+1<=(m.length:Int)/\∀b,m[ag (I.k:Int)]? =ae b->(¬a.attr=b.attr\/¬a.low=b.low\/¬a.high=b.high->ab=V)/\(a=b->∃U:LX,R U/\U.r+1<=I.r/\wr af ((I.k:Int)+1)=(U.k:Int)))/\(¬(I.k:Int)<(l.length:Int)->G):=by
 obtain⟨R,h1,h2⟩:=Zr4 (B:=λ_=>True) hl J (λ_ _=>trivial) hT hF
 refine⟨R,h1,λI hx=>az (λhk=> ?_) (h2 I hx).2⟩
 obtain⟨a1,a2,a3⟩:=(h2 I hx).1 hk
 refine⟨a1,a2,λa ha=> ?_⟩
 obtain⟨b1,b2,a0⟩:=a3 a ha
 refine⟨b1,b2,λb J=>⟨λe=>(a0 b J).2.1 (by rintro rfl;simp at e),(a0 b J).2.2⟩⟩
theorem Yhy:∀(m:Nat),m<=1000000000->∀(x y:Ex),x.sz<m->PureC E 85 [exA x,exA y] (.bool ab (eqE x y)):=by
 intro m
 induction m with
 |zero=>intro _ x y h;omega
 |succ m ih=>
  intro hb x y hm;have hF:FnsOk E (Fsx m):=Zm E_ok (Zb F0_ok (Yg E_ok (Zc (f:=85) rfl) λx h=>ih (by omega) x.1 x.2.1 h)) _ _ _;refine Za E_ok (Xj E_ok F0_ok λf N c=>(Zf5 E_ok hF 400 f N c).1) ?_;rw[Yc4];delta qDR1 qDR2 qDR3 qDR4 qDR5;have a1:=x.sz_eq;have a0:=Ex.szL_len x.l
  simp only[Yf,Z6,Wh,Wi,Wj,beq_iff_eq,bne_iff_ne,beq_eq_false_iff_ne,bne_eq_false_iff_eq,decide_eq_true_eq,decide_eq_false_iff_not,bd,bG,bh,cd,aq,cG,cx,bn,beq_self_eq_true,Yt,Yn,ne_eq,and_true,true_and,aS,aO,false_or,or_false,true_implies,imp_self,bX,not_true_eq_false,not_false_eq_true,bJ,Ex.eta,eqE_iff,eqE_no];have no:x≠y->ab=eqE x y:=λh=>(eqE_no.2 h).symm
  by_cases U:x.op=y.op/\x.n=y.n/\(x.d0=y.d0/\x.d1=y.d1/\x.d2=y.d2/\x.d3=y.d3)/\x.l.length=y.l.length
  ·obtain⟨J,R,I,h4⟩:=U
   refine⟨λb=>b=ab,⟨λh=>absurd J h,λ_=>⟨λh=>absurd R h,λ_=>⟨λh=>absurd I (by rintro⟨a,b,c,d⟩;rcases h with h|h|h|h<;>exact h (by assumption)),λ_=>⟨λh=>absurd h4 (by omega),λ_=>rfl⟩⟩⟩⟩,λh=>by simp at h,λ_=> ?_⟩
   exact Zr4 (B:=λa=>a.sz+1<=m) (by omega) (by omega) (λa ha=>by have:=Ex.szL_mem ha;omega) (λe=>(eqE_iff.2 (Yhw J R I.1 I.2.1 I.2.2.1 I.2.2.2 e)).symm) (λh=>no λe=>h (by rw[e]))
  ·refine⟨λb=>b=ac,⟨λ_=>rfl,λJ=>⟨λ_=>rfl,λR=>⟨λ_=>rfl,λI=>⟨λ_=>rfl,λh4=>absurd ⟨J,R,I,by omega⟩ U⟩⟩⟩⟩,λ_=>no λe=>U (by rw[e];simp),λh=>by simp at h⟩
theorem Yhz:SumOk E 85 (Yc3 1000000000):=Yg E_ok (Zc (f:=85) rfl) λx h=>Yhy 1000000000 (aw _) x.1 x.2.1 h
theorem Yc7{x y:Cls} (I:x.name=y.name) (J:x.when_=y.when_) (R:x.pay=y.pay):x=y:=by
 cases x;cases y;simp only at*;subst I J R;rfl
theorem Yc8{x y:Tar} (I:x.name=y.name) (J:x.for_=y.for_) (R:x.clauses=y.clauses):x=y:=by
 cases x;cases y;simp only at*;subst I J R;rfl
theorem Yc9{x y:Tst}:(x.attr=y.attr/\x.low=y.low/\x.high=y.high)↔x=y:=by
 cases x;cases y;simp
def SmC(c:Cls):Prop:=c.pay.sz<1000000000/\c.when_.length<1000000000
theorem Yda(x y:Cls) (h:SmC x):PureC E 42 [.agg (encF ab .clauses x),.agg (encF ab .clauses y)] (.bool ab (eqE x y)):=by
 have hF:FnsOk E Fsc:=Zm E_ok (Zb F0_ok Yhz) _ _ _;refine Za E_ok (Zd E_ok hF 400) ?_;rw[Yc5];delta qDRb qDR6 qDR7 qDR8 qDR9 qDRa;obtain⟨hz,hw⟩:=h
 simp only[Yf,Z6,Wh,Wi,Wj,beq_iff_eq,bne_iff_ne,beq_eq_false_iff_ne,bne_eq_false_iff_eq,decide_eq_true_eq,decide_eq_false_iff_not,bd,bG,bh,cd,aq,cG,cx,bn,beq_self_eq_true,Yt,Yn,ne_eq,and_true,true_and,aS,aO,false_or,or_false,true_implies,imp_self,bX,not_true_eq_false,not_false_eq_true,bJ,Ex.eta,eqE_iff,eqE_no,Yc9];have no:x≠y->ab=eqE x y:=λh=>(eqE_no.2 h).symm
 by_cases R:x.name=y.name/\x.when_.length=y.when_.length
 ·obtain⟨I,U⟩:=R
  refine⟨λb=>b=ab,⟨λh=>absurd I h,λ_=>⟨λh=>absurd U (by omega),λ_=>rfl⟩⟩,λh=>by simp at h,λ_=> ?_⟩
  exact Z7s (by omega) (by omega) (λe=>⟨by omega,by
   by_cases J:x.pay=y.pay
   ·rw[eqE_iff.2 J,eqE_iff.2 (Yc7 I e J)]
   ·rw[eqE_no.2 J,eqE_no.2 λh=>J (by rw[h])]⟩) (λh=>no λe=>h (by rw[e]))
 ·exact⟨λb=>b=ac,⟨λ_=>rfl,λI=>⟨λ_=>rfl,λU=>absurd ⟨I,by omega⟩ R⟩⟩,λ_=>no λe=>R (by rw[e];simp),λh=>by simp at h⟩
theorem Yh0:SumOk E 42 Seqc:=Yg E_ok (Zc (f:=42) rfl) λx h=>Yda x.1 x.2.1 h
def SmT1(t:Tar):Prop:=(∀c∈t.clauses,SmC c)/\t.clauses.length<1000000000
theorem Ydb(x y:Tar) (h:SmT1 x):PureC E 16 [.agg (encF ab .tariffs x),.agg (encF ab .tariffs y)] (.bool ab (eqE x y)):=by
 have hF:FnsOk E Fss:=Zm E_ok (Zb F0_ok Yh0) _ _ _;refine Za E_ok (Zd E_ok hF 400) ?_;rw[Yc6];delta qDRc qDRd qDRe qDRf qDRg;obtain⟨hz,hw⟩:=h
 simp only[Yf,Z6,Wh,Wi,Wj,beq_iff_eq,bne_iff_ne,beq_eq_false_iff_ne,bne_eq_false_iff_eq,decide_eq_true_eq,decide_eq_false_iff_not,bd,bG,bh,cd,aq,cG,cx,bn,beq_self_eq_true,Yt,Yn,ne_eq,and_true,true_and,aS,aO,false_or,or_false,true_implies,imp_self,bX,not_true_eq_false,not_false_eq_true,bJ,Ex.eta,Cls.eta,eqE_iff,eqE_no];have no:x≠y->ab=eqE x y:=λh=>(eqE_no.2 h).symm
 by_cases R:x.name=y.name/\x.for_=y.for_/\x.clauses.length=y.clauses.length
 ·obtain⟨I,J,U⟩:=R
  refine⟨λb=>b=ab,⟨λh=>absurd I h,λ_=>⟨λh=>absurd J h,λ_=>⟨λh=>absurd U (by omega),λ_=>rfl⟩⟩⟩,λh=>by simp at h,λ_=> ?_⟩;exact Zr4 (B:=SmC) (by omega) (by omega) hz (λe=>(eqE_iff.2 (Yc8 I J e)).symm) (λh=>no λe=>h (by rw[e]))
 ·exact⟨λb=>b=ac,⟨λ_=>rfl,λI=>⟨λ_=>rfl,λJ=>⟨λ_=>rfl,λU=>absurd ⟨I,J,by omega⟩ R⟩⟩⟩,λ_=>no λe=>R (by rw[e];simp),λh=>by simp at h⟩
end
section
open Go
open Classical in
end
section
open Go
noncomputable def dLre:Dc E (List Rep):=(Ze4 (E:=E) Th.reps:Dc E (List (thy.dom Th.reps)))
noncomputable def SinF:Sum thy:=Zcc E (λ_=>ar) 10 dInE (λx=>x.1.length<=8) (λx=>inF x.1 x.2.1 x.2.2.1 x.2.2.2.1) λy=> .tup [tarE y.1,.int ab .i64 y.2]
theorem Zmv:SumOk E 12 SinF:=Y9 E_ok (Zc (f:=12) rfl) λx h=>Z80 x.1 x.2.1 x.2.2.1 x.2.2.2.1 h
noncomputable def SchF:Sum thy:=Zcc E (λ_=>ar) 10 (.cons dLre (.cons dN (.cons dN .nil))) (λx=>x.1.length<=8) (λx=>chgF x.1 x.2.1 x.2.2.1) λy=> .psl Th.ints y ab
theorem Z3p:SumOk E 19 SchF:=Y9 E_ok (Zc (f:=19) rfl) λx h=>Z68 x.1 x.2.1 x.2.2.1 h
noncomputable def FprE:Fns thy:=addS (addS F0 12 SinF) 25 ScpE
theorem Yew:FnsOk E FprE:=Zb (Zb F0_ok Zmv) Z25
theorem Z9a(l:List Rep) (J kd at_:Int) (c:List Ins) (e:Int):Zk E FprE (vc E FprE 400) 14 [.psl Th.reps l ab,.int ab .i64 J,.int ab .i64 kd,.int ab .i64 at_] hp0 0 (λr=>ret E (patch hp0 0 r) r.v (.tup [.psl Th.ins c ab,.int ab .i64 e]))=(
aa l<=(8:Nat)/\∀(y:Tar×Int),y=inF l J kd at_->((aE y !=(0:Int))=ac->c= []/\aE y=e/\True)/\((aE y !=(0:Int))=ab->((∀(c:Cls),c∈au (ao y)->Ex.sz (aD c)<=(10000:Nat)/\aa (aX c)+(1:Nat)<=(1000000000:Nat))/\aa (au (ao y))+(1:Nat)<=(1000000000:Nat))/\∀(I:List Ins×Int),I=Yc (ao y)->(ao I=c/\(ab=ac->ab=ac))/\aE I=e/\True)):=by kernel_rfl
structure FwX where
 k:Nat
 r:Nat
 n:Int
noncomputable def AfwE:Fr thy->Hp thy->Nat->Ann thy:=λT h i=>{X:=FwX,fr:=λx=> [(0,T 0),(3,.int ab .i64 x.n),(4,.int ab .i64 x.k)],bl:=λx=> [],src:=λ_=> [],md:= [],ih:=i,M:=i+40,meas:=λx=>x.r}
noncomputable def FfwE:Fns thy:=addL F0 11 5 AfwE E
theorem Yex:FnsOk E FfwE:=Zm E_ok F0_ok _ _ _
theorem Z9b(l:List Rep) (v:Bool):Zk E FfwE (vc E FfwE 400) 11 [.psl Th.reps l ab] hp0 0 (λr=>ret E (patch hp0 0 r) r.v (.bool ab v))=(
(decide ((↑(aa l):Int)>(8:Int))=ac->ab=v)/\(decide ((↑(aa l):Int)>(8:Int))=ab->∃(R:FwX->Prop),(∃(x:FwX),R x/\ac=ac/\((l=l/\(ab=ac->ab=ac))/\(0:Int)=FwX.n x/\(0:Int)=(↑(FwX.k x):Int)/\True)/\True)/\∀(x:FwX),R x->(decide ((↑(FwX.k x):Int)<(↑(aa l):Int))=ac->(0:Int)<=(↑(FwX.k x):Int)/\(↑(FwX.k x):Int)+(1:Int)<=(↑(aa l):Int)/\∀(J:Rep),l[ag (↑(FwX.k x):Int)]? =ae J->∃(I:FwX),R I/\I.2+(1:Nat)<=x.2/\ac=ac/\((l=l/\(ab=ac->ab=ac))/\wr af (FwX.n x+mm2 ab (↑(aa (ItD.text (Rep.item J))):Int) (4000:Int))=FwX.n I/\wr af ((↑(FwX.k x):Int)+(1:Int))=(↑(FwX.k I):Int)/\True)/\True)/\(decide ((↑(FwX.k x):Int)<(↑(aa l):Int))=ab->(decide (FwX.n x<=(3000:Int))=ac->ac=v)/\(decide (FwX.n x<=(3000:Int))=ab->ab=v)))):=by kernel_rfl
noncomputable def Asm7:Fr thy->Hp thy->Nat->Ann thy:=λT h i=>{X:=FwX,fr:=λx=> [(0,T 0),(1,T 1),(5,.int ab .i64 x.k)],bl:=λx=> [],src:=λ_=> [],md:= [],ih:=i,M:=i+30,meas:=λx=>x.r}
noncomputable def Fsm7:Fns thy:=addL F0 18 4 Asm7 E
theorem Yey:FnsOk E Fsm7:=Zm E_ok F0_ok _ _ _
theorem Z9c(a b:List Int) (v:Bool):Zk E Fsm7 (vc E Fsm7 400) 18 [.psl .ints a ab,.psl .ints b ab] hp0 0 (λr=>ret E (patch hp0 0 r) r.v (.bool ab v))=(
(((↑(aa a):Int) !=(↑(aa b):Int))=ac->ab=v)/\(((↑(aa a):Int) !=(↑(aa b):Int))=ab->∃(R:FwX->Prop),(∃(x:FwX),R x/\ac=ac/\((a=a/\(ab=ac->ab=ac))/\(b=b/\(ab=ac->ab=ac))/\(0:Int)=(↑(FwX.k x):Int)/\True)/\True)/\∀(x:FwX),R x->(decide ((↑(FwX.k x):Int)<(↑(aa a):Int))=ac->(0:Int)<=(↑(FwX.k x):Int)/\(↑(FwX.k x):Int)+(1:Int)<=(↑(aa a):Int)/\∀(I:Int),a[ag (↑(FwX.k x):Int)]? =ae I->(0:Int)<=(↑(FwX.k x):Int)/\(↑(FwX.k x):Int)+(1:Int)<=(↑(aa b):Int)/\∀(J:Int),b[ag (↑(FwX.k x):Int)]? =ae J->((I !=J)=ac->ab=v)/\((I !=J)=ab->∃(U:FwX),R U/\U.2+(1:Nat)<=x.2/\ac=ac/\((a=a/\(ab=ac->ab=ac))/\(b=b/\(ab=ac->ab=ac))/\wr af ((↑(FwX.k x):Int)+(1:Int))=(↑(FwX.k U):Int)/\True)/\True))/\(decide ((↑(FwX.k x):Int)<(↑(aa a):Int))=ab->ac=v))):=by kernel_rfl
noncomputable def prgF(l:List Rep) (I kd at_:Int):List Ins×Int:=if(inF l I kd at_).2≠0 then([],(inF l I kd at_).2) else Yc (inF l I kd at_).1
theorem Z9d(l:List Rep) (I kd at_:Int) (R:l.length<=8):PureC E 14 [.psl Th.reps l ab,.int ab .i64 I,.int ab .i64 kd,.int ab .i64 at_] (.tup [.psl Th.ins (prgF l I kd at_).1 ab,.int ab .i64 (prgF l I kd at_).2]):=by
 refine Za E_ok (Zd E_ok Yew 400) ?_;refine Eq.mpr (Z9a l I kd at_ (prgF l I kd at_).1 (prgF l I kd at_).2) ?_;simp only[true_and,and_true,imp_self,implies_true,bne_iff_ne,bne_eq_false_iff_eq];unfold prgF;refine⟨R,λy J=>az (λh=> ?_) (λh=> ?_)⟩
 ·rw[<-J,if_pos h];exact⟨rfl,rfl⟩
 ·rw[<-J,if_neg (λx=>x h)]
  refine⟨?_,λz U=>by rw[U];exact⟨rfl,rfl⟩⟩;have:=(Zpv l I kd at_).1;rw[J];exact this
def txR(x:Rep):Int:=mm2 ab (x.item.text.length:Int) 4000
def fewE(l:List Rep):Bool:=decide (l.length<=8)&&decide ((l.map txR).sum<=3000)
theorem Yez(x:Rep):0<=txR x/\txR x<=4000:=by
 unfold txR mm2;simp only;split<;>omega
theorem Z9e{l:List Rep} {k:Nat} {x:Rep} (h:l[k]? =ae x):((l.take (k+1)).map txR).sum=((l.take k).map txR).sum+txR x:=by
 rw[cz,h,fJ,List.map_append,List.sum_append];simp
theorem Z3q(l:List Rep):PureC E 11 [.psl Th.reps l ab] (.bool ab (fewE l)):=by
 refine Za E_ok (Zd E_ok Yex 400) ?_;rw[Z9b];simp only[bk,decide_eq_true_eq,decide_eq_false_iff_not,true_and,and_true,imp_self,implies_true];refine az (λh=> ?_) (λh=> ?_)
 ·unfold fewE;rw[decide_eq_false (by omega)];rfl
 ·refine⟨λx=>x.k<=l.length/\x.n=((l.take x.k).map txR).sum/\0<=x.n/\x.n<=4000*x.k/\x.r=l.length-x.k,⟨⟨0,l.length,0⟩,⟨ba _,rfl,by simp,by simp,rfl⟩,rfl,rfl⟩,?_⟩
  rintro x ⟨hk,I,R,U,hr⟩;refine az (λg=>⟨by omega,by omega,λw J=> ?_⟩) (λg=> ?_)
  ·have ht:=Yez w
   have e:mm2 ab (w.item.text.length:Int) 4000=txR w:=rfl;rw[e];exact⟨⟨x.k+1,l.length-(x.k+1),x.n+txR w⟩,⟨by dsimp only;omega,by dsimp only;rw[Z9e J,I],by dsimp only;omega,by dsimp only;omega,rfl⟩,by dsimp only;omega,wr64 (by omega) (by omega),wr64 (by omega) (by omega)⟩
  ·rw[bm (by omega)] at I
   refine az (λq=> ?_) (λq=> ?_)
   ·unfold fewE;rw[decide_eq_true (by omega),decide_eq_true (by omega)];rfl
   ·unfold fewE;rw[decide_eq_true (show l.length<=8 by omega),decide_eq_false (by omega)];rfl
theorem Z9f{l:List Rep} (h:fewE l=ac):l.length<=8:=by
 unfold fewE at h;rw[aq] at h;exact of_decide_eq_true h.1
open Classical in
theorem Z9g(a b:List Int) (hl:a.length<=1000000):PureC E 18 [.psl .ints a ab,.psl .ints b ab] (.bool ab (decide (a=b))):=by
 refine Za E_ok (Zd E_ok Yey 400) ?_;rw[Z9c];simp only[bk,decide_eq_true_eq,decide_eq_false_iff_not,true_and,and_true,imp_self,implies_true,bne_iff_ne,bne_eq_false_iff_eq];refine az (λh=>(decide_eq_false λe=>h (by rw[e])).symm) (λh=> ?_);have a0:a.length=b.length:=by omega
 refine⟨λx=>x.k<=a.length/\(∀j,j<x.k->a[j]? =b[j]?)/\x.r=a.length-x.k,⟨⟨0,a.length,0⟩,⟨ba _,(λj I=>absurd I (kk _)),rfl⟩,rfl⟩,?_⟩;rintro x ⟨hk,U,hr⟩;refine az (λg=>⟨by omega,by omega,λu J=>⟨by omega,by omega,λv R=>az (λe=> ?_) (λe=> ?_)⟩⟩) (λg=> ?_)
 ·refine(decide_eq_false λe2=> ?_).symm
  rw[e2,R] at J;cases J;exact e rfl
 ·refine⟨⟨x.k+1,a.length-(x.k+1),0⟩,⟨by dsimp only;omega,λj I=> ?_,rfl⟩,by dsimp only;omega,wr64 (by omega) (by omega)⟩
  dsimp only at I;rcases iN.1 I with I|rfl
  ·exact U j I
  ·rw[J,R,e]
 ·refine(decide_eq_true (List.ext_getElem? λj=> ?_)).symm
  by_cases I:j<x.k
  ·exact U j I
  ·rw[ei (by omega),ei (by omega)]
end
section
open Go
section
variable {α β:Type} [DecidableEq α]
def Zth:List (α×β)->α->Option β
 | [],_=>ar
 |p::r,a=>if p.1=a then ae p.2 else Zth r a
def putD:List (α×β)->α->β->List (α×β)
 | [],a,v=> [(a,v)]
 |p::r,a,v=>if p.1=a then(p.1,v)::r else p::putD r a v
def delD:List (α×β)->α->List (α×β)
 | [],_=> []
 |p::r,a=>if p.1=a then r else p::delD r a
theorem Zm7:∀(l:List (α×β)) (a:α),Z4 l a=Zth l a
 | [],a=>rfl
 |p::r,a=>by
  rw[Z4,Zth,Zm7 r a]
  by_cases h:p.1=a
  ·rw[if_pos h,if_pos h]
  ·rw[if_neg h,if_neg h]
theorem Z40:∀(l:List (α×β)) (a:α) (v:β),putS l a v=putD l a v
 | [],a,v=>rfl
 |p::r,a,v=>by
  rw[putS,putD,Z40 r a v]
  by_cases h:p.1=a
  ·rw[if_pos h,if_pos h]
  ·rw[if_neg h,if_neg h]
theorem Ybs:∀(l:List (α×β)) (a:α),delS l a=delD l a
 | [],a=>rfl
 |p::r,a=>by
  rw[delS,delD,Ybs r a]
  by_cases h:p.1=a
  ·rw[if_pos h,if_pos h]
  ·rw[if_neg h,if_neg h]
end
def goD:Bool->Bool->List (List Nat×Bool)->List Cls->Int
 |a,b,_,[]=>if a=ac then 161 else if b=ac then 2 else 0
 |a,b,m,c::r=>if W5 c=ac then goD (a||resF c.name||(Zth m c.name).getD ab) (b||decide (8<c.when_.length)||decide (24<Y5 c.pay)) (putD m c.name ac) r else 1
theorem Ybt:∀(l:List Cls) (a b:Bool) (m:List (List Nat×Bool)),goC a b m l=goD a b m l
 | [],a,b,m=>rfl
 |c::r,a,b,m=>by rw[goC,goD,Zm7,Z40,Ybt r]
def Zfv(t:Tar):Int:=if Uk t.name=ac/\1<=t.for_/\t.for_<=6 then goD (resF t.name) (decide (64<t.clauses.length)) [] t.clauses else 1
theorem Zgn(t:Tar):Z9 t=Zfv t:=by unfold Z9 Zfv;rw[Ybt]
def prD(t:Tar):Int:=if Zfv t≠0 then Zfv t else if 2000<(Zb8 (Zmg t)).length then 2 else 0
def chD(t:Tar):Int:=if Zfv t=0 then(goU 0 t.clauses).2 else Zfv t
def cpD(t:Tar):Int:=if Zfv t=0 then(if 4096<(cdT t).length\/64<dCs t.clauses then 2 else 0) else Zfv t
def eckD(t:Tar):Int:=if prD t≠0 then prD t else if chD t≠0 then chD t else if chkB t≠0 then chkB t else cpD t
theorem Ylc(t:Tar):(U7 t).2=prD t:=by
 unfold U7 prD;rw[Zgn];split
 ·rfl
 ·split<;>rfl
theorem Yld(t:Tar):(chkP t).2=chD t:=by
 unfold chkP chD;rw[Zgn];split<;>rfl
theorem Yle(t:Tar):(Yc t).2=cpD t:=by
 unfold Yc cpD;rw[Zgn];split
 ·split<;>rfl
 ·rfl
theorem Zcg:eckF=eckD:=by
 funext t;unfold eckF eckD;rw[Ylc,Yld,Yle]
def Yji(s:List Nat) (k:Int):Tar×Int:=
 if k<1\/6<k then(zTE,1) else
 match We s with
 |(t,_,e)=>if e≠0 then(zTE,e) else if t.for_≠k then(zTE,220) else match eckD t with| .ofNat 0=>(t,0)|e=>(zTE,e)
theorem Vb:Xl=Yji:=by
 funext s k;unfold Xl Yji;rw[Zcg];rcases We s with⟨t,p,e⟩
 dsimp only;split
 ·rfl
 ·split
  ·rfl
  ·split
   ·rfl
   ·split
    ·rename_i h
     split
     ·rename_i I;rw[I] at h;exact absurd rfl h
     ·rfl
    ·rename_i h
     have h:=bJ.1 h;rw[h];rfl
def Zv6(m:List (List Nat×Cls)) (l:List Cls):List (List Nat×Cls):=l.foldl (λm c=>putD m c.name c) m
def Zfw:List (List Nat×Cls)->List Cls->List Cls×List (List Nat×Cls)
 |m,[]=>([],m)
 |m,c::r=>match Zth m c.name with
  |some d=>(d::(Zfw (delD m c.name) r).1,(Zfw (delD m c.name) r).2)
  |none=>(c::(Zfw m r).1,(Zfw m r).2)
def Ybu(m:List (List Nat×Cls)) (l:List Cls):List Cls:=l.filter λc=>(Zth m c.name).isSome
def amD(t a:Tar):Tar:=⟨t.name,t.for_,(Zfw (Zv6 [] a.clauses) t.clauses).1++Ybu (Zfw (Zv6 [] a.clauses) t.clauses).2 a.clauses⟩
theorem Yab(m:List (List Nat×Cls)) (l:List Cls):Zay m l=Zv6 m l:=by
 unfold Zay Zv6
 congr 1
 funext m c;exact Z40 _ _ _
theorem Zm8:∀(l:List Cls) (m:List (List Nat×Cls)),Wz m l=Zfw m l
 | [],m=>rfl
 |c::r,m=>by
  rw[Wz,Zfw,Zm7]
  cases Zth m c.name with
  |none=>dsimp only;rw[Zm8 r]
  |some d=>dsimp only;rw[Ybs,Zm8 r]
theorem Zm9:amF=amD:=by
 funext t a;unfold amF amD Zb9 Ybu;rw[Yab,Zm8]
 congr 2
 congr 1
 funext c;rw[Zm7]
def txtA:List Nat:= [116,97,114,105,102,102,32,116,32,102,111,114,32,104,105,114,101,32,123,32,99,108,97,117,115,101,32,97,32,119,104,101,110,32,116,121,112,101,32,105,115,32,48,32,112,97,121,32,50,32,109,111,110,101,121,59,32,125]
def txtB:List Nat:= [116,97,114,105,102,102,32,117,32,102,111,114,32,104,105,114,101,32,123,32,99,108,97,117,115,101,32,98,32,119,104,101,110,32,116,121,112,101,32,105,115,32,49,32,112,97,121,32,51,32,109,111,110,101,121,59,32,125]
def txtC:List Nat:= [116,97,114,105,102,102,32,118,32,102,111,114,32,104,105,114,101,32,123,32,99,108,97,117,115,101,32,99,32,119,104,101,110,32,116,121,112,101,32,105,110,32,48,46,46,49,32,112,97,121,32,52,32,109,111,110,101,121,59,32,125]
def repE(no kd I:Int) (s:List Nat):Rep:=⟨⟨0,no⟩,⟨0,no⟩,0,⟨kd,⟨0,0⟩,0,0,0,1,I,0,0,0,0,0,0,s,[]⟩⟩
def W3:List Rep:= [repE 1 11 10 txtA,repE 2 12 20 txtB,repE 3 12 25 txtC,repE 4 13 30 []]
theorem in9:inF W3 0 1 9=(zTE,220):=by unfold inF;rw[Vb,Zcg,Zm9];kernel_rfl
theorem in30:inF W3 0 1 30=(zTE,220):=by unfold inF;rw[Vb,Zcg,Zm9];kernel_rfl
def Zy4(y:Tar×Int) (w:List Nat):Bool:=decide (y.2=0)&&decide (y.1.name= [116])&&decide (y.1.for_=1)&&decide ((y.1.clauses.flatMap λc=>c.name)=w)
theorem in10:Zy4 (inF W3 0 1 10) [97]=true:=by unfold inF;rw[Vb,Zcg,Zm9];kernel_rfl
theorem in20:Zy4 (inF W3 0 1 20) [97,98]=true:=by unfold inF;rw[Vb,Zcg,Zm9];kernel_rfl
theorem in25:Zy4 (inF W3 0 1 25) [97,98]=true:=by unfold inF;rw[Vb,Zcg,Zm9];kernel_rfl
theorem inD2:(inF W3 0 2 20).2=220:=by unfold inF;rw[Vb,Zcg,Zm9];kernel_rfl
theorem inR1:(inF W3 1 1 20).2=220:=by unfold inF;rw[Vb,Zcg,Zm9];kernel_rfl
theorem Ylf:(inF W3 16 1 20).2=1:=by unfold inF;rw[Vb,Zcg,Zm9];kernel_rfl
def txtP:List Nat:= [116,97,114,105,102,102,32,116,32,102,111,114,32,104,105,114,101,32,123,32,99,108,97,117,115,101,32,97,32,112,97,121,32,50,59,32,125]
theorem gd0:(Xl [] 0).2=1:=by rw[Vb];kernel_rfl
theorem gdA:(Xl txtA 2).2=220:=by rw[Vb];kernel_rfl
theorem gdP:(Xl txtP 1).2=170:=by rw[Vb];kernel_rfl
theorem chE:chgF W3 0 1= [10,20,25,30]:=by unfold chgF;kernel_rfl
theorem cpE:(Yc (inF W3 0 1 10).1).2=0/\(Yc (inF W3 0 1 10).1).1≠ []:=by
 unfold Yc;rw[Zgn];unfold inF;rw[Vb,Zcg,Zm9];refine⟨by kernel_rfl,?_⟩;have:∀l:List Ins,l.isEmpty=ab->l≠ []:=λl h e=>by rw[e] at h;cases h
 exact this _ (by kernel_rfl)
end
section
open Go
noncomputable def SssE:Sum thy:=Zcc E (λ_=>ar) 10 (.cons (dR .tariffs) (.cons (dR .tariffs) .nil)) (λx=>SmT1 x.1) (λx=>eqE x.1 x.2.1) λy=> .bool ab y
theorem Z39:SumOk E 16 SssE:=Y9 E_ok (Zc (f:=16) rfl) λx h=>Ydb x.1 x.2.1 h
structure NmX where
 k:Nat
 r:Nat
 s:List Nat
noncomputable def AnmE:Fr thy->Hp thy->Nat->Ann thy:=λT h i=>{X:=NmX,fr:=λx=> [(1,T 1),(5,T 5),(6,T 6),(7,.str ab x.s),(8,.int ab .i64 x.k)],bl:=λx=>blkP h (T 5),src:=λ_=> [],md:= [],ih:=i,M:=i+40,meas:=λx=>x.r}
noncomputable def FnmE:Fns thy:=addL (addS (addS F0 12 SinF) 16 SssE) 31 6 AnmE E
theorem Ye7:FnsOk E FnmE:=Zm E_ok (Zb (Zb F0_ok Zmv) Z39) _ _ _
abbrev qDV1(I:Tar×Int):=(bN (ao I)=bN (ao I)/\bI (ao I)=bI (ao I)/\(au (ao I)=au (ao I)/\(ab=ac->ab=ac))/\True)
abbrev qDV2(I:Tar×Int):=(↑(aa (au (ao I))):Int)
abbrev qDV3(I:NmX):=(↑(NmX.k I):Int)
theorem Z9z(at_:Int) (w:List Nat) (v:Bool):Zk E FnmE (vc E FnmE 400) 31 [.int ab .i64 at_,.str ab w] hp0 0 (λr=>ret E (patch hp0 0 r) r.v (.bool ab v))=(
 (4:Nat)<=(8:Nat)/\∀(y:Tar×Int),y=inF W3 (0:Int) (1:Int) at_->((w==toL (dV #[]))=ac->((aE y==(220:Int))=ac->((∀(c:Cls),c∈au (ao y)->Ex.sz (aD c)+(1:Nat)<=(1000000000:Nat)/\aa (aX c)+(1:Nat)<=(1000000000:Nat))/\aa (au (ao y))+(1:Nat)<=(1000000000:Nat))/\∀(U:Bool),U=eqE (ao y) (Tar.mk [] (0:Int) [])->U=v)/\((aE y==(220:Int))=ab->ab=v))/\((w==toL (dV #[]))=ab->∃(R:NmX->Prop),(∃(x:NmX),R x/\ac=ac/\(w=w/\(0:Nat)=(0:Nat)/\aE y=aE y/\ []=NmX.s x/\(0:Int)=(qDV3 x)/\True)/\(qDV1 y)/\True)/\∀(x:NmX),R x->(decide ((qDV3 x)<(qDV2 y))=ac->(0:Int)<=(qDV3 x)/\(qDV3 x)+(1:Int)<=(qDV2 y)/\∀(J:Cls),(au (ao y))[ag (qDV3 x)]? =ae J->aa (NmX.s x)+aa (aP J)<=(9223372036854775807:Nat)/\∃(I:NmX),R I/\I.2+(1:Nat)<=x.2/\ac=ac/\(w=w/\(0:Nat)=(0:Nat)/\aE y=aE y/\NmX.s x++aP J=NmX.s I/\wr af ((qDV3 x)+(1:Int))=(qDV3 I)/\True)/\(qDV1 y)/\True)/\(decide ((qDV3 x)<(qDV2 y))=ab->((aE y==(0:Int))=ac->((bN (ao y)==toL (dV #[(116:UInt8)]))=ac->((bI (ao y)==(1:Int))=ac->((NmX.s x==w)=ac->ac=v)/\((NmX.s x==w)=ab->ab=v))/\((bI (ao y)==(1:Int))=ab->ab=v))/\((bN (ao y)==toL (dV #[(116:UInt8)]))=ab->ab=v))/\((aE y==(0:Int))=ab->ab=v)))):=by kernel_rfl
noncomputable def nmE(at_:Int) (w:List Nat):Bool:=if w= [] then decide ((inF W3 0 1 at_).2=220)&&eqE (inF W3 0 1 at_).1 zTE else Zy4 (inF W3 0 1 at_) w
theorem Yja(l:List Rep) (R kd at_:Int):∀c∈(inF l R kd at_).1.clauses,c.name.length<=32:=by
 intro c J;obtain⟨_,_,U,h2⟩:=Zpv l R kd at_;by_cases h:(inF l R kd at_).2=0
 ·have I:=Vp (U h).1
  unfold Z9 at I;split at I
  ·have:=Z5g _ _ _ _ I c J
   unfold W5 Uk at this;simp only[aq,decide_eq_true_eq] at this;exact this.1.1.1.1
  ·cases I
 ·rw[h2 h] at J;cases J
theorem Ybp{t:Tar} (h:SmE t):SmT1 t:=⟨λc I=>⟨Nat.lt_of_le_of_lt (h.1 c I).1 (by decide),(h.1 c I).2⟩,h.2⟩
theorem Ye8(at_:Int) (w:List Nat):PureC E 31 [.int ab .i64 at_,.str ab w] (.bool ab (nmE at_ w)):=by
 refine Za E_ok (Zd E_ok Ye7 400) ?_;rw[Z9z];delta qDV1 qDV2 qDV3;simp only[bk,decide_eq_true_eq,decide_eq_false_iff_not,true_and,and_true,imp_self,implies_true,beq_iff_eq,beq_eq_false_iff_ne];refine⟨by decide,λy hy=> ?_⟩;have hs:=(Zpv W3 0 1 at_).1;have hl:=(Zpv W3 0 1 at_).2.1;have hn:=Yja W3 0 1 at_;unfold nmE;rw[<-hy] at hs hl hn⊢;refine az (λh=> ?_) (λh=> ?_)
 ·have h:w= []:=h
  rw[if_pos h];refine az (λI=> ?_) (λI=> ?_)
  ·have:=Ybp hs
   refine⟨this,λz hz=> ?_⟩;rw[hz,decide_eq_true I];rfl
  ·rw[decide_eq_false I];rfl
 ·have h:¬w= []:=h
  rw[if_neg h];refine⟨λx=>x.k<=y.1.clauses.length/\x.s=(y.1.clauses.take x.k).flatMap (λc=>c.name)/\x.s.length<=32*x.k/\x.r=y.1.clauses.length-x.k,⟨⟨0,y.1.clauses.length,[]⟩,⟨ba _,rfl,by simp,rfl⟩,rfl,rfl⟩,?_⟩;rintro x ⟨hk,J,a1,hr⟩;refine az (λg=>⟨by omega,by omega,λc hc=> ?_⟩) (λg=> ?_)
  ·have a0:=hn c (aI hc)
   refine⟨by omega,⟨x.k+1,y.1.clauses.length-(x.k+1),x.s++c.name⟩,⟨by dsimp only;omega,?_,by dsimp only;rw[List.length_append];omega,rfl⟩,by dsimp only;omega,rfl,wr64 (by omega) (by omega)⟩;dsimp only;rw[cz,hc,fJ,List.flatMap_append,J];simp
  ·rw[bm (by omega)] at J
   unfold Zy4;rw[<-J];refine az (λR=>az (λq2=>az (λq3=>az (λU=> ?_) (λU=> ?_)) (λq3=> ?_)) (λq2=> ?_)) (λR=> ?_)
   ·have q2:y.1.name= [116]:=q2
    rw[decide_eq_true R,decide_eq_true q2,decide_eq_true q3,decide_eq_true U];rfl
   ·rw[decide_eq_false U,iC]
   ·rw[decide_eq_false q3,iC,eu]
   ·have q2:¬y.1.name= [116]:=q2
    rw[decide_eq_false q2,iC,eu,eu]
   ·rw[decide_eq_false R,eu,eu,eu]
noncomputable def SnmE:Sum thy:=Wg (.cons dN (.cons dS .nil)) (λ_=>True) (λx=>nmE x.1 x.2.1) λy=> .bool ab y
theorem Ye9:SumOk E 31 SnmE:=Zy E_ok (Zc (f:=31) rfl) λx _=>Ye8 x.1 x.2.1
noncomputable def SprF:Sum thy:=Zcc E (λ_=>ar) 10 dInE (λx=>x.1.length<=8) (λx=>prgF x.1 x.2.1 x.2.2.1 x.2.2.2.1) λy=> .tup [.psl Th.ins y.1 ab,.int ab .i64 y.2]
theorem Yfa:SumOk E 14 SprF:=Y9 E_ok (Zc (f:=14) rfl) λx h=>Z9d x.1 x.2.1 x.2.2.1 x.2.2.2.1 h
noncomputable def dIts:Dc E (List Int):=(Ze4 (E:=E) Th.ints:Dc E (List (thy.dom Th.ints)))
noncomputable def Yjb:Sum thy:=Zcc E (λ_=>ar) 10 (.cons dIts (.cons dIts .nil)) (λx=>x.1.length<=1000000) (λx=>(decide (x.1=x.2.1):Bool)) λy=> .bool ab y
theorem Z90:SumOk E 18 Yjb:=Y9 E_ok (Zc (f:=18) rfl) λx h=>Z9g x.1 x.2.1 h
noncomputable def FsnE:Fns thy:=addS (addS (addS (addS (addS (addS F0 31 SnmE) 12 SinF) 21 SgoE) 14 SprF) 18 Yjb) 19 SchF
theorem Yfb:FnsOk E FsnE:=Zb (Zb (Zb (Zb (Zb (Zb F0_ok Ye9) Zmv) Z29) Yfa) Z90) Z3p
abbrev qDV4(I:Tar×Int):=(aE I==(220:Int))
abbrev qDV5:=(1:Int)
theorem Z4a(u:Nat) (v:Bool):Zk E FsnE (vc E FsnE 400) 10 [] hp0 0 (λr=>ret E (patch hp0 0 r) r.v (.bool ab v))=(
 True/\∀(y:Bool),y=nmE (9:Int) []->((!y)=ac->ab=v)/\((!y)=ab->True/\∀(y:Bool),y=nmE (10:Int) [(97:Nat)]->((!y)=ac->ab=v)/\((!y)=ab->True/\∀(y:Bool),y=nmE (20:Int) [(97:Nat),(98:Nat)]->((!y)=ac->ab=v)/\((!y)=ab->True/\∀(y:Bool),y=nmE (25:Int) [(97:Nat),(98:Nat)]->((!y)=ac->ab=v)/\((!y)=ab->True/\∀(y:Bool),y=nmE (30:Int) []->((!y)=ac->ab=v)/\((!y)=ab->(4:Nat)<=(8:Nat)/\∀(y:Tar×Int),y=inF W3 (0:Int) (2:Int) (20:Int)->(4:Nat)<=(8:Nat)/\∀(J:Tar×Int),J=inF W3 qDV5 qDV5 (20:Int)->(4:Nat)<=(8:Nat)/\∀(R:Tar×Int),R=inF W3 (16:Int) qDV5 (20:Int)->True/\∀(U:Tar×Int),U=Xl [] (0:Int)->True/\∀(a0:Tar×Int),a0=Xl txtA (2:Int)->True/\∀(a1:Tar×Int),a1=Xl txtP qDV5->(4:Nat)<=(8:Nat)/\∀(I:List Ins×Int),I=prgF W3 (0:Int) qDV5 (10:Int)->((qDV4 y)=ac->((qDV4 J)=ac->((aE R==qDV5)=ac->((aE U==qDV5)=ac->((qDV4 a0)=ac->((aE a1==(170:Int))=ac->((aE I==(0:Int))=ac->(decide ((↑(aa (ao I)):Int)>(0:Int))=ac->(4:Nat)<=(8:Nat)/\∀(y:List Int),y=chgF W3 (0:Int) qDV5->aa y<=(1000000:Nat)/\∀(a2:Bool),a2=decide (y= [(10:Int),(20:Int),(25:Int),(30:Int)])->a2=v)/\(decide ((↑(aa (ao I)):Int)>(0:Int))=ab->ab=v))/\((aE I==(0:Int))=ab->ab=v))/\((aE a1==(170:Int))=ab->ab=v))/\((qDV4 a0)=ab->ab=v))/\((aE U==qDV5)=ab->ab=v))/\((aE R==qDV5)=ab->ab=v))/\((qDV4 J)=ab->ab=v))/\((qDV4 y)=ab->ab=v))))))):=by kernel_rfl
theorem nm9:nmE 9 []=true:=by unfold nmE;rw[if_pos rfl,in9,Zl1];rfl
theorem nm30:nmE 30 []=true:=by unfold nmE;rw[if_pos rfl,in30,Zl1];rfl
theorem nm10:nmE 10 [97]=true:=by unfold nmE;rw[if_neg (by decide),in10]
theorem nm20:nmE 20 [97,98]=true:=by unfold nmE;rw[if_neg (by decide),in20]
theorem nm25:nmE 25 [97,98]=true:=by unfold nmE;rw[if_neg (by decide),in25]
theorem ifT{y:Bool} {A B:Prop} (h:y=ac) (k:B):((!y)=ac->A)/\((!y)=ab->B):=az (λe=>by rw[h] at e;cases e) (λ_=>k)
theorem ifE{a b:Int} {A B:Prop} (h:a=b) (k:A):((a==b)=ac->A)/\((a==b)=ab->B):=⟨λ_=>k,λe=>by rw[h,beq_self_eq_true] at e;cases e⟩
theorem prg10:(prgF W3 0 1 10).2=0/\(prgF W3 0 1 10).1≠ []:=by
 have I:(inF W3 0 1 10).2=0:=by
  have:=in10;unfold Zy4 at this;simp only[aq,decide_eq_true_eq] at this;exact this.1.1.1
 unfold prgF;rw[if_neg (λh=>h I)];exact cpE
theorem Zyp:PureC E 10 [] (.bool ab ac):=by
 refine Za E_ok (Zd E_ok Yfb 400) ?_;rw[Z4a 0];refine⟨trivial,λy h=>ifT (h.trans nm9) ⟨trivial,λy h=>ifT (h.trans nm10) ⟨trivial,λy h=>ifT (h.trans nm20) ⟨trivial,λy h=>ifT (h.trans nm25) ⟨trivial,λy h=>ifT (h.trans nm30) ⟨by decide,λa R=>⟨by decide,λb U=>⟨by decide,λc hc=>⟨trivial,λd hd=>⟨trivial,λe he=>⟨trivial,λf hf=>⟨by decide,λg I=> ?_⟩⟩⟩⟩⟩⟩⟩⟩⟩⟩⟩⟩
 refine ifE (by rw[R];exact inD2) (ifE (by rw[U];exact inR1) (ifE (by rw[hc];exact Ylf) (ifE (by rw[hd];exact gd0) (ifE (by rw[he];exact gdA) (ifE (by rw[hf];exact gdP) (ifE (by rw[I];exact prg10.1) ?_))))));have hp:g.1.length>0:=List.length_pos_iff.2 (by rw[I];exact prg10.2);refine⟨λ_=>⟨by decide,λq J=>⟨?_,λr hr=> ?_⟩⟩,λh=>by have:=of_decide_eq_false h;omega⟩
 ·rw[J,chE];decide
 ·rw[hr,J,chE];rfl
noncomputable def SsnE:Sum thy:=Wg (.nil:DcL E Unit) (λ_=>True) (λ_=>ac) λy=> .bool ab y
theorem Yfc:SumOk E 10 SsnE:=Zy E_ok (Zc (f:=10) rfl) λx _=>Zyp
end
section
open Go
noncomputable def SfwE:Sum thy:=Zcc E (λ_=>ar) 10 (.cons dLre .nil) (λ_=>True) (λx=>fewE x.1) λy=> .bool ab y
theorem Yfx:SumOk E 11 SfwE:=Y9 E_ok (Zc (f:=11) rfl) λx _=>Z3q x.1
noncomputable def FlwE:Fns thy:=addS (addS (addS (addS (addS F0 10 SsnE) 11 SfwE) 12 SinF) 19 SchF) 16 SssE
theorem Yfy:FnsOk E FlwE:=Zb (Zb (Zb (Zb (Zb F0_ok Yfc) Yfx) Zmv) Z3p) Z39
structure LwX where
 k:Nat
 r:Nat
 b:Bool
end
section
open Go
noncomputable def AstE:Fr thy->Hp thy->Nat->Ann thy:=λT h i=>{X:=LwX,fr:=λx=> [(0,T 0),(1,T 1),(2,T 2),(3,T 3),(4,T 4),(11,T 11),(12,.bool ab x.b),(13,.int ab .i64 x.k)],bl:=λx=> [],src:=λ_=> [],md:= [],ih:=i,M:=i+40,meas:=λx=>x.r}
noncomputable def FstL:Fns thy:=addL FlwE 6 8 AstE E
theorem Yd3:FnsOk E FstL:=Zm E_ok Yfy _ _ _
def lstL(l:List Rep) (U kd I J:Int) (v:Bool) (y:List Int) (b0:Bool):Prop:=
 ∃(R:LwX->Prop),(∃(x:LwX),R x/\ac=ac/\((l=l/\(ab=ac->ab=ac))/\U=U/\kd=kd/\I=I/\J=J/\(y=y/\(ab=ac->ab=
 ac))/\b0=LwX.b x/\(0:Int)=(↑(LwX.k x):Int)/\True)/\True)/\∀(x:LwX),R x->(decide ((↑(LwX.k x):Int)<(↑(aa y):Int))=ac->(0:Int)<=(↑(LwX.k
 x):Int)/\(↑(LwX.k x):Int)+(1:Int)<=(↑(aa y):Int)/\∀(a6:Int),y[ag (↑(LwX.k x):Int)]? =ae a6->(decide (a6<(0:Int))=ac->ab=v)
 /\(decide (a6<(0:Int))=ab->(0:Int)<=(↑(LwX.k x):Int)/\(↑(LwX.k x):Int)+(1:Int)<=(↑(aa y):Int)/\∀(a7:Int),y[ag (↑(LwX.k x):Int)]?
 =ae a7->(decide (a7>(1073741824:Int))=ac->ab=v)/\(decide (a7>(1073741824:Int))=ab->(decide ((↑(LwX.k x):Int)>(0:Int))=ac->(0:Int)<=
 wr af ((↑(LwX.k x):Int)-(1:Int))/\wr af ((↑(LwX.k x):Int)-(1:Int))+(1:Int)<=(↑(aa y):Int)/\∀(a1:Int),y[ag (wr
 af ((↑(LwX.k x):Int)-(1:Int)))]? =ae a1->(0:Int)<=(↑(LwX.k x):Int)/\(↑(LwX.k x):Int)+(1:Int)<=(↑(aa y):Int)/\∀(a2:Int),
 y[ag (↑(LwX.k x):Int)]? =ae a2->(decide (a1>=a2)=ac->ab=v)/\(decide (a1>=a2)=ab->(LwX.b x=ac->(0:Int)<=(↑(LwX.k x):Int)/\(↑(LwX.k
 x):Int)+(1:Int)<=(↑(aa y):Int)/\∀(a0:Int),y[ag (↑(LwX.k x):Int)]? =ae a0->(decide (a0<=I)=ac->∃(a4:LwX),R a4/\a4.2+(1:
 Nat)<=x.2/\ac=ac/\((l=l/\(ab=ac->ab=ac))/\U=U/\kd=kd/\I=I/\J=J/\(y=y/\(ab=ac->ab=ac))/\ac=LwX.b a4/\wr
 af ((↑(LwX.k x):Int)+(1:Int))=(↑(LwX.k a4):Int)/\True)/\True)/\(decide (a0<=I)=ab->(0:Int)<=(↑(LwX.k x):Int)/\(↑(LwX.k x):Int)+(1:Int)
 <=(↑(aa y):Int)/\∀(a4:Int),y[ag (↑(LwX.k x):Int)]? =ae a4->(decide (a4>J)=ac->∃(a3:LwX),R a3/\a3.2+(1:Nat)<=x.2/\ac=
 ac/\((l=l/\(ab=ac->ab=ac))/\U=U/\kd=kd/\I=I/\J=J/\(y=y/\(ab=ac->ab=ac))/\ac=LwX.b a3/\wr af
 ((↑(LwX.k x):Int)+(1:Int))=(↑(LwX.k a3):Int)/\True)/\True)/\(decide (a4>J)=ab->∃(a3:LwX),R a3/\a3.2+(1:Nat)<=x.2/\ac=ac/\((l=l/\
 (ab=ac->ab=ac))/\U=U/\kd=kd/\I=I/\J=J/\(y=y/\(ab=ac->ab=ac))/\ab=LwX.b a3/\wr af ((↑(LwX.k x):Int)+(1
 :Int))=(↑(LwX.k a3):Int)/\True)/\True)))/\(LwX.b x=ab->∃(a0:LwX),R a0/\a0.2+(1:Nat)<=x.2/\ac=ac/\((l=l/\(ab=ac->ab=ac))/\
 U=U/\kd=kd/\I=I/\J=J/\(y=y/\(ab=ac->ab=ac))/\ab=LwX.b a0/\wr af ((↑(LwX.k x):Int)+(1:Int))=(↑(LwX.k a0):Int)/\
 True)/\True)))/\(decide ((↑(LwX.k x):Int)>(0:Int))=ab->(LwX.b x=ac->(0:Int)<=(↑(LwX.k x):Int)/\(↑(LwX.k x):Int)+(1:Int)<=(↑(aa y):Int)
 /\∀(a1:Int),y[ag (↑(LwX.k x):Int)]? =ae a1->(decide (a1<=I)=ac->∃(a2:LwX),R a2/\a2.2+(1:Nat)<=x.2/\ac=ac/\((l=l/\(ab=ac
 ->ab=ac))/\U=U/\kd=kd/\I=I/\J=J/\(y=y/\(ab=ac->ab=ac))/\ac=LwX.b a2/\wr af ((↑(LwX.k x):Int)+(1:Int))=
 (↑(LwX.k a2):Int)/\True)/\True)/\(decide (a1<=I)=ab->(0:Int)<=(↑(LwX.k x):Int)/\(↑(LwX.k x):Int)+(1:Int)<=(↑(aa y):Int)/\∀(a2:Int),
 y[ag (↑(LwX.k x):Int)]? =ae a2->(decide (a2>J)=ac->∃(a0:LwX),R a0/\a0.2+(1:Nat)<=x.2/\ac=ac/\((l=l/\(ab=ac->ab=ac))
 /\U=U/\kd=kd/\I=I/\J=J/\(y=y/\(ab=ac->ab=ac))/\ac=LwX.b a0/\wr af ((↑(LwX.k x):Int)+(1:Int))=(↑(LwX.k a0):Int)
 /\True)/\True)/\(decide (a2>J)=ab->∃(a0:LwX),R a0/\a0.2+(1:Nat)<=x.2/\ac=ac/\((l=l/\(ab=ac->ab=ac))/\U=U/\kd=kd/\I
 =I/\J=J/\(y=y/\(ab=ac->ab=ac))/\ab=LwX.b a0/\wr af ((↑(LwX.k x):Int)+(1:Int))=(↑(LwX.k a0):Int)/\True)/\True)))/\(LwX.b
 x=ab->∃(a1:LwX),R a1/\a1.2+(1:Nat)<=x.2/\ac=ac/\((l=l/\(ab=ac->ab=ac))/\U=U/\kd=kd/\I=I/\J=J/\(y=y/\(ab
 =ac->ab=ac))/\ab=LwX.b a1/\wr af ((↑(LwX.k x):Int)+(1:Int))=(↑(LwX.k a1):Int)/\True)/\True)))))/\(decide ((↑(LwX.k x):Int)<
 (↑(aa y):Int))=ab->((!LwX.b x)=ac->ac=v)/\((!LwX.b x)=ab->aa l<=(8:Nat)/\∀(y:Tar×Int),y=inF l U kd I->aa l<=(8
 :Nat)/\∀(a5:Tar×Int),a5=inF l U kd J->((aE y==aE a5)=ac->((∀(c:Cls),c∈au (ao y)->Ex.sz (aD c)+(1:Nat)<=
 (1000000000:Nat)/\aa (aX c)+(1:Nat)<=(1000000000:Nat))/\aa (au (ao y))+(1:Nat)<=(1000000000:Nat))/\∀(a8:Bool),a8
 =eqE (ao y) (ao a5)->a8=v)/\((aE y==aE a5)=ab->ab=v)))
theorem Z8o(l:List Rep) (R kd I J:Int) (v:Bool):Zk E FstL (vc E FstL 400) 6 [.psl Th.reps l ab,.int ab .i64 R,.int ab .i64 kd,.int ab .i64 I,.int ab .i64 J] hp0 0 (λr=>ret E (patch hp0 0 r) r.v (.bool ab v))=(
True/\∀(y:Bool),y=ac->((!y)=ac->ab=v)/\((!y)=ab->True/\∀(y:Bool),y=fewE l->((!y)=ac->ac=v)/\((!y)=ab->aa l<=(8:Nat)/\∀(y:List Int),y=chgF l R kd->(decide (I>=(0:Int))=ac->(decide (I<=J)=ac->(decide (J<=(1073741824:Int))=ac->lstL l R kd I J v y ac)/\(decide (J<=(1073741824:Int))=ab->lstL l R kd I J v y ab))/\(decide (I<=J)=ab->lstL l R kd I J v y ab))/\(decide (I>=(0:Int))=ab->lstL l R kd I J v y ab)))):=by kernel_rfl
theorem Zd3:∀(l:List Int) (x:Int),x∈Xx l↔x∈l
 | [],x=> .rfl
 | [a],x=> .rfl
 |a::b::r,x=>by
  have I:=Zd3 (b::r) x
  by_cases h:a=b
  ·subst h
   rw[Zga,I]
   simp
  ·rw[Zgb h,aK,I,aK (a:=x) (b:=a)]
theorem Zva:∀{l:List Int},l.Pairwise (· <= ·)->(Xx l).Pairwise (· < ·)
 | [],_=> .nil
 | [a],_=>List.pairwise_singleton _ _
 |a::b::r,h=>by
  have J:=dU.1 h
  have R:=Zva J.2
  by_cases e:a=b
  ·subst e
   rw[Zga];exact R
  ·rw[Zgb e]
   refine dU.2 ⟨λy I=> ?_,R⟩
   have U:=J.1 b (List.mem_cons_self ..)
   have I:=(Zd3 _ _).1 I
   rcases aK.1 I with rfl|I
   ·omega
   ·have:=(dU.1 J.2).1 y I
    omega
theorem Zpj:∀l:List Int,(Xx l).length<=l.length
 | []=>aw _
 | [a]=>aw _
 |a::b::r=>by
  have I:=Zpj (b::r)
  rw[Xx]
  split
  ·simp only[aB] at I⊢;omega
  ·simp only[aB] at I⊢;omega
theorem Yd4(l:List Rep) (I kd:Int):(chgF l I kd).Pairwise (· < ·):=by
 unfold chgF;split
 ·refine Zva (List.Pairwise.filter _ ?_)
  rw[List.pairwise_map];refine(Zng (l.filter (edO I kd))).imp λ{a b} h=> ?_;unfold ltE at h;omega
 ·exact .nil
theorem Z8p{l:List Rep} {I kd c:Int} (h:c∈chgF l I kd):0<=c/\c<=1073741824:=by
 unfold chgF at h;split at h
 ·rw[Zd3] at h
  exact rngB_t.1 (cU.1 h).2
 ·cases h
theorem Z8q{l:List Rep} {I kd:Int} {x:Rep} (J:0<=I/\I<16/\1<=kd/\kd<=6) (R:x∈edsF l I kd) (h:0<=x.item.from_/\x.item.from_<=1073741824):x.item.from_∈chgF l I kd:=by
 unfold chgF;rw[if_pos J,Zd3];exact cU.2 ⟨List.mem_map.2 ⟨x,R,rfl⟩,rngB_t.2 h⟩
theorem Z8r{l:List Rep} {I kd J to_:Int} (h0:0<=J) (h1:J<=to_) (h2:to_<=1073741824) (hc:∀c∈chgF l I kd,c<=J\/to_<c):inF l I kd J=inF l I kd to_:=by
 unfold inF;by_cases R:0<=I/\I<16/\1<=kd/\kd<=6
 ·have hF:(0<=I/\I<16/\1<=kd/\kd<=6)/\0<=J/\J<=1073741824:=⟨R,by omega,by omega⟩
  have hT:(0<=I/\I<16/\1<=kd/\kd<=6)/\0<=to_/\to_<=1073741824:=⟨R,by omega,by omega⟩;rw[if_pos hF,if_pos hT];have e:rnE Xl eckF amF kd J (edsF l I kd) (zTE,ab)=rnE Xl eckF amF kd to_ (edsF l I kd) (zTE,ab):=by
   rw[Znh,Znh,Zdb J (show AscE (edsF l I kd) from Zng _),Zdb to_ (show AscE (edsF l I kd) from Zng _)]
   congr 1
   refine List.filter_congr λx hx=> ?_;by_cases U:x.item.from_<=J
   ·rw[decide_eq_true U,decide_eq_true (by omega)]
   ·rw[decide_eq_false U,decide_eq_false]
    intro ht;rcases hc _ (Z8q R hx ⟨by omega,by omega⟩) with h|h<;>omega
  rw[e]
 ·rw[if_neg λh=>R h.1,if_neg λh=>R h.1]
theorem Zmo(l:List Rep) (a0 kd J R:Int) (h8:l.length<=8) (b0:Bool) (hb:b0=ac->0<=J/\J<=R/\R<=1073741824):lstL l a0 kd J R ac (chgF l a0 kd) b0:=by
 unfold lstL;have b1:=Yd4 l a0 kd;have b2:∀c∈chgF l a0 kd,0<=c/\c<=1073741824:=λc h=>Z8p h;have b3:= @Z8r l a0 kd J R;have b5:(chgF l a0 kd).length<=1000000:=by
  unfold chgF;split
  ·have h1:=Zpj (frmF (edsF l a0 kd))
   have h2:=Zua (edsF l a0 kd);have h3:(edsF l a0 kd).length<=l.length:=Nat.le_trans (Nat.le_of_eq (Zbd _).length_eq) (List.length_filter_le ..);omega
  ·exact ba _
 generalize chgF l a0 kd=y at*;simp only[bk,decide_eq_true_eq,decide_eq_false_iff_not,true_and,and_true,imp_self,implies_true,bh,cd,beq_iff_eq,beq_eq_false_iff_ne];refine⟨λx=>x.k<=y.length/\(x.b=ac->b0=ac/\∀(j:Nat) (c:Int),j<x.k->y[j]? =ae c->c<=J\/R<c)/\x.r=y.length-x.k,⟨⟨0,y.length,b0⟩,⟨ba _,λh=>⟨h,λj c hj=>absurd hj (kk _)⟩,rfl⟩,rfl,rfl⟩,?_⟩;rintro x ⟨hk,a3,hr⟩;refine az (λh=>⟨by omega,by omega,λc hc=> ?_⟩) (λh hx=> ?_)
 ·have b4:=b2 c (aI hc)
  have nx:∀b:Bool,(b=ac->x.b=ac/\(c<=J\/R<c))->∃U:LwX,(U.k<=y.length/\(U.b=ac->b0=ac/\∀(j:Nat) (c:Int),j<U.k->y[j]? =ae c->c<=J\/R<c)/\U.r=y.length-U.k)/\U.r+1<=x.r/\b=U.b/\wr .i64 ((x.k:Int)+1)=(U.k:Int):=by
   intro b a1;refine⟨⟨x.k+1,y.length-(x.k+1),b⟩,⟨by dsimp only;omega,λh=> ?_,rfl⟩,by dsimp only;omega,rfl,wr64 (by omega) (by omega)⟩;obtain⟨q1,q2⟩:=a1 h;refine⟨(a3 q1).1,λj d hj hd=> ?_⟩;rcases iN.1 hj with hj|rfl
   ·exact(a3 q1).2 j d hj hd
   ·rw[hc] at hd;cases hd;exact q2
  refine az (λg=>by omega) (λ_=>⟨by omega,by omega,λc2 a6=> ?_⟩);rw[hc] at a6;cases a6;refine az (λg=>by omega) (λ_=> ?_)
  have tl:(x.b=ac->0<=(x.k:Int)/\(x.k:Int)+1<=(y.length:Int)/\∀(U:Int),y[x.k]? =ae U->(U<=J->∃I:LwX,(I.k<=y.length/\(I.b=ac->b0=ac/\∀(j:Nat) (c:Int),j<I.k->y[j]? =ae c->c<=J\/R<c)/\I.r=y.length-I.k)/\I.r+1<=x.r/\ac=I.b/\wr .i64 ((x.k:Int)+1)=(I.k:Int))/\(¬U<=J->0<=(x.k:Int)/\(x.k:Int)+1<=(y.length:Int)/\∀(a4:Int),y[x.k]? =ae a4->(a4>R->∃I:LwX,(I.k<=y.length/\(I.b=ac->b0=ac/\∀(j:Nat) (c:Int),j<I.k->y[j]? =ae c->c<=J\/R<c)/\I.r=y.length-I.k)/\I.r+1<=x.r/\ac=I.b/\wr .i64 ((x.k:Int)+1)=(I.k:Int))/\(¬a4>R->∃I:LwX,(I.k<=y.length/\(I.b=ac->b0=ac/\∀(j:Nat) (c:Int),j<I.k->y[j]? =ae c->c<=J\/R<c)/\I.r=y.length-I.k)/\I.r+1<=x.r/\ab=I.b/\wr .i64 ((x.k:Int)+1)=(I.k:Int))))/\(x.b=ab->∃I:LwX,(I.k<=y.length/\(I.b=ac->b0=ac/\∀(j:Nat) (c:Int),j<I.k->y[j]? =ae c->c<=J\/R<c)/\I.r=y.length-I.k)/\I.r+1<=x.r/\ab=I.b/\wr .i64 ((x.k:Int)+1)=(I.k:Int)):=by
   refine az (λa1=>⟨by omega,by omega,λc3 a2=> ?_⟩) (λ_=>nx ab (λe=>by cases e));rw[hc] at a2;cases a2;refine az (λg=>nx ac λ_=>⟨a1,.inl g⟩) (λ_=>⟨by omega,by omega,λc4 a7=> ?_⟩);rw[hc] at a7;cases a7;exact az (λg=>nx ac λ_=>⟨a1,.inr g⟩) (λ_=>nx ab (λe=>by cases e))
  refine az (λg=> ?_) (λ_=>tl);have w1:wr .i64 ((x.k:Int)-1)=((x.k-1:Nat):Int):=by rw[wr64 (by omega) (by omega)];omega
  rw[w1,bk];refine⟨by omega,by omega,λu hu=>⟨by omega,by omega,λc3 a2=> ?_⟩⟩;rw[hc] at a2;cases a2;refine az (λq=> ?_) (λ_=>tl);obtain⟨i1,e1⟩:=aj.1 hu;obtain⟨i2,e2⟩:=aj.1 hc;have:=List.pairwise_iff_getElem.1 b1 (x.k-1) x.k i1 i2 (by omega);rw[e1,e2] at this;omega
 ·obtain⟨a1,a8⟩:=a3 hx
  obtain⟨r1,r2,r3⟩:=hb a1;refine⟨h8,λa ha=>⟨h8,λb a9=> ?_⟩⟩;have a5:a=b:=by
   rw[ha,a9];refine b3 r1 r2 r3 λc hc=> ?_;obtain⟨j,hj,e⟩:=List.getElem_of_mem hc;exact a8 j c (by omega) (by rw[<-e];exact List.getElem?_eq_getElem hj)
  refine az (λ_=>⟨?_,λq hq=> ?_⟩) (λhn=>absurd (by rw[a5]) hn)
  ·have:=Ybp (Zpv l a0 kd J).1
   rw[ha];exact this
  ·rw[hq,a5];exact Zl1 _
theorem Z2y(l:List Rep) (R kd I U:Int):PureC E 6 [.psl Th.reps l ab,.int ab .i64 R,.int ab .i64 kd,.int ab .i64 I,.int ab .i64 U] (.bool ab ac):=by
 refine Za E_ok (Zd E_ok Yd3 400) ?_;rw[Z8o];refine⟨trivial,λy h=>ifT h ⟨trivial,λf hf=>az (λ_=>rfl) (λa0=> ?_)⟩⟩;have J:l.length<=8:=Z9f (by rw[<-hf];simpa using a0);refine⟨J,λy hy=> ?_⟩;rw[hy];exact az (λa=>az (λb=>az (λc=>Zmo l R kd I U J ac λ_=>⟨of_decide_eq_true a,of_decide_eq_true b,of_decide_eq_true c⟩) (λ_=>Zmo l R kd I U J ab λe=>by cases e)) (λ_=>Zmo l R kd I U J ab λe=>by cases e)) (λ_=>Zmo l R kd I U J ab λe=>by cases e)
end
section
open Go.ChangeShapes Go.WideShapes Go.ChangeAt Go.RowKit
theorem Zpk{H:Type} {enc:TypeId×Value->H} {P:Program} {w:World} {base:Nat} {I:Nat->Bool} {held:Bool} {t0 t1 t2 t3 t4:TypeId} {args:Array Value} {ds:List (DataW H)} {ps:List MemPlace} (h:fU enc P w base I held [t0,t1,t2,t3,t4] args.toList ds ps):
 ∃v0 v1 v2 v3 v4 d0 d1 d2 d3 J R U p2 p3 p4,args= #[v0,v1,v2,v3,v4]/\ds= [d0,d1,d2,d3,J]/\ps=R++U++p2++p3++p4/\gT enc P w base I held t0 v0 d0 R/\gT enc P w base I held t1 v1 d1 U/\gT enc P w base I held t2 v2 d2 p2/\gT enc P w base I held t3 v3 d3 p3/\gT enc P w base I held t4 v4 J p4:=by
 obtain⟨v0,a6,d0,a0,R,q0,a5,rfl,rfl,h0,r0⟩:=trodAll_cons h
 obtain⟨v1,a7,d1,a1,U,q1,rfl,rfl,rfl,h1,r1⟩:=trodAll_cons r0
 obtain⟨v2,a8,d2,a2,p2,q2,rfl,rfl,rfl,h2,r2⟩:=trodAll_cons r1
 obtain⟨v3,a9,d3,a3,p3,q3,rfl,rfl,rfl,h3,r3⟩:=trodAll_cons r2
 obtain⟨v4,b0,J,a4,p4,q4,rfl,rfl,rfl,h4,r4⟩:=trodAll_cons r3
 obtain⟨rfl,rfl,rfl⟩:=trodAll_nil r4
 exact⟨v0,v1,v2,v3,v4,d0,d1,d2,d3,J,R,U,p2,p3,p4,by cases args;simp_all,rfl,by simp,h0,h1,h2,h3,h4⟩
end
section
open Go.ChangeShapes Go.WideShapes Go.ChangeAt Go.RowKit

theorem editionsSteps_lifted(os:Os) (started:os.Started) (H:Type) (enc:TypeId×Value->H):
    ReturnsInHanded {} Tryz.checked os 6 .any (λw args=>(Rows.editionsStepsSpec.pre enc Tryz.prog Tryz.f6 [] ab w args/\laidMetH Tryz.prog Zjt w)/\sizedMet enc Tryz.prog Tryz.f6 (OpenSpec.ofChange Rows.editionsStepsSpec) ab w args)
      (Rows.editionsStepsSpec.post enc Tryz.prog Tryz.f6 ab ac ab ab):=by
  refine returnsInHanded_of_change_and (C:=Tryz.checked) (X:=λw _=>laidMetH Tryz.prog Zjt w) (λ_ _ _ hh h=>h.of_heap hh) Tryz.own started (by kernel_rfl) Tryz.func6
    (ChangeSpec.witness_shaped (enc:=enc) (C:=Tryz.checked) (os:=os) (X:=λw _=>laidMetH Tryz.prog Zjt w) ab (Zn0 os) #[.slice ar 0 0,.int .i64 0,.int .i64 0,.int .i64 0,.int .i64 0] 8 (Zz8 os) (Z6h os _) (by kernel_rfl) (by kernel_rfl) (by kernel_rfl) (Z6i os _)) ?_
  intro W base args ds gs before hval0 hW _ hz hL _
  have hval:∀(j:Nat) t v,Tryz.f6.params[j]? =ae t->args[j]? =ae v->Value.okWide Tryz.prog W .any base t v:=hval0
  have hW':=hW
  obtain⟨p,q,hA0,hV,rfl,hfz,hnd⟩:=hW
  have hA:fU enc Tryz.prog W 0 (λ_=>ac) ac Tryz.f6.params.toList args.toList ds p:=hA0
  rw[Tryz.params6] at hA hval hz
  obtain⟨v0,v1,v2,v3,v4,d0,d1,d2,d3,d4,p0,p1,p2,p3,p4,rfl,rfl,rfl,h0,h1,h2,h3,h4⟩:=Zpk hA
  obtain⟨rfl,rfl⟩:=trodVars_none hV
  obtain⟨l,hdl⟩:=Z0d (hval 0 22 v0 rfl rfl) h0
  obtain⟨rw,rfl,_,hrrw,_⟩:=open_int Tryz.underlying3 (hval 1 3 v1 rfl rfl) h1
  obtain⟨kd,rfl,_,hrkd,_⟩:=open_int Tryz.underlying3 (hval 2 3 v2 rfl rfl) h2
  obtain⟨fr,rfl,_,hrfr,_⟩:=open_int Tryz.underlying3 (hval 3 3 v3 rfl rfl) h3
  obtain⟨tt,rfl,_,hrtt,_⟩:=open_int Tryz.underlying3 (hval 4 3 v4 rfl rfl) h4
  refine(Z0b (Z2y l rw kd fr tt) hL (Zdh hdl (Zdh (.int _ _ _) (Zdh (.int _ _ _) (Zdh (.int _ _ _) (Ykd (.int _ _ _))))))).mono λen W' ⟨hen,hw⟩=> ?_
  exact⟨_,hen,Z3o Tryz.laidOut rfl Tryz.underlying4 (by kernel_rfl) rfl hW' rfl rfl rfl hw⟩

end
section
open Go.ChangeShapes Go.WideShapes Go.ChangeAt Go.RowKit

theorem Zaa:(Rows.editionsStepsRow.inPlace==Tryz.prog.inPlace 6)=true:=by kernel_rfl
theorem Ui:(Rows.editionsStepsRow.unfollowed==Tryz.prog.unfollowed 6)=true:=by kernel_rfl
theorem Uz:(Rows.editionsStepsRow.recurses==Tryz.prog.recurses 6)=true:=by kernel_rfl
theorem Zca:(Rows.editionsStepsRow.named==Tryz.prog.varsNamed 6)=true:=by kernel_rfl
theorem Zcb:joinedFacts Tryz.prog 6 Tryz.f6 Rows.editionsStepsSpec Rows.editionsStepsRow=true:=by
  unfold joinedFacts;rw[Zaa,Ui,Uz,Zca]
  kernel_rfl
theorem Zc9:Tryz.prog.funcNamed Rows.editionsStepsRow.func=ae 6:=by kernel_rfl
theorem editionsSteps_holds:Rows.EditionsStepsSaid:=
  OpenClaim.holds_of_wide 6 Tryz.f6 rfl rfl rfl rfl rfl rfl rfl ⟨rfl,rfl,rfl,rfl,rfl⟩ rfl rfl rfl rfl rfl Zc9 Tryz.func6 Zcb
    (of_decide_eq_true (by kernel_rfl)) (by unfold Func.isWrapper;first|(rw[if_pos (by decide+kernel)];kernel_rfl)|(rw[if_neg (by decide+kernel)];exact⟨rfl,rfl⟩))
    (λos started H enc _=>editionsSteps_lifted os started H enc)

end
end Go.Proofs.YtpmhbnameoklkaaGreatDoor
