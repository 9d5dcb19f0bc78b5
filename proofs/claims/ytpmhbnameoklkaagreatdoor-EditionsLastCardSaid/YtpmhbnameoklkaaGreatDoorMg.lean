/- Merged texts: TpV, TcH, EdJ, EdL, EdK, EdM, EdS, EdFive, RowEditionsLastA, RowEditionsLastB. -/
import Derived.Test.YtpmhbnameoklkaaGreatDoorMf
open And renaming intro->aB
open Bool renaming and_eq_false_iff->bm,and_eq_true->aq,and_false->iE,and_true->cG,false->ab,false_and->eo,false_eq_true->aO,not_eq_false'->cd,not_eq_true'->bi,or_eq_false_iff->bG,or_eq_true->bd,true->ac,true_and->cx,true_eq_false->aS
open ByteArray renaming mk->dU
open Decidable renaming not_not->bJ
open Go.DataW renaming Trod->gq,TrodAll->fW
open Go.IntKind renaming i64->af
open Go.Proofs.YtpmhbnameoklkaaGreatDoor.Cls renaming name->aP,pay->aA,when_->aV
open Go.Proofs.YtpmhbnameoklkaaGreatDoor.Ex renaming d0->bx,d1->bA,d2->bB,d3->bC,l->bw,n->bW,op->aJ
open Go.Proofs.YtpmhbnameoklkaaGreatDoor.Tar renaming clauses->ar,for_->bI,name->bN
open Int renaming ofNat_eq_natCast->bX,toNat->ag,toNat_natCast->bt
open List renaming drop->cj,filter_append->fS,filter_cons->ey,foldl_append->jH,getElem?_eq_none->eg,length->aa,length_append->aC,length_pos_iff->gW,mem_of_getElem?->aI,take->av,take_add_one->cz,take_of_length_le->bg
open Nat renaming le_refl->aw,lt_succ_iff_lt_or_eq->iO,not_lt_zero->km,zero_le->bb
open Option renaming none->au,some->ae,toList_some->fJ
open Prod renaming fst->ao,snd->aE
namespace Go.Proofs.YtpmhbnameoklkaaGreatDoor
set_option linter.unusedVariables false
set_option linter.unusedSimpArgs false
set_option linter.unnecessarySimpa false
set_option maxRecDepth 100000
section
open Go
open Classical in
noncomputable def eqE{α:Type} (a b:α):Bool:=decide (a=b)
theorem eqE_iff{α:Type} {a b:α}:eqE a b=ac↔a=b:=by unfold eqE;simp
theorem eqE_no{α:Type} {a b:α}:eqE a b=ab↔a≠b:=by unfold eqE;simp
theorem Zdl{α:Type} (a:α):eqE a a=true:=eqE_iff.2 rfl
noncomputable def dEx2:DcL E (Ex×Ex×Unit):= .cons (dR .exprs) (.cons (dR .exprs) .nil)
noncomputable def Yc5(m:Nat):Sum thy:=sumP dEx2 (λx=>x.1.sz<m) λx=> .bool ab (eqE x.1 x.2.1)
noncomputable def Asx:Fr thy->Hp thy->Nat->Ann thy:=λT h i=>{X:=LX,fr:=λx=> [(2,T 2),(3,T 3),(5,.int ab .i64 x.k)],bl:=λx=>blkP h (T 2)++blkP h (T 3),src:=λ_=> [],md:= [],ih:=i,M:=i+30,meas:=λx=>x.r}
noncomputable def Fsx(m:Nat):Fns thy:=addL (addS F0 85 (Yc5 m)) 85 4 Asx E
abbrev qDR1(I:Ex):=(aJ I=aJ I/\bW I=bW I/\bx I=bx I/\bA I=bA I/\bB I=bB I/\bC I=bC I/\(bw I=bw I/\(ab=ac->ab=ac))/\True)
abbrev qDR2(I:Ex):=(Ex.mk (aJ I) (bW I) (bx I) (bA I) (bB I) (bC I) (bw I))
abbrev qDR3(I:Ex):=(↑(aa (bw I)):Int)
abbrev qDR4(I:LX):=(↑(LX.k I):Int)
abbrev qDR5(I:Ex) (J:Ex):=(!(bx I==bx J&&(bA I==bA J&&(bB I==bB J&&(bC I==bC J&&ac)))))
theorem Yc6(m:Nat) (x y:Ex) (v:Bool):Zk E F0 (vc E (Fsx m) 400) 85 [exA x,exA y] hp0 0 (λr=>ret E (patch hp0 0 r) r.v (.bool ab v))=(
 ∃(Q:Bool->Prop),(((aJ x !=aJ y)=ac->Q ac)/\((aJ x !=aJ y)=ab->((bW x !=bW y)=ac->Q ac)/\((bW x !=bW y)=ab->((qDR5 x y)=ac->Q ac)/\((qDR5 x y)=ab->(((qDR3 x) !=(qDR3 y))=ac->Q ac)/\(((qDR3 x) !=(qDR3 y))=ab->Q ab)))))/\(Q ac->ab=v)/\(Q ab->∃(R:LX->Prop),(∃(I:LX),R I/\ac=ac/\((0:Nat)=(0:Nat)/\(0:Nat)=(0:Nat)/\(0:Int)=(qDR4 I)/\True)/\(qDR1 x)/\(qDR1 y)/\True)/\∀(I:LX),R I->(decide ((qDR4 I)<(qDR3 x))=ac->(0:Int)<=(qDR4 I)/\(qDR4 I)+(1:Int)<=(qDR3 x)/\∀(J:Ex),(bw x)[ag (qDR4 I)]? =ae J->(0:Int)<=(qDR4 I)/\(qDR4 I)+(1:Int)<=(qDR3 y)/\∀(U:Ex),(bw y)[ag (qDR4 I)]? =ae U->Ex.sz (qDR2 J)+(1:Nat)<=m/\((!eqE (qDR2 J) (qDR2 U))=ac->ab=v)/\((!eqE (qDR2 J) (qDR2 U))=ab->∃(a0:LX),R a0/\a0.2+(1:Nat)<=I.2/\ac=ac/\((0:Nat)=(0:Nat)/\(0:Nat)=(0:Nat)/\wr af ((qDR4 I)+(1:Int))=(qDR4 a0)/\True)/\(qDR1 x)/\(qDR1 y)/\True))/\(decide ((qDR4 I)<(qDR3 x))=ab->ac=v))):=by kernel_rfl
noncomputable def dCl2:DcL E (Cls×Cls×Unit):= .cons (dR .clauses) (.cons (dR .clauses) .nil)
noncomputable def Seqc:Sum thy:=sumP dCl2 (λx=>x.1.pay.sz<1000000000/\x.1.when_.length<1000000000) λx=> .bool ab (eqE x.1 x.2.1)
noncomputable def Fsc:Fns thy:=addL (addS F0 85 (Yc5 1000000000)) 42 4 Asx E
abbrev qDRb(I:Cls):=(aA I)
abbrev qDR6(I:Cls):=(aP I=aP I/\(aV I=aV I/\(ab=ac->ab=ac))/\aJ (qDRb I)=aJ (qDRb I)/\bW (qDRb I)=bW (qDRb I)/\bx (qDRb I)=bx (qDRb I)/\bA (qDRb I)=bA (qDRb I)/\bB (qDRb I)=bB (qDRb I)/\bC (qDRb I)=bC (qDRb I)/\(bw (qDRb I)=bw (qDRb I)/\(ab=ac->ab=ac))/\True)
abbrev qDR7(I:Cls):=(Ex.mk (aJ (qDRb I)) (bW (qDRb I)) (bx (qDRb I)) (bA (qDRb I)) (bB (qDRb I)) (bC (qDRb I)) (bw (qDRb I)))
abbrev qDR8(I:Cls):=(↑(aa (aV I)):Int)
abbrev qDR9(I:LX):=(↑(LX.k I):Int)
abbrev qDRa(I:Tst) (J:Tst):=(!(Tst.attr I==Tst.attr J&&(Tst.low I==Tst.low J&&(Tst.high I==Tst.high J&&ac))))
theorem Yc7(x y:Cls) (v:Bool):Zk E Fsc (vc E Fsc 400) 42 [.agg (encF ab .clauses x),.agg (encF ab .clauses y)] hp0 0 (λr=>ret E (patch hp0 0 r) r.v (.bool ab v))=(
 ∃(Q:Bool->Prop),(((!aP x==aP y)=ac->Q ac)/\((!aP x==aP y)=ab->(((qDR8 x) !=(qDR8 y))=ac->Q ac)/\(((qDR8 x) !=(qDR8 y))=ab->Q ab)))/\(Q ac->ab=v)/\(Q ab->∃(R:LX->Prop),(∃(I:LX),R I/\ac=ac/\((0:Nat)=(0:Nat)/\(0:Nat)=(0:Nat)/\(0:Int)=(qDR9 I)/\True)/\(qDR6 x)/\(qDR6 y)/\True)/\∀(I:LX),R I->(decide ((qDR9 I)<(qDR8 x))=ac->(0:Int)<=(qDR9 I)/\(qDR9 I)+(1:Int)<=(qDR8 x)/\∀(J:Tst),(aV x)[ag (qDR9 I)]? =ae J->(0:Int)<=(qDR9 I)/\(qDR9 I)+(1:Int)<=(qDR8 y)/\∀(U:Tst),(aV y)[ag (qDR9 I)]? =ae U->((qDRa J U)=ac->ab=v)/\((qDRa J U)=ab->∃(a0:LX),R a0/\a0.2+(1:Nat)<=I.2/\ac=ac/\((0:Nat)=(0:Nat)/\(0:Nat)=(0:Nat)/\wr af ((qDR9 I)+(1:Int))=(qDR9 a0)/\True)/\(qDR6 x)/\(qDR6 y)/\True))/\(decide ((qDR9 I)<(qDR8 x))=ab->Ex.sz (qDR7 x)+(1:Nat)<=(1000000000:Nat)/\eqE (qDR7 x) (qDR7 y)=v))):=by kernel_rfl
noncomputable def Fss:Fns thy:=addL (addS F0 42 Seqc) 16 4 Asx E
abbrev qDRc(I:Cls):=(Ex.mk (aJ (aA I)) (bW (aA I)) (bx (aA I)) (bA (aA I)) (bB (aA I)) (bC (aA I)) (bw (aA I)))
abbrev qDRd(I:Tar):=(bN I=bN I/\bI I=bI I/\(ar I=ar I/\(ab=ac->ab=ac))/\True)
abbrev qDRe(I:Tar):=(↑(aa (ar I)):Int)
abbrev qDRf(I:Cls):=(Cls.mk (aP I) (aV I) (qDRc I))
abbrev qDRg(I:LX):=(↑(LX.k I):Int)
theorem Yc8(x y:Tar) (v:Bool):Zk E Fss (vc E Fss 400) 16 [.agg (encF ab .tariffs x),.agg (encF ab .tariffs y)] hp0 0 (λr=>ret E (patch hp0 0 r) r.v (.bool ab v))=(
 ∃(Q:Bool->Prop),(((!bN x==bN y)=ac->Q ac)/\((!bN x==bN y)=ab->((bI x !=bI y)=ac->Q ac)/\((bI x !=bI y)=ab->(((qDRe x) !=(qDRe y))=ac->Q ac)/\(((qDRe x) !=(qDRe y))=ab->Q ab))))/\(Q ac->ab=v)/\(Q ab->∃(R:LX->Prop),(∃(I:LX),R I/\ac=ac/\((0:Nat)=(0:Nat)/\(0:Nat)=(0:Nat)/\(0:Int)=(qDRg I)/\True)/\(qDRd x)/\(qDRd y)/\True)/\∀(I:LX),R I->(decide ((qDRg I)<(qDRe x))=ac->(0:Int)<=(qDRg I)/\(qDRg I)+(1:Int)<=(qDRe x)/\∀(J:Cls),(ar x)[ag (qDRg I)]? =ae J->(0:Int)<=(qDRg I)/\(qDRg I)+(1:Int)<=(qDRe y)/\∀(U:Cls),(ar y)[ag (qDRg I)]? =ae U->(Ex.sz (qDRc J)+(1:Nat)<=(1000000000:Nat)/\aa (aV J)+(1:Nat)<=(1000000000:Nat))/\((!eqE (qDRf J) (qDRf U))=ac->ab=v)/\((!eqE (qDRf J) (qDRf U))=ab->∃(a0:LX),R a0/\a0.2+(1:Nat)<=I.2/\ac=ac/\((0:Nat)=(0:Nat)/\(0:Nat)=(0:Nat)/\wr af ((qDRg I)+(1:Int))=(qDRg a0)/\True)/\(qDRd x)/\(qDRd y)/\True))/\(decide ((qDRg I)<(qDRe x))=ab->ac=v))):=by kernel_rfl
theorem Yhw{x y:Ex} (I:x.op=y.op) (J:x.n=y.n) (R:x.d0=y.d0) (U:x.d1=y.d1) (h5:x.d2=y.d2) (h6:x.d3=y.d3) (h7:x.l=y.l):x=y:=by
 cases x;cases y;simp only[aJ,bW,bx,bA,bB,bC,bw] at*;subst I J R U h5 h6 h7;rfl
theorem Z1q{α:Type} {l m:List α} {k:Nat} {a b:α} (I:l[k]? =ae a) (J:m[k]? =ae b) (h:l.take k=m.take k) (e:a=b):l.take (k+1)=m.take (k+1):=by
 rw[cz,cz,I,J,h,e]
theorem Z1r{α:Type} {l m:List α} {k:Nat} (I:l.length<=k) (J:l.length=m.length) (h:l.take k=m.take k):l=m:=by
 rwa[bg I,bg (by omega)] at h
theorem Yhx{α:Type} {l m:List α} {k:Nat} {a b:α} (J:l[k]? =ae a) (I:m[k]? =ae b) (e:a≠b):l≠m:=by
 rintro rfl;rw[J] at I;cases I;exact e rfl
theorem Zrz{α:Type} {l m:List α} {V:Bool} {G:Prop} {B:α->Prop} (hl:l.length=m.length) (hb:l.length<=1000000000) (hB:∀a∈l,B a) (hT:l=m->G) (hF:l≠m->ab=V):
 ∃R:LX->Prop,(∃I:LX,R I/\(0:Int)=(I.k:Int))/\∀I:LX,R I->(((I.k:Int)<(l.length:Int))->(0:Int)<=(I.k:Int)/\(I.k:Int)+1<=(l.length:Int)/\∀a,l[ag (I.k:Int)]? =ae a->(0:Int)<=(I.k:Int)/\(I.k:Int)+1<=(m.length:Int)/\∀b,m[ag (I.k:Int)]? =ae b->B a/\(¬a=b->ab=V)/\(a=b->∃a0:LX,R a0/\a0.r+1<=I.r/\wr af ((I.k:Int)+1)=(a0.k:Int)))/\(¬(I.k:Int)<(l.length:Int)->G):=by
 refine⟨λy=>y.k<=l.length/\l.take y.k=m.take y.k/\y.r=l.length-y.k,⟨⟨0,l.length,[],0⟩,⟨(by dsimp only;omega),rfl,rfl⟩,rfl⟩,?_⟩
 rintro⟨k,r,D,q⟩ ⟨h1,J,h3⟩
 simp only at h1 J h3⊢
 refine aB (λhk=>⟨by omega,by omega,λa U=>⟨by omega,by omega,λb a1=>⟨hB a (aI U),λe=>hF (Yhx U a1 e),λe=> ?_⟩⟩⟩) (λhk=>hT (Z1r (by omega) hl J))
 exact⟨⟨k+1,l.length-(k+1),[],0⟩,⟨(by dsimp only;omega),Z1q U a1 J e,rfl⟩,(by dsimp only;omega),(wr64 (by omega) (by omega)).trans (by dsimp only;omega)⟩
theorem Z7y{l m:List Tst} {V:Bool} {G:Prop} (hl:l.length=m.length) (J:l.length<=1000000000) (hT:l=m->G) (hF:l≠m->ab=V):
 ∃R:LX->Prop,(∃I:LX,R I/\(0:Int)=(I.k:Int))/\∀I:LX,R I->(((I.k:Int)<(l.length:Int))->(0:Int)<=(I.k:Int)/\(I.k:Int)+1<=(l.length:Int)/\∀a,l[ag (I.k:Int)]? =ae a->(0:Int)<=(I.k:Int)/\(I.k:Int)+1<=(m.length:Int)/\∀b,m[ag (I.k:Int)]? =ae b->(¬a.attr=b.attr\/¬a.low=b.low\/¬a.high=b.high->ab=V)/\(a=b->∃U:LX,R U/\U.r+1<=I.r/\wr af ((I.k:Int)+1)=(U.k:Int)))/\(¬(I.k:Int)<(l.length:Int)->G):=by
 obtain⟨R,h1,h2⟩:=Zrz (B:=λ_=>True) hl J (λ_ _=>trivial) hT hF
 refine⟨R,h1,λI hx=>aB (λhk=> ?_) (h2 I hx).2⟩
 obtain⟨a1,a2,a3⟩:=(h2 I hx).1 hk
 refine⟨a1,a2,λa ha=> ?_⟩
 obtain⟨b1,b2,a0⟩:=a3 a ha
 refine⟨b1,b2,λb J=>⟨λe=>(a0 b J).2.1 (by rintro rfl;simp at e),(a0 b J).2.2⟩⟩
theorem Yhy:∀(m:Nat),m<=1000000000->∀(x y:Ex),x.sz<m->PureC E 85 [exA x,exA y] (.bool ab (eqE x y)):=by
 intro m
 induction m with
 |zero=>intro _ x y h;omega
 |succ m ih=>
  intro hb x y hm;have hF:FnsOk E (Fsx m):=Zm E_ok (Zb F0_ok (Yg E_ok (Zc (f:=85) rfl) λx h=>ih (by omega) x.1 x.2.1 h)) _ _ _;refine Za E_ok (Xk E_ok F0_ok λf N c=>(Zf4 E_ok hF 400 f N c).1) ?_;rw[Yc6];delta qDR1 qDR2 qDR3 qDR4 qDR5;have a1:=x.sz_eq;have a0:=Ex.szL_len x.l
  simp only[Yf,Z6,Wg,Wh,Wi,beq_iff_eq,bne_iff_ne,beq_eq_false_iff_ne,bne_eq_false_iff_eq,decide_eq_true_eq,decide_eq_false_iff_not,bd,bG,bi,cd,aq,cG,cx,bm,beq_self_eq_true,Yt,Yn,ne_eq,and_true,true_and,aS,aO,false_or,or_false,true_implies,imp_self,bX,not_true_eq_false,not_false_eq_true,bJ,Ex.eta,eqE_iff,eqE_no];have no:x≠y->ab=eqE x y:=λh=>(eqE_no.2 h).symm
  by_cases U:x.op=y.op/\x.n=y.n/\(x.d0=y.d0/\x.d1=y.d1/\x.d2=y.d2/\x.d3=y.d3)/\x.l.length=y.l.length
  ·obtain⟨J,R,I,h4⟩:=U
   refine⟨λb=>b=ab,⟨λh=>absurd J h,λ_=>⟨λh=>absurd R h,λ_=>⟨λh=>absurd I (by rintro⟨a,b,c,d⟩;rcases h with h|h|h|h<;>exact h (by assumption)),λ_=>⟨λh=>absurd h4 (by omega),λ_=>rfl⟩⟩⟩⟩,λh=>by simp at h,λ_=> ?_⟩
   exact Zrz (B:=λa=>a.sz+1<=m) (by omega) (by omega) (λa ha=>by have:=Ex.szL_mem ha;omega) (λe=>(eqE_iff.2 (Yhw J R I.1 I.2.1 I.2.2.1 I.2.2.2 e)).symm) (λh=>no λe=>h (by rw[e]))
  ·refine⟨λb=>b=ac,⟨λ_=>rfl,λJ=>⟨λ_=>rfl,λR=>⟨λ_=>rfl,λI=>⟨λ_=>rfl,λh4=>absurd ⟨J,R,I,by omega⟩ U⟩⟩⟩⟩,λ_=>no λe=>U (by rw[e];simp),λh=>by simp at h⟩
theorem Yhz:SumOk E 85 (Yc5 1000000000):=Yg E_ok (Zc (f:=85) rfl) λx h=>Yhy 1000000000 (aw _) x.1 x.2.1 h
theorem Yc9{x y:Cls} (I:x.name=y.name) (J:x.when_=y.when_) (R:x.pay=y.pay):x=y:=by
 cases x;cases y;simp only at*;subst I J R;rfl
theorem Yda{x y:Tar} (I:x.name=y.name) (J:x.for_=y.for_) (R:x.clauses=y.clauses):x=y:=by
 cases x;cases y;simp only at*;subst I J R;rfl
theorem Ydb{x y:Tst}:(x.attr=y.attr/\x.low=y.low/\x.high=y.high)↔x=y:=by
 cases x;cases y;simp
def SmC(c:Cls):Prop:=c.pay.sz<1000000000/\c.when_.length<1000000000
theorem Ydc(x y:Cls) (h:SmC x):PureC E 42 [.agg (encF ab .clauses x),.agg (encF ab .clauses y)] (.bool ab (eqE x y)):=by
 have hF:FnsOk E Fsc:=Zm E_ok (Zb F0_ok Yhz) _ _ _;refine Za E_ok (Zd E_ok hF 400) ?_;rw[Yc7];delta qDRb qDR6 qDR7 qDR8 qDR9 qDRa;obtain⟨hz,hw⟩:=h
 simp only[Yf,Z6,Wg,Wh,Wi,beq_iff_eq,bne_iff_ne,beq_eq_false_iff_ne,bne_eq_false_iff_eq,decide_eq_true_eq,decide_eq_false_iff_not,bd,bG,bi,cd,aq,cG,cx,bm,beq_self_eq_true,Yt,Yn,ne_eq,and_true,true_and,aS,aO,false_or,or_false,true_implies,imp_self,bX,not_true_eq_false,not_false_eq_true,bJ,Ex.eta,eqE_iff,eqE_no,Ydb];have no:x≠y->ab=eqE x y:=λh=>(eqE_no.2 h).symm
 by_cases R:x.name=y.name/\x.when_.length=y.when_.length
 ·obtain⟨I,U⟩:=R
  refine⟨λb=>b=ab,⟨λh=>absurd I h,λ_=>⟨λh=>absurd U (by omega),λ_=>rfl⟩⟩,λh=>by simp at h,λ_=> ?_⟩
  exact Z7y (by omega) (by omega) (λe=>⟨by omega,by
   by_cases J:x.pay=y.pay
   ·rw[eqE_iff.2 J,eqE_iff.2 (Yc9 I e J)]
   ·rw[eqE_no.2 J,eqE_no.2 λh=>J (by rw[h])]⟩) (λh=>no λe=>h (by rw[e]))
 ·exact⟨λb=>b=ac,⟨λ_=>rfl,λI=>⟨λ_=>rfl,λU=>absurd ⟨I,by omega⟩ R⟩⟩,λ_=>no λe=>R (by rw[e];simp),λh=>by simp at h⟩
theorem Yh0:SumOk E 42 Seqc:=Yg E_ok (Zc (f:=42) rfl) λx h=>Ydc x.1 x.2.1 h
def SmT1(t:Tar):Prop:=(∀c∈t.clauses,SmC c)/\t.clauses.length<1000000000
theorem Ydd(x y:Tar) (h:SmT1 x):PureC E 16 [.agg (encF ab .tariffs x),.agg (encF ab .tariffs y)] (.bool ab (eqE x y)):=by
 have hF:FnsOk E Fss:=Zm E_ok (Zb F0_ok Yh0) _ _ _;refine Za E_ok (Zd E_ok hF 400) ?_;rw[Yc8];delta qDRc qDRd qDRe qDRf qDRg;obtain⟨hz,hw⟩:=h
 simp only[Yf,Z6,Wg,Wh,Wi,beq_iff_eq,bne_iff_ne,beq_eq_false_iff_ne,bne_eq_false_iff_eq,decide_eq_true_eq,decide_eq_false_iff_not,bd,bG,bi,cd,aq,cG,cx,bm,beq_self_eq_true,Yt,Yn,ne_eq,and_true,true_and,aS,aO,false_or,or_false,true_implies,imp_self,bX,not_true_eq_false,not_false_eq_true,bJ,Ex.eta,Cls.eta,eqE_iff,eqE_no];have no:x≠y->ab=eqE x y:=λh=>(eqE_no.2 h).symm
 by_cases R:x.name=y.name/\x.for_=y.for_/\x.clauses.length=y.clauses.length
 ·obtain⟨I,J,U⟩:=R
  refine⟨λb=>b=ab,⟨λh=>absurd I h,λ_=>⟨λh=>absurd J h,λ_=>⟨λh=>absurd U (by omega),λ_=>rfl⟩⟩⟩,λh=>by simp at h,λ_=> ?_⟩;exact Zrz (B:=SmC) (by omega) (by omega) hz (λe=>(eqE_iff.2 (Yda I J e)).symm) (λh=>no λe=>h (by rw[e]))
 ·exact⟨λb=>b=ac,⟨λ_=>rfl,λI=>⟨λ_=>rfl,λJ=>⟨λ_=>rfl,λU=>absurd ⟨I,J,by omega⟩ R⟩⟩⟩,λ_=>no λe=>R (by rw[e];simp),λh=>by simp at h⟩
end
section
open Go
open Classical in
end
section
open Go
noncomputable def dLre:Dc E (List Rep):=(Ze4 (E:=E) Th.reps:Dc E (List (thy.dom Th.reps)))
noncomputable def SinF:Sum thy:=Zca E (λ_=>au) 10 dInE (λx=>x.1.length<=8) (λx=>inF x.1 x.2.1 x.2.2.1 x.2.2.2.1) λy=> .tup [tarE y.1,.int ab .i64 y.2]
theorem Zmt:SumOk E 12 SinF:=Xa E_ok (Zc (f:=12) rfl) λx h=>Z82 x.1 x.2.1 x.2.2.1 x.2.2.2.1 h
noncomputable def SchF:Sum thy:=Zca E (λ_=>au) 10 (.cons dLre (.cons dN (.cons dN .nil))) (λx=>x.1.length<=8) (λx=>chgF x.1 x.2.1 x.2.2.1) λy=> .psl Th.ints y ab
theorem Z3o:SumOk E 19 SchF:=Xa E_ok (Zc (f:=19) rfl) λx h=>Z7e x.1 x.2.1 x.2.2.1 h
noncomputable def FprE:Fns thy:=addS (addS F0 12 SinF) 25 ScpE
theorem Yew:FnsOk E FprE:=Zb (Zb F0_ok Zmt) Z25
theorem Z9c(l:List Rep) (J kd at_:Int) (c:List Ins) (e:Int):Zk E FprE (vc E FprE 400) 14 [.psl Th.reps l ab,.int ab .i64 J,.int ab .i64 kd,.int ab .i64 at_] hp0 0 (λr=>ret E (patch hp0 0 r) r.v (.tup [.psl Th.ins c ab,.int ab .i64 e]))=(
aa l<=(8:Nat)/\∀(y:Tar×Int),y=inF l J kd at_->((aE y !=(0:Int))=ac->c= []/\aE y=e/\True)/\((aE y !=(0:Int))=ab->((∀(c:Cls),c∈ar (ao y)->Ex.sz (aA c)<=(10000:Nat)/\aa (aV c)+(1:Nat)<=(1000000000:Nat))/\aa (ar (ao y))+(1:Nat)<=(1000000000:Nat))/\∀(I:List Ins×Int),I=Yc (ao y)->(ao I=c/\(ab=ac->ab=ac))/\aE I=e/\True)):=by kernel_rfl
structure FwX where
 k:Nat
 r:Nat
 n:Int
noncomputable def AfwE:Fr thy->Hp thy->Nat->Ann thy:=λT h i=>{X:=FwX,fr:=λx=> [(0,T 0),(3,.int ab .i64 x.n),(4,.int ab .i64 x.k)],bl:=λx=> [],src:=λ_=> [],md:= [],ih:=i,M:=i+40,meas:=λx=>x.r}
noncomputable def FfwE:Fns thy:=addL F0 11 5 AfwE E
theorem Yex:FnsOk E FfwE:=Zm E_ok F0_ok _ _ _
theorem Z9d(l:List Rep) (v:Bool):Zk E FfwE (vc E FfwE 400) 11 [.psl Th.reps l ab] hp0 0 (λr=>ret E (patch hp0 0 r) r.v (.bool ab v))=(
(decide ((↑(aa l):Int)>(8:Int))=ac->ab=v)/\(decide ((↑(aa l):Int)>(8:Int))=ab->∃(R:FwX->Prop),(∃(x:FwX),R x/\ac=ac/\((l=l/\(ab=ac->ab=ac))/\(0:Int)=FwX.n x/\(0:Int)=(↑(FwX.k x):Int)/\True)/\True)/\∀(x:FwX),R x->(decide ((↑(FwX.k x):Int)<(↑(aa l):Int))=ac->(0:Int)<=(↑(FwX.k x):Int)/\(↑(FwX.k x):Int)+(1:Int)<=(↑(aa l):Int)/\∀(J:Rep),l[ag (↑(FwX.k x):Int)]? =ae J->∃(I:FwX),R I/\I.2+(1:Nat)<=x.2/\ac=ac/\((l=l/\(ab=ac->ab=ac))/\wr af (FwX.n x+mm2 ab (↑(aa (ItD.text (Rep.item J))):Int) (4000:Int))=FwX.n I/\wr af ((↑(FwX.k x):Int)+(1:Int))=(↑(FwX.k I):Int)/\True)/\True)/\(decide ((↑(FwX.k x):Int)<(↑(aa l):Int))=ab->(decide (FwX.n x<=(3000:Int))=ac->ac=v)/\(decide (FwX.n x<=(3000:Int))=ab->ab=v)))):=by kernel_rfl
noncomputable def Asm7:Fr thy->Hp thy->Nat->Ann thy:=λT h i=>{X:=FwX,fr:=λx=> [(0,T 0),(1,T 1),(5,.int ab .i64 x.k)],bl:=λx=> [],src:=λ_=> [],md:= [],ih:=i,M:=i+30,meas:=λx=>x.r}
noncomputable def Fsm7:Fns thy:=addL F0 18 4 Asm7 E
theorem Yey:FnsOk E Fsm7:=Zm E_ok F0_ok _ _ _
theorem Z9e(a b:List Int) (v:Bool):Zk E Fsm7 (vc E Fsm7 400) 18 [.psl .ints a ab,.psl .ints b ab] hp0 0 (λr=>ret E (patch hp0 0 r) r.v (.bool ab v))=(
(((↑(aa a):Int) !=(↑(aa b):Int))=ac->ab=v)/\(((↑(aa a):Int) !=(↑(aa b):Int))=ab->∃(R:FwX->Prop),(∃(x:FwX),R x/\ac=ac/\((a=a/\(ab=ac->ab=ac))/\(b=b/\(ab=ac->ab=ac))/\(0:Int)=(↑(FwX.k x):Int)/\True)/\True)/\∀(x:FwX),R x->(decide ((↑(FwX.k x):Int)<(↑(aa a):Int))=ac->(0:Int)<=(↑(FwX.k x):Int)/\(↑(FwX.k x):Int)+(1:Int)<=(↑(aa a):Int)/\∀(I:Int),a[ag (↑(FwX.k x):Int)]? =ae I->(0:Int)<=(↑(FwX.k x):Int)/\(↑(FwX.k x):Int)+(1:Int)<=(↑(aa b):Int)/\∀(J:Int),b[ag (↑(FwX.k x):Int)]? =ae J->((I !=J)=ac->ab=v)/\((I !=J)=ab->∃(U:FwX),R U/\U.2+(1:Nat)<=x.2/\ac=ac/\((a=a/\(ab=ac->ab=ac))/\(b=b/\(ab=ac->ab=ac))/\wr af ((↑(FwX.k x):Int)+(1:Int))=(↑(FwX.k U):Int)/\True)/\True))/\(decide ((↑(FwX.k x):Int)<(↑(aa a):Int))=ab->ac=v))):=by kernel_rfl
noncomputable def prgF(l:List Rep) (I kd at_:Int):List Ins×Int:=if(inF l I kd at_).2≠0 then([],(inF l I kd at_).2) else Yc (inF l I kd at_).1
theorem Z9f(l:List Rep) (I kd at_:Int) (R:l.length<=8):PureC E 14 [.psl Th.reps l ab,.int ab .i64 I,.int ab .i64 kd,.int ab .i64 at_] (.tup [.psl Th.ins (prgF l I kd at_).1 ab,.int ab .i64 (prgF l I kd at_).2]):=by
 refine Za E_ok (Zd E_ok Yew 400) ?_;refine Eq.mpr (Z9c l I kd at_ (prgF l I kd at_).1 (prgF l I kd at_).2) ?_;simp only[true_and,and_true,imp_self,implies_true,bne_iff_ne,bne_eq_false_iff_eq];unfold prgF;refine⟨R,λy J=>aB (λh=> ?_) (λh=> ?_)⟩
 ·rw[<-J,if_pos h];exact⟨rfl,rfl⟩
 ·rw[<-J,if_neg (λx=>x h)]
  refine⟨?_,λz U=>by rw[U];exact⟨rfl,rfl⟩⟩;have:=(Zkw l I kd at_).1;rw[J];exact this
def txR(x:Rep):Int:=mm2 ab (x.item.text.length:Int) 4000
def fewE(l:List Rep):Bool:=decide (l.length<=8)&&decide ((l.map txR).sum<=3000)
theorem Yez(x:Rep):0<=txR x/\txR x<=4000:=by
 unfold txR mm2;simp only;split<;>omega
theorem Z9g{l:List Rep} {k:Nat} {x:Rep} (h:l[k]? =ae x):((l.take (k+1)).map txR).sum=((l.take k).map txR).sum+txR x:=by
 rw[cz,h,fJ,List.map_append,List.sum_append];simp
theorem Z3p(l:List Rep):PureC E 11 [.psl Th.reps l ab] (.bool ab (fewE l)):=by
 refine Za E_ok (Zd E_ok Yex 400) ?_;rw[Z9d];simp only[bt,decide_eq_true_eq,decide_eq_false_iff_not,true_and,and_true,imp_self,implies_true];refine aB (λh=> ?_) (λh=> ?_)
 ·unfold fewE;rw[decide_eq_false (by omega)];rfl
 ·refine⟨λx=>x.k<=l.length/\x.n=((l.take x.k).map txR).sum/\0<=x.n/\x.n<=4000*x.k/\x.r=l.length-x.k,⟨⟨0,l.length,0⟩,⟨bb _,rfl,by simp,by simp,rfl⟩,rfl,rfl⟩,?_⟩
  rintro x ⟨hk,I,R,U,hr⟩;refine aB (λg=>⟨by omega,by omega,λw J=> ?_⟩) (λg=> ?_)
  ·have ht:=Yez w
   have e:mm2 ab (w.item.text.length:Int) 4000=txR w:=rfl;rw[e];exact⟨⟨x.k+1,l.length-(x.k+1),x.n+txR w⟩,⟨by dsimp only;omega,by dsimp only;rw[Z9g J,I],by dsimp only;omega,by dsimp only;omega,rfl⟩,by dsimp only;omega,wr64 (by omega) (by omega),wr64 (by omega) (by omega)⟩
  ·rw[bg (by omega)] at I
   refine aB (λq=> ?_) (λq=> ?_)
   ·unfold fewE;rw[decide_eq_true (by omega),decide_eq_true (by omega)];rfl
   ·unfold fewE;rw[decide_eq_true (show l.length<=8 by omega),decide_eq_false (by omega)];rfl
theorem Z9h{l:List Rep} (h:fewE l=ac):l.length<=8:=by
 unfold fewE at h;rw[aq] at h;exact of_decide_eq_true h.1
open Classical in
theorem Z9i(a b:List Int) (hl:a.length<=1000000):PureC E 18 [.psl .ints a ab,.psl .ints b ab] (.bool ab (decide (a=b))):=by
 refine Za E_ok (Zd E_ok Yey 400) ?_;rw[Z9e];simp only[bt,decide_eq_true_eq,decide_eq_false_iff_not,true_and,and_true,imp_self,implies_true,bne_iff_ne,bne_eq_false_iff_eq];refine aB (λh=>(decide_eq_false λe=>h (by rw[e])).symm) (λh=> ?_);have a0:a.length=b.length:=by omega
 refine⟨λx=>x.k<=a.length/\(∀j,j<x.k->a[j]? =b[j]?)/\x.r=a.length-x.k,⟨⟨0,a.length,0⟩,⟨bb _,(λj I=>absurd I (km _)),rfl⟩,rfl⟩,?_⟩;rintro x ⟨hk,U,hr⟩;refine aB (λg=>⟨by omega,by omega,λu J=>⟨by omega,by omega,λv R=>aB (λe=> ?_) (λe=> ?_)⟩⟩) (λg=> ?_)
 ·refine(decide_eq_false λe2=> ?_).symm
  rw[e2,R] at J;cases J;exact e rfl
 ·refine⟨⟨x.k+1,a.length-(x.k+1),0⟩,⟨by dsimp only;omega,λj I=> ?_,rfl⟩,by dsimp only;omega,wr64 (by omega) (by omega)⟩
  dsimp only at I;rcases iO.1 I with I|rfl
  ·exact U j I
  ·rw[J,R,e]
 ·refine(decide_eq_true (List.ext_getElem? λj=> ?_)).symm
  by_cases I:j<x.k
  ·exact U j I
  ·rw[eg (by omega),eg (by omega)]
end
section
open Go
section
variable {α β:Type} [DecidableEq α]
def Zte:List (α×β)->α->Option β
 | [],_=>au
 |p::r,a=>if p.1=a then ae p.2 else Zte r a
def putD:List (α×β)->α->β->List (α×β)
 | [],a,v=> [(a,v)]
 |p::r,a,v=>if p.1=a then(p.1,v)::r else p::putD r a v
def delD:List (α×β)->α->List (α×β)
 | [],_=> []
 |p::r,a=>if p.1=a then r else p::delD r a
theorem Zm5:∀(l:List (α×β)) (a:α),Z4 l a=Zte l a
 | [],a=>rfl
 |p::r,a=>by
  rw[Z4,Zte,Zm5 r a]
  by_cases h:p.1=a
  ·rw[if_pos h,if_pos h]
  ·rw[if_neg h,if_neg h]
theorem Z41:∀(l:List (α×β)) (a:α) (v:β),putS l a v=putD l a v
 | [],a,v=>rfl
 |p::r,a,v=>by
  rw[putS,putD,Z41 r a v]
  by_cases h:p.1=a
  ·rw[if_pos h,if_pos h]
  ·rw[if_neg h,if_neg h]
theorem Ybs:∀(l:List (α×β)) (a:α),delS l a=delD l a
 | [],a=>rfl
 |p::r,a=>by
  rw[delS,delD,Ybs r a]
  by_cases h:p.1=a
  ·rw[if_pos h,if_pos h]
  ·rw[if_neg h,if_neg h]
end
def goD:Bool->Bool->List (List Nat×Bool)->List Cls->Int
 |a,b,_,[]=>if a=ac then 161 else if b=ac then 2 else 0
 |a,b,m,c::r=>if W5 c=ac then goD (a||resF c.name||(Zte m c.name).getD ab) (b||decide (8<c.when_.length)||decide (24<Y5 c.pay)) (putD m c.name ac) r else 1
theorem Ybt:∀(l:List Cls) (a b:Bool) (m:List (List Nat×Bool)),goC a b m l=goD a b m l
 | [],a,b,m=>rfl
 |c::r,a,b,m=>by rw[goC,goD,Zm5,Z41,Ybt r]
def Zfv(t:Tar):Int:=if Uj t.name=ac/\1<=t.for_/\t.for_<=6 then goD (resF t.name) (decide (64<t.clauses.length)) [] t.clauses else 1
theorem Zgk(t:Tar):Z9 t=Zfv t:=by unfold Z9 Zfv;rw[Ybt]
def prD(t:Tar):Int:=if Zfv t≠0 then Zfv t else if 2000<(Zb8 (Zmf t)).length then 2 else 0
def chD(t:Tar):Int:=if Zfv t=0 then(goU 0 t.clauses).2 else Zfv t
def cpD(t:Tar):Int:=if Zfv t=0 then(if 4096<(cdT t).length\/64<dCs t.clauses then 2 else 0) else Zfv t
def eckD(t:Tar):Int:=if prD t≠0 then prD t else if chD t≠0 then chD t else if chkB t≠0 then chkB t else cpD t
theorem Ylc(t:Tar):(U6 t).2=prD t:=by
 unfold U6 prD;rw[Zgk];split
 ·rfl
 ·split<;>rfl
theorem Yld(t:Tar):(chkP t).2=chD t:=by
 unfold chkP chD;rw[Zgk];split<;>rfl
theorem Yle(t:Tar):(Yc t).2=cpD t:=by
 unfold Yc cpD;rw[Zgk];split
 ·split<;>rfl
 ·rfl
theorem Zce:eckF=eckD:=by
 funext t;unfold eckF eckD;rw[Ylc,Yld,Yle]
def Yji(s:List Nat) (k:Int):Tar×Int:=
 if k<1\/6<k then(zTE,1) else
 match Wd s with
 |(t,_,e)=>if e≠0 then(zTE,e) else if t.for_≠k then(zTE,220) else match eckD t with| .ofNat 0=>(t,0)|e=>(zTE,e)
theorem Vc:Y6=Yji:=by
 funext s k;unfold Y6 Yji;rw[Zce];rcases Wd s with⟨t,p,e⟩
 dsimp only;split
 ·rfl
 ·split
  ·rfl
  ·split
   ·rfl
   ·split
    ·rename_i h
     split
     ·rename_i I;rw[I] at h;exact absurd rfl h
     ·rfl
    ·rename_i h
     have h:=bJ.1 h;rw[h];rfl
def Zv4(m:List (List Nat×Cls)) (l:List Cls):List (List Nat×Cls):=l.foldl (λm c=>putD m c.name c) m
def Zfw:List (List Nat×Cls)->List Cls->List Cls×List (List Nat×Cls)
 |m,[]=>([],m)
 |m,c::r=>match Zte m c.name with
  |some d=>(d::(Zfw (delD m c.name) r).1,(Zfw (delD m c.name) r).2)
  |none=>(c::(Zfw m r).1,(Zfw m r).2)
def Ybu(m:List (List Nat×Cls)) (l:List Cls):List Cls:=l.filter λc=>(Zte m c.name).isSome
def amD(t a:Tar):Tar:=⟨t.name,t.for_,(Zfw (Zv4 [] a.clauses) t.clauses).1++Ybu (Zfw (Zv4 [] a.clauses) t.clauses).2 a.clauses⟩
theorem Yac(m:List (List Nat×Cls)) (l:List Cls):Zax m l=Zv4 m l:=by
 unfold Zax Zv4
 congr 1
 funext m c;exact Z41 _ _ _
theorem Zm6:∀(l:List Cls) (m:List (List Nat×Cls)),Wz m l=Zfw m l
 | [],m=>rfl
 |c::r,m=>by
  rw[Wz,Zfw,Zm5]
  cases Zte m c.name with
  |none=>dsimp only;rw[Zm6 r]
  |some d=>dsimp only;rw[Ybs,Zm6 r]
theorem Zm7:amF=amD:=by
 funext t a;unfold amF amD Zb9 Ybu;rw[Yac,Zm6]
 congr 2
 congr 1
 funext c;rw[Zm5]
def txtA:List Nat:= [116,97,114,105,102,102,32,116,32,102,111,114,32,104,105,114,101,32,123,32,99,108,97,117,115,101,32,97,32,119,104,101,110,32,116,121,112,101,32,105,115,32,48,32,112,97,121,32,50,32,109,111,110,101,121,59,32,125]
def txtB:List Nat:= [116,97,114,105,102,102,32,117,32,102,111,114,32,104,105,114,101,32,123,32,99,108,97,117,115,101,32,98,32,119,104,101,110,32,116,121,112,101,32,105,115,32,49,32,112,97,121,32,51,32,109,111,110,101,121,59,32,125]
def txtC:List Nat:= [116,97,114,105,102,102,32,118,32,102,111,114,32,104,105,114,101,32,123,32,99,108,97,117,115,101,32,99,32,119,104,101,110,32,116,121,112,101,32,105,110,32,48,46,46,49,32,112,97,121,32,52,32,109,111,110,101,121,59,32,125]
def repE(no kd I:Int) (s:List Nat):Rep:=⟨⟨0,no⟩,⟨0,no⟩,0,⟨kd,⟨0,0⟩,0,0,0,1,I,0,0,0,0,0,0,s,[]⟩⟩
def W3:List Rep:= [repE 1 11 10 txtA,repE 2 12 20 txtB,repE 3 12 25 txtC,repE 4 13 30 []]
theorem in9:inF W3 0 1 9=(zTE,220):=by unfold inF;rw[Vc,Zce,Zm7];kernel_rfl
theorem in30:inF W3 0 1 30=(zTE,220):=by unfold inF;rw[Vc,Zce,Zm7];kernel_rfl
def Zy2(y:Tar×Int) (w:List Nat):Bool:=decide (y.2=0)&&decide (y.1.name= [116])&&decide (y.1.for_=1)&&decide ((y.1.clauses.flatMap λc=>c.name)=w)
theorem in10:Zy2 (inF W3 0 1 10) [97]=true:=by unfold inF;rw[Vc,Zce,Zm7];kernel_rfl
theorem in20:Zy2 (inF W3 0 1 20) [97,98]=true:=by unfold inF;rw[Vc,Zce,Zm7];kernel_rfl
theorem in25:Zy2 (inF W3 0 1 25) [97,98]=true:=by unfold inF;rw[Vc,Zce,Zm7];kernel_rfl
theorem inD2:(inF W3 0 2 20).2=220:=by unfold inF;rw[Vc,Zce,Zm7];kernel_rfl
theorem inR1:(inF W3 1 1 20).2=220:=by unfold inF;rw[Vc,Zce,Zm7];kernel_rfl
theorem Ylf:(inF W3 16 1 20).2=1:=by unfold inF;rw[Vc,Zce,Zm7];kernel_rfl
def txtP:List Nat:= [116,97,114,105,102,102,32,116,32,102,111,114,32,104,105,114,101,32,123,32,99,108,97,117,115,101,32,97,32,112,97,121,32,50,59,32,125]
theorem gd0:(Y6 [] 0).2=1:=by rw[Vc];kernel_rfl
theorem gdA:(Y6 txtA 2).2=220:=by rw[Vc];kernel_rfl
theorem gdP:(Y6 txtP 1).2=170:=by rw[Vc];kernel_rfl
theorem chE:chgF W3 0 1= [10,20,25,30]:=by unfold chgF;kernel_rfl
theorem cpE:(Yc (inF W3 0 1 10).1).2=0/\(Yc (inF W3 0 1 10).1).1≠ []:=by
 unfold Yc;rw[Zgk];unfold inF;rw[Vc,Zce,Zm7];refine⟨by kernel_rfl,?_⟩;have:∀l:List Ins,l.isEmpty=ab->l≠ []:=λl h e=>by rw[e] at h;cases h
 exact this _ (by kernel_rfl)
end
section
open Go
noncomputable def SssE:Sum thy:=Zca E (λ_=>au) 10 (.cons (dR .tariffs) (.cons (dR .tariffs) .nil)) (λx=>SmT1 x.1) (λx=>eqE x.1 x.2.1) λy=> .bool ab y
theorem Z39:SumOk E 16 SssE:=Xa E_ok (Zc (f:=16) rfl) λx h=>Ydd x.1 x.2.1 h
structure NmX where
 k:Nat
 r:Nat
 s:List Nat
noncomputable def AnmE:Fr thy->Hp thy->Nat->Ann thy:=λT h i=>{X:=NmX,fr:=λx=> [(1,T 1),(5,T 5),(6,T 6),(7,.str ab x.s),(8,.int ab .i64 x.k)],bl:=λx=>blkP h (T 5),src:=λ_=> [],md:= [],ih:=i,M:=i+40,meas:=λx=>x.r}
noncomputable def FnmE:Fns thy:=addL (addS (addS F0 12 SinF) 16 SssE) 31 6 AnmE E
theorem Ye7:FnsOk E FnmE:=Zm E_ok (Zb (Zb F0_ok Zmt) Z39) _ _ _
abbrev qDV1(I:Tar×Int):=(bN (ao I)=bN (ao I)/\bI (ao I)=bI (ao I)/\(ar (ao I)=ar (ao I)/\(ab=ac->ab=ac))/\True)
abbrev qDV2(I:Tar×Int):=(↑(aa (ar (ao I))):Int)
abbrev qDV3(I:NmX):=(↑(NmX.k I):Int)
theorem Z90(at_:Int) (w:List Nat) (v:Bool):Zk E FnmE (vc E FnmE 400) 31 [.int ab .i64 at_,.str ab w] hp0 0 (λr=>ret E (patch hp0 0 r) r.v (.bool ab v))=(
 (4:Nat)<=(8:Nat)/\∀(y:Tar×Int),y=inF W3 (0:Int) (1:Int) at_->((w==toL (dU #[]))=ac->((aE y==(220:Int))=ac->((∀(c:Cls),c∈ar (ao y)->Ex.sz (aA c)+(1:Nat)<=(1000000000:Nat)/\aa (aV c)+(1:Nat)<=(1000000000:Nat))/\aa (ar (ao y))+(1:Nat)<=(1000000000:Nat))/\∀(U:Bool),U=eqE (ao y) (Tar.mk [] (0:Int) [])->U=v)/\((aE y==(220:Int))=ab->ab=v))/\((w==toL (dU #[]))=ab->∃(R:NmX->Prop),(∃(x:NmX),R x/\ac=ac/\(w=w/\(0:Nat)=(0:Nat)/\aE y=aE y/\ []=NmX.s x/\(0:Int)=(qDV3 x)/\True)/\(qDV1 y)/\True)/\∀(x:NmX),R x->(decide ((qDV3 x)<(qDV2 y))=ac->(0:Int)<=(qDV3 x)/\(qDV3 x)+(1:Int)<=(qDV2 y)/\∀(J:Cls),(ar (ao y))[ag (qDV3 x)]? =ae J->aa (NmX.s x)+aa (aP J)<=(9223372036854775807:Nat)/\∃(I:NmX),R I/\I.2+(1:Nat)<=x.2/\ac=ac/\(w=w/\(0:Nat)=(0:Nat)/\aE y=aE y/\NmX.s x++aP J=NmX.s I/\wr af ((qDV3 x)+(1:Int))=(qDV3 I)/\True)/\(qDV1 y)/\True)/\(decide ((qDV3 x)<(qDV2 y))=ab->((aE y==(0:Int))=ac->((bN (ao y)==toL (dU #[(116:UInt8)]))=ac->((bI (ao y)==(1:Int))=ac->((NmX.s x==w)=ac->ac=v)/\((NmX.s x==w)=ab->ab=v))/\((bI (ao y)==(1:Int))=ab->ab=v))/\((bN (ao y)==toL (dU #[(116:UInt8)]))=ab->ab=v))/\((aE y==(0:Int))=ab->ab=v)))):=by kernel_rfl
noncomputable def nmE(at_:Int) (w:List Nat):Bool:=if w= [] then decide ((inF W3 0 1 at_).2=220)&&eqE (inF W3 0 1 at_).1 zTE else Zy2 (inF W3 0 1 at_) w
theorem Yja(l:List Rep) (R kd at_:Int):∀c∈(inF l R kd at_).1.clauses,c.name.length<=32:=by
 intro c J;obtain⟨_,_,U,h2⟩:=Zkw l R kd at_;by_cases h:(inF l R kd at_).2=0
 ·have I:=Vq (U h).1
  unfold Z9 at I;split at I
  ·have:=Z5h _ _ _ _ I c J
   unfold W5 Uj at this;simp only[aq,decide_eq_true_eq] at this;exact this.1.1.1.1
  ·cases I
 ·rw[h2 h] at J;cases J
theorem Z4a{t:Tar} (h:SmE t):SmT1 t:=⟨λc I=>⟨Nat.lt_of_le_of_lt (h.1 c I).1 (by decide),(h.1 c I).2⟩,h.2⟩
theorem Ye8(at_:Int) (w:List Nat):PureC E 31 [.int ab .i64 at_,.str ab w] (.bool ab (nmE at_ w)):=by
 refine Za E_ok (Zd E_ok Ye7 400) ?_;rw[Z90];delta qDV1 qDV2 qDV3;simp only[bt,decide_eq_true_eq,decide_eq_false_iff_not,true_and,and_true,imp_self,implies_true,beq_iff_eq,beq_eq_false_iff_ne];refine⟨by decide,λy hy=> ?_⟩;have hs:=(Zkw W3 0 1 at_).1;have hl:=(Zkw W3 0 1 at_).2.1;have hn:=Yja W3 0 1 at_;unfold nmE;rw[<-hy] at hs hl hn⊢;refine aB (λh=> ?_) (λh=> ?_)
 ·have h:w= []:=h
  rw[if_pos h];refine aB (λI=> ?_) (λI=> ?_)
  ·have:=Z4a hs
   refine⟨this,λz hz=> ?_⟩;rw[hz,decide_eq_true I];rfl
  ·rw[decide_eq_false I];rfl
 ·have h:¬w= []:=h
  rw[if_neg h];refine⟨λx=>x.k<=y.1.clauses.length/\x.s=(y.1.clauses.take x.k).flatMap (λc=>c.name)/\x.s.length<=32*x.k/\x.r=y.1.clauses.length-x.k,⟨⟨0,y.1.clauses.length,[]⟩,⟨bb _,rfl,by simp,rfl⟩,rfl,rfl⟩,?_⟩;rintro x ⟨hk,J,a1,hr⟩;refine aB (λg=>⟨by omega,by omega,λc hc=> ?_⟩) (λg=> ?_)
  ·have a0:=hn c (aI hc)
   refine⟨by omega,⟨x.k+1,y.1.clauses.length-(x.k+1),x.s++c.name⟩,⟨by dsimp only;omega,?_,by dsimp only;rw[aC];omega,rfl⟩,by dsimp only;omega,rfl,wr64 (by omega) (by omega)⟩;dsimp only;rw[cz,hc,fJ,List.flatMap_append,J];simp
  ·rw[bg (by omega)] at J
   unfold Zy2;rw[<-J];refine aB (λR=>aB (λq2=>aB (λq3=>aB (λU=> ?_) (λU=> ?_)) (λq3=> ?_)) (λq2=> ?_)) (λR=> ?_)
   ·have q2:y.1.name= [116]:=q2
    rw[decide_eq_true R,decide_eq_true q2,decide_eq_true q3,decide_eq_true U];rfl
   ·rw[decide_eq_false U,iE]
   ·rw[decide_eq_false q3,iE,eo]
   ·have q2:¬y.1.name= [116]:=q2
    rw[decide_eq_false q2,iE,eo,eo]
   ·rw[decide_eq_false R,eo,eo,eo]
noncomputable def SnmE:Sum thy:=Wf (.cons dN (.cons dS .nil)) (λ_=>True) (λx=>nmE x.1 x.2.1) λy=> .bool ab y
theorem Ye9:SumOk E 31 SnmE:=Zy E_ok (Zc (f:=31) rfl) λx _=>Ye8 x.1 x.2.1
noncomputable def SprF:Sum thy:=Zca E (λ_=>au) 10 dInE (λx=>x.1.length<=8) (λx=>prgF x.1 x.2.1 x.2.2.1 x.2.2.2.1) λy=> .tup [.psl Th.ins y.1 ab,.int ab .i64 y.2]
theorem Yfa:SumOk E 14 SprF:=Xa E_ok (Zc (f:=14) rfl) λx h=>Z9f x.1 x.2.1 x.2.2.1 x.2.2.2.1 h
noncomputable def dIts:Dc E (List Int):=(Ze4 (E:=E) Th.ints:Dc E (List (thy.dom Th.ints)))
noncomputable def Yjb:Sum thy:=Zca E (λ_=>au) 10 (.cons dIts (.cons dIts .nil)) (λx=>x.1.length<=1000000) (λx=>(decide (x.1=x.2.1):Bool)) λy=> .bool ab y
theorem Z91:SumOk E 18 Yjb:=Xa E_ok (Zc (f:=18) rfl) λx h=>Z9i x.1 x.2.1 h
noncomputable def FsnE:Fns thy:=addS (addS (addS (addS (addS (addS F0 31 SnmE) 12 SinF) 21 SgoE) 14 SprF) 18 Yjb) 19 SchF
theorem Yfb:FnsOk E FsnE:=Zb (Zb (Zb (Zb (Zb (Zb F0_ok Ye9) Zmt) Zso) Yfa) Z91) Z3o
abbrev qDV4(I:Tar×Int):=(aE I==(220:Int))
abbrev qDV5:=(1:Int)
theorem Z4b(u:Nat) (v:Bool):Zk E FsnE (vc E FsnE 400) 10 [] hp0 0 (λr=>ret E (patch hp0 0 r) r.v (.bool ab v))=(
 True/\∀(y:Bool),y=nmE (9:Int) []->((!y)=ac->ab=v)/\((!y)=ab->True/\∀(y:Bool),y=nmE (10:Int) [(97:Nat)]->((!y)=ac->ab=v)/\((!y)=ab->True/\∀(y:Bool),y=nmE (20:Int) [(97:Nat),(98:Nat)]->((!y)=ac->ab=v)/\((!y)=ab->True/\∀(y:Bool),y=nmE (25:Int) [(97:Nat),(98:Nat)]->((!y)=ac->ab=v)/\((!y)=ab->True/\∀(y:Bool),y=nmE (30:Int) []->((!y)=ac->ab=v)/\((!y)=ab->(4:Nat)<=(8:Nat)/\∀(y:Tar×Int),y=inF W3 (0:Int) (2:Int) (20:Int)->(4:Nat)<=(8:Nat)/\∀(J:Tar×Int),J=inF W3 qDV5 qDV5 (20:Int)->(4:Nat)<=(8:Nat)/\∀(R:Tar×Int),R=inF W3 (16:Int) qDV5 (20:Int)->True/\∀(U:Tar×Int),U=Y6 [] (0:Int)->True/\∀(a0:Tar×Int),a0=Y6 txtA (2:Int)->True/\∀(a1:Tar×Int),a1=Y6 txtP qDV5->(4:Nat)<=(8:Nat)/\∀(I:List Ins×Int),I=prgF W3 (0:Int) qDV5 (10:Int)->((qDV4 y)=ac->((qDV4 J)=ac->((aE R==qDV5)=ac->((aE U==qDV5)=ac->((qDV4 a0)=ac->((aE a1==(170:Int))=ac->((aE I==(0:Int))=ac->(decide ((↑(aa (ao I)):Int)>(0:Int))=ac->(4:Nat)<=(8:Nat)/\∀(y:List Int),y=chgF W3 (0:Int) qDV5->aa y<=(1000000:Nat)/\∀(a2:Bool),a2=decide (y= [(10:Int),(20:Int),(25:Int),(30:Int)])->a2=v)/\(decide ((↑(aa (ao I)):Int)>(0:Int))=ab->ab=v))/\((aE I==(0:Int))=ab->ab=v))/\((aE a1==(170:Int))=ab->ab=v))/\((qDV4 a0)=ab->ab=v))/\((aE U==qDV5)=ab->ab=v))/\((aE R==qDV5)=ab->ab=v))/\((qDV4 J)=ab->ab=v))/\((qDV4 y)=ab->ab=v))))))):=by kernel_rfl
theorem nm9:nmE 9 []=true:=by unfold nmE;rw[if_pos rfl,in9,Zdl];rfl
theorem nm30:nmE 30 []=true:=by unfold nmE;rw[if_pos rfl,in30,Zdl];rfl
theorem nm10:nmE 10 [97]=true:=by unfold nmE;rw[if_neg (by decide),in10]
theorem nm20:nmE 20 [97,98]=true:=by unfold nmE;rw[if_neg (by decide),in20]
theorem nm25:nmE 25 [97,98]=true:=by unfold nmE;rw[if_neg (by decide),in25]
theorem ifT{y:Bool} {A B:Prop} (h:y=ac) (k:B):((!y)=ac->A)/\((!y)=ab->B):=aB (λe=>by rw[h] at e;cases e) (λ_=>k)
theorem ifE{a b:Int} {A B:Prop} (h:a=b) (k:A):((a==b)=ac->A)/\((a==b)=ab->B):=⟨λ_=>k,λe=>by rw[h,beq_self_eq_true] at e;cases e⟩
theorem prg10:(prgF W3 0 1 10).2=0/\(prgF W3 0 1 10).1≠ []:=by
 have I:(inF W3 0 1 10).2=0:=by
  have:=in10;unfold Zy2 at this;simp only[aq,decide_eq_true_eq] at this;exact this.1.1.1
 unfold prgF;rw[if_neg (λh=>h I)];exact cpE
theorem Zyn:PureC E 10 [] (.bool ab ac):=by
 refine Za E_ok (Zd E_ok Yfb 400) ?_;rw[Z4b 0];refine⟨trivial,λy h=>ifT (h.trans nm9) ⟨trivial,λy h=>ifT (h.trans nm10) ⟨trivial,λy h=>ifT (h.trans nm20) ⟨trivial,λy h=>ifT (h.trans nm25) ⟨trivial,λy h=>ifT (h.trans nm30) ⟨by decide,λa R=>⟨by decide,λb U=>⟨by decide,λc hc=>⟨trivial,λd hd=>⟨trivial,λe he=>⟨trivial,λf hf=>⟨by decide,λg I=> ?_⟩⟩⟩⟩⟩⟩⟩⟩⟩⟩⟩⟩
 refine ifE (by rw[R];exact inD2) (ifE (by rw[U];exact inR1) (ifE (by rw[hc];exact Ylf) (ifE (by rw[hd];exact gd0) (ifE (by rw[he];exact gdA) (ifE (by rw[hf];exact gdP) (ifE (by rw[I];exact prg10.1) ?_))))));have hp:g.1.length>0:=gW.2 (by rw[I];exact prg10.2);refine⟨λ_=>⟨by decide,λq J=>⟨?_,λr hr=> ?_⟩⟩,λh=>by have:=of_decide_eq_false h;omega⟩
 ·rw[J,chE];decide
 ·rw[hr,J,chE];rfl
noncomputable def SsnE:Sum thy:=Wf (.nil:DcL E Unit) (λ_=>True) (λ_=>ac) λy=> .bool ab y
theorem Yfc:SumOk E 10 SsnE:=Zy E_ok (Zc (f:=10) rfl) λx _=>Zyn
end
section
open Go
noncomputable def SfwE:Sum thy:=Zca E (λ_=>au) 10 (.cons dLre .nil) (λ_=>True) (λx=>fewE x.1) λy=> .bool ab y
theorem Yfx:SumOk E 11 SfwE:=Xa E_ok (Zc (f:=11) rfl) λx _=>Z3p x.1
noncomputable def FlwE:Fns thy:=addS (addS (addS (addS (addS F0 10 SsnE) 11 SfwE) 12 SinF) 19 SchF) 16 SssE
theorem Yfy:FnsOk E FlwE:=Zb (Zb (Zb (Zb (Zb F0_ok Yfc) Yfx) Zmt) Z3o) Z39
structure LwX where
 k:Nat
 r:Nat
 b:Bool
end
section
open Go
noncomputable def AlaE:Fr thy->Hp thy->Nat->Ann thy:=λT h i=>{X:=LwX,fr:=λx=> [(0,T 0),(1,T 1),(2,T 2),(3,T 3),(4,T 4),(12,T 12),(13,.int ab .i64 x.k)],bl:=λx=>blkS h (T 12),src:=λ_=> [],md:= [],ih:=i,M:=i+40,meas:=λx=>x.r}
noncomputable def FlaL:Fns thy:=addL (addS FlwE 21 SgoE) 7 8 AlaE E
theorem Ycj:FnsOk E FlaL:=Zm E_ok (Zb Yfy Zso) _ _ _
def repL(I kd:Int) (J:List Nat):Rep:=⟨⟨3,1⟩,⟨0,0⟩,0,⟨I,⟨0,0⟩,0,0,0,kd,1000,0,0,0,0,0,0,J,[]⟩⟩
def lasT(l:List Rep) (kd J:Int) (a0:List Nat) (at_:Int) (v:Bool) (L:List Rep) (c:Nat):Prop:=
 (0:Nat)+c<=aa L/\True/\∀(y:Bool),y=fewE (av c (cj (0:Nat) L))->((!y)=ac->ac=v)/\((!y)=ab->∃(R:LwX->Prop),(∃(x:LwX),
 R x/\ac=ac/\((l=l/\(ab=ac->ab=ac))/\kd=kd/\J=J/\a0=a0/\at_=at_/\((0:Nat)=(0:Nat)/\c=c/\True)/\(0:Int)=(↑(LwX.k x):Int)/\
 True)/\(L=L/\mx2 (0:Nat) (aa L)=mx2 (0:Nat) (aa L))/\True)/\∀(x:LwX),R x->(decide ((↑(LwX.k x):Int)<(↑(aa l):Int))=ac->(0:
 Int)<=(↑(LwX.k x):Int)/\(↑(LwX.k x):Int)+(1:Int)<=(↑(aa l):Int)/\∀(a1:Rep),l[ag (↑(LwX.k x):Int)]? =ae a1->(decide (ItD.from_ (Rep.item
 a1)>=(1000:Int))=ac->ac=v)/\(decide (ItD.from_ (Rep.item a1)>=(1000:Int))=ab->∃(a2:LwX),R a2/\a2.2+(1:Nat)<=x.2/\ac=ac/\((l=l/\
 (ab=ac->ab=ac))/\kd=kd/\J=J/\a0=a0/\at_=at_/\((0:Nat)=(0:Nat)/\c=c/\True)/\wr af ((↑(LwX.k x):Int)+(1:Int))=(↑(LwX.k
 a2):Int)/\True)/\(L=L/\mx2 (0:Nat) (aa L)=mx2 (0:Nat) (aa L))/\True))/\(decide ((↑(LwX.k x):Int)<(↑(aa l):Int))=ab->
 aa l<=(8:Nat)/\∀(y:Tar×Int),y=inF l (3:Int) kd at_->(0:Nat)+c<=aa L/\aa (av c (cj (0:Nat) L))<=(8:Nat)/\∀(I
 :Tar×Int),I=inF (av c (cj (0:Nat) L)) (3:Int) kd at_->∃(Q:Bool->Prop),((decide (at_<(1000:Int))=ac->Q ac)/\(decide (at_<(1000:
 Int))=ab->((aE y==(1:Int))=ac->Q ac)/\((aE y==(1:Int))=ab->((J !=(11:Int))=ac->((J !=(13:Int))=ac->Q ac)/\((J !=(13
 :Int))=ab->Q ab))/\((J !=(11:Int))=ab->Q ab))))/\(Q ac->(decide (at_>=(1000:Int))=ac->((J==(12:Int))=ac->ac=v)/\((J==(12:
 Int))=ab->((aE y==aE I)=ac->((∀(c:Cls),c∈ar (ao y)->Ex.sz (aA c)+(1:Nat)<=(1000000000:Nat)/\aa (aV
 c)+(1:Nat)<=(1000000000:Nat))/\aa (ar (ao y))+(1:Nat)<=(1000000000:Nat))/\∀(U:Bool),U=eqE (ao y) (ao I)->U=v)
 /\((aE y==aE I)=ab->ab=v)))/\(decide (at_>=(1000:Int))=ab->((aE y==aE I)=ac->((∀(c:Cls),c∈ar (ao y)
 ->Ex.sz (aA c)+(1:Nat)<=(1000000000:Nat)/\aa (aV c)+(1:Nat)<=(1000000000:Nat))/\aa (ar (ao y))+(1:Nat)<=
 (1000000000:Nat))/\∀(U:Bool),U=eqE (ao y) (ao I)->U=v)/\((aE y==aE I)=ab->ab=v)))/\(Q ab->((J==(13:Int))=
 ac->((aE I==(220:Int))=ac->((∀(c:Cls),c∈ar (ao I)->Ex.sz (aA c)+(1:Nat)<=(1000000000:Nat)/\aa (aV c)+(1
 :Nat)<=(1000000000:Nat))/\aa (ar (ao I))+(1:Nat)<=(1000000000:Nat))/\∀(y:Bool),y=eqE (ao I) (Tar.mk [] (0:Int) [])->y=v)
 /\((aE I==(220:Int))=ab->ab=v))/\((J==(13:Int))=ab->True/\∀(U:Tar×Int),U=Y6 a0 kd->((aE U !=(0:Int))=ac->
 ((aE y==aE I)=ac->((∀(c:Cls),c∈ar (ao y)->Ex.sz (aA c)+(1:Nat)<=(1000000000:Nat)/\aa (aV c)+(1:Nat)<=
 (1000000000:Nat))/\aa (ar (ao y))+(1:Nat)<=(1000000000:Nat))/\∀(a3:Bool),a3=eqE (ao y) (ao I)->a3=v)/\((aE y
 ==aE I)=ab->ab=v))/\((aE U !=(0:Int))=ab->((aE I==(0:Int))=ac->((∀(c:Cls),c∈ar (ao I)->Ex.sz
 (aA c)+(1:Nat)<=(1000000000:Nat)/\aa (aV c)+(1:Nat)<=(1000000000:Nat))/\aa (ar (ao I))+(1:Nat)<=(1000000000:
 Nat))/\∀(y:Bool),y=eqE (ao I) (ao U)->y=v)/\((aE I==(0:Int))=ab->ab=v))))))
theorem Z6w(l:List Rep) (kd I:Int) (J:List Nat) (at_:Int) (v:Bool):Zk E FlaL (vc E FlaL 400) 7 [.psl Th.reps l ab,.int ab .i64 kd,.int ab .i64 I,.str ab J,.int ab .i64 at_] hp0 0 (λr=>ret E (patch hp0 0 r) r.v (.bool ab v))=(
True/\∀(y:Bool),y=ac->((!y)=ac->ab=v)/\((!y)=ab->(l= []->((0:Nat)<=(0:Nat)/\(0:Nat)<=(0:Nat)/\((0:Nat)+(1:Nat))*(192:Nat)<=(140737488355328:Nat))/\lasT l kd I J at_ v (av (0:Nat) []++ [repL I kd J]) ((0:Nat)+(1:Nat)))/\(l≠ []->((0:Nat)<=(0:Nat)/\(0:Nat)<=(0:Nat)/\((0:Nat)+aa l)*(192:Nat)<=(140737488355328:Nat))/\((0:Nat)+aa l<=aa (av (0:Nat) []++l)/\(0:Nat)<=(0:Nat)+aa l/\((0:Nat)+aa l+(1:Nat))*(192:Nat)<=(140737488355328:Nat))/\lasT l kd I J at_ v (av ((0:Nat)+aa l) (av (0:Nat) []++l)++ [repL I kd J]) ((0:Nat)+aa l+(1:Nat))))):=by kernel_rfl
theorem Z0n{l:List Rep} {x:Rep} (h:∀r∈l,¬ltE x r):srtE (l++ [x])=srtE l++ [x]:=by
 have e:srtR (l++ [x])=x::srtR l:=by
  unfold srtR;rw[jH];show insR x (srtR l)=x::srtR l;have I:∀r∈srtR l,¬ltE x r:=λr J=>h r ((Zbd l).mem_iff.1 (List.mem_reverse.2 J));generalize srtR l=q at I;cases q with
  |nil=>rfl
  |cons y q=>exact if_neg (I y (List.mem_cons_self ..))
 unfold srtE;rw[e,List.reverse_cons]
theorem Z6x{l:List Rep} {I kd:Int} {R:List Nat} (h:∀r∈l,r.item.from_<1000):edsF (l++ [repL I kd R]) 3 kd=if I=11\/I=12\/I=13 then edsF l 3 kd++ [repL I kd R] else edsF l 3 kd:=by
 unfold edsF;rw[fS];by_cases J:I=11\/I=12\/I=13
 ·have e:edO 3 kd (repL I kd R)=true:=edO_t.2 ⟨⟨rfl,rfl⟩,J⟩
  rw[if_pos J,ey,if_pos e,List.filter_nil];refine Z0n λr hr U=> ?_;have:=h r (List.mem_filter.1 hr).1;unfold ltE repL at U;dsimp only at U;omega
 ·have e:edO 3 kd (repL I kd R)=false:=Z37 λq=>J q.2
  rw[if_neg J,ey,e];simp
def oTE(s:Tar×Bool):Tar×Int:=if s.2=ac then(s.1,0) else(zTE,220)
noncomputable def rnTE(l:List Rep) (kd at_:Int):Tar×Bool:=rnE Y6 eckF amF kd at_ (edsF l 3 kd) (zTE,ab)
theorem Zln(l:List Rep) (kd at_:Int):inF l 3 kd at_=if(1<=kd/\kd<=6)/\0<=at_/\at_<=1073741824 then oTE (rnTE l kd at_) else(zTE,1):=by
 unfold inF;by_cases h:(1<=kd/\kd<=6)/\0<=at_/\at_<=1073741824
 ·rw[if_pos h,if_pos ⟨⟨by decide,by decide,h.1⟩,h.2⟩];rfl
 ·rw[if_neg h,if_neg λq=>h ⟨q.1.2.2,q.2⟩]
theorem Zt5{l:List Rep} {I kd at_:Int} {J:List Nat} (h:∀r∈l,r.item.from_<1000):rnTE (l++ [repL I kd J]) kd at_=if 1000<=at_/\(I=11\/I=12\/I=13) then stE Y6 eckF amF kd (rnTE l kd at_) (repL I kd J) else rnTE l kd at_:=by
 unfold rnTE;rw[Zne,Zne,Zc9 at_ (show AscE (edsF (l++ [repL I kd J]) 3 kd) from Zwh _),Zc9 at_ (show AscE (edsF l 3 kd) from Zwh _),Z6x h];by_cases U:I=11\/I=12\/I=13
 ·rw[if_pos U,fS,jH]
  by_cases R:1000<=at_
  ·rw[if_pos ⟨R,U⟩,ey,if_pos (show decide ((repL I kd J).item.from_<=at_)=ac from decide_eq_true R)];rfl
  ·rw[if_neg λq=>R q.1,ey,show decide ((repL I kd J).item.from_<=at_)=ab from decide_eq_false R];rfl
 ·rw[if_neg U,if_neg λq=>U q.2]
theorem Z6y{l:List Rep} {R kd at_:Int} {tx:List Nat} (h:∀r∈l,r.item.from_<1000) (I:at_<1000\/(inF l 3 kd at_).2=1\/¬(R=11\/R=12\/R=13)):inF (l++ [repL R kd tx]) 3 kd at_=inF l 3 kd at_:=by
 rw[Zln] at I⊢;rw[Zln l];by_cases J:(1<=kd/\kd<=6)/\0<=at_/\at_<=1073741824
 ·rw[if_pos J] at I⊢
  rw[if_pos J,Zt5 h,if_neg];rintro⟨h1,U⟩;rcases I with I|I|I
  ·omega
  ·unfold oTE at I
   split at I<;>cases I
  ·exact I U
 ·rw[if_neg J,if_neg J]
theorem Yck{l:List Rep} {I kd at_:Int} {U:List Nat} (h:∀r∈l,r.item.from_<1000) (h1:1000<=at_) (J:(inF l 3 kd at_).2≠1) (hl:I=11\/I=12\/I=13):inF (l++ [repL I kd U]) 3 kd at_=oTE (stE Y6 eckF amF kd (rnTE l kd at_) (repL I kd U))/\inF l 3 kd at_=oTE (rnTE l kd at_):=by
 rw[Zln] at J⊢;rw[Zln l];by_cases R:(1<=kd/\kd<=6)/\0<=at_/\at_<=1073741824
 ·rw[if_pos R,if_pos R,Zt5 h,if_pos ⟨h1,hl⟩];exact⟨rfl,rfl⟩
 ·rw[if_neg R] at J;exact absurd rfl J
theorem Z0o(l:List Rep) (kd I:Int) (R:List Nat) (at_:Int) (L:List Rep) (c:Nat) (hc:0+c<=L.length) (hL:av c (cj 0 L)=l++ [repL I kd R]):lasT l kd I R at_ ac L c:=by
 unfold lasT;simp only[hL];simp only[bt,decide_eq_true_eq,decide_eq_false_iff_not,true_and,and_true,imp_self,implies_true,bi,cd,beq_iff_eq,beq_eq_false_iff_ne,bne_iff_ne,bne_eq_false_iff_eq];refine⟨hc,λf hf a8=> ?_⟩;have h8:(l++ [repL I kd R]).length<=8:=Z9h (by rw[<-hf];exact a8);have a9:l.length<=8:=by rw[aC] at h8;omega
 refine⟨λx=>x.k<=l.length/\(∀(j:Nat) (r:Rep),j<x.k->l[j]? =ae r->r.item.from_<1000)/\x.r=l.length-x.k,⟨⟨0,l.length,ac⟩,⟨bb _,(λj r U=>absurd U (km _)),rfl⟩,rfl⟩,?_⟩;rintro x ⟨hk,hx,hr⟩;refine aB (λg=>⟨by omega,by omega,λw hw b3=> ?_⟩) (λg=> ?_)
 ·refine⟨⟨x.k+1,l.length-(x.k+1),ac⟩,⟨by dsimp only;omega,λj r U a2=> ?_,rfl⟩,by dsimp only;omega,wr64 (by omega) (by omega)⟩
  dsimp only at U;rcases iO.1 U with U|rfl
  ·exact hx j r U a2
  ·rw[hw] at a2;cases a2;omega
 have a3:∀r∈l,r.item.from_<1000:=λr b0=>by
  obtain⟨j,U,e⟩:=List.getElem_of_mem b0;exact hx j r (by omega) (by rw[<-e];exact List.getElem?_eq_getElem U)
 refine⟨a9,λy hy=>⟨hc,h8,λz hz=> ?_⟩⟩;have sy:=Z4a (Zkw l 3 kd at_).1;have sz:=Z4a (Zkw (l++ [repL I kd R]) 3 kd at_).1;have a5:(at_<1000\/y.2=1\/¬(I=11\/I=12\/I=13))->z=y:=λq=>by
  rw[hz,hy];refine Z6y a3 ?_;rw[hy] at q;exact q
 have a4:1000<=at_->y.2≠1->(I=11\/I=12\/I=13)->z=oTE (stE Y6 eckF amF kd (rnTE l kd at_) (repL I kd R))/\y=oTE (rnTE l kd at_):=λq1 q2 q3=>by
  rw[hz,hy];refine Yck a3 q1 ?_ q3;rw[hy] at q2;exact q2
 rw[<-hy] at sy;rw[<-hz] at sz;have a0:z=y->(y.2=z.2->(SmT1 y.1/\∀(a6:Bool),a6=eqE y.1 z.1->a6=ac))/\(y.2≠z.2->ab=ac):=λe=>by
  subst e;exact⟨λ_=>⟨sy,λq hq=>by rw[hq];exact Zdl _⟩,λh=>absurd rfl h⟩
 refine qB (P:=at_<1000\/y.2=1\/(I≠11/\I≠13)) ⟨λh=>⟨λ_=> .inl h,λ_=>rfl⟩,λh=>⟨λh2=>⟨λ_=> .inr (.inl h2),λ_=>rfl⟩,λh2=>⟨λh3=>⟨λh4=>⟨λ_=> .inr (.inr ⟨h3,h4⟩),λ_=>rfl⟩,λh4=>⟨(λe=>by cases e),λq=>by omega⟩⟩,λh3=>⟨(λe=>by cases e),λq=>by omega⟩⟩⟩⟩ (λhp=> ?_) (λhp=> ?_)
 ·refine aB (λh1=> ?_) (λh1=>a0 (a5 (.inl (by omega))))
  intro b2;exact a0 (a5 (by omega))
 ·have p1:1000<=at_:=by omega
  have p2:y.2≠1:=λh=>hp (.inr (.inl h));refine aB (λa1=> ?_) (λa1=> ?_)
  ·obtain⟨J,_⟩:=a4 p1 p2 (by omega)
   have e:z=(zTE,220):=by
    rw[J];unfold stE;rw[if_pos (show(repL I kd R).item.kind=13 from a1)];rfl
   subst e;exact⟨λ_=>⟨sz,λq hq=>by rw[hq];exact Zdl _⟩,λh=>absurd rfl h⟩
  ·have a7:I=11:=by omega
   obtain⟨J,e2⟩:=a4 p1 p2 (by omega);intro u hu;unfold stE at J;rw[if_neg (show¬(repL I kd R).item.kind=13 from a1)] at J;have b1:Y6 (repL I kd R).item.text kd=u:=hu.symm;rw[b1] at J;refine aB (λh=> ?_) (λh=> ?_)
   ·rw[if_pos h,<-e2] at J
    exact a0 J
   ·rw[if_neg (λq=>q h),if_pos (show(repL I kd R).item.kind=11 from a7)] at J
    have e:z=(u.1,0):=J;subst e;exact⟨λ_=>⟨sz,λq hq=>by rw[hq];exact Zdl _⟩,λh=>absurd rfl h⟩
theorem Z6z(l:List Rep) (kd J:Int) (R:List Nat) (at_:Int) (hl:l.length*192<=140737488351232):PureC E 7 [.psl Th.reps l ab,.int ab .i64 kd,.int ab .i64 J,.str ab R,.int ab .i64 at_] (.bool ab ac):=by
 refine Za E_ok (Zd E_ok Ycj 400) ?_;rw[Z6w];refine⟨trivial,λy h=>ifT h (aB (λI=> ?_) (λI=> ?_))⟩
 ·refine⟨⟨aw _,aw _,by omega⟩,Z0o l kd J R at_ _ _ (by simp) ?_⟩
  rw[I];rfl
 ·have hp:=gW.2 I
  have U:av (0+l.length) (av 0 []++l)=l:=by rw[Nat.zero_add];exact List.take_length
  refine⟨⟨aw _,aw _,by omega⟩,⟨by simp,by omega,by omega⟩,Z0o l kd J R at_ _ _ ?_ ?_⟩
  ·rw[U];simp
  ·rw[U,List.drop_zero]
   exact bg (by simp)
end
section
open Go.ChangeShapes Go.WideShapes Go.ChangeAt Go.RowKit
theorem Zpg{H:Type} {enc:TypeId×Value->H} {P:Program} {w:World} {base:Nat} {I:Nat->Bool} {held:Bool} {t0 t1 t2 t3 t4:TypeId} {args:Array Value} {ds:List (DataW H)} {ps:List MemPlace} (h:fW enc P w base I held [t0,t1,t2,t3,t4] args.toList ds ps):
 ∃v0 v1 v2 v3 v4 d0 d1 d2 d3 J R U p2 p3 p4,args= #[v0,v1,v2,v3,v4]/\ds= [d0,d1,d2,d3,J]/\ps=R++U++p2++p3++p4/\gq enc P w base I held t0 v0 d0 R/\gq enc P w base I held t1 v1 d1 U/\gq enc P w base I held t2 v2 d2 p2/\gq enc P w base I held t3 v3 d3 p3/\gq enc P w base I held t4 v4 J p4:=by
 obtain⟨v0,a6,d0,a0,R,q0,a5,rfl,rfl,h0,r0⟩:=trodAll_cons h
 obtain⟨v1,a7,d1,a1,U,q1,rfl,rfl,rfl,h1,r1⟩:=trodAll_cons r0
 obtain⟨v2,a8,d2,a2,p2,q2,rfl,rfl,rfl,h2,r2⟩:=trodAll_cons r1
 obtain⟨v3,a9,d3,a3,p3,q3,rfl,rfl,rfl,h3,r3⟩:=trodAll_cons r2
 obtain⟨v4,b0,J,a4,p4,q4,rfl,rfl,rfl,h4,r4⟩:=trodAll_cons r3
 obtain⟨rfl,rfl,rfl⟩:=trodAll_nil r4
 exact⟨v0,v1,v2,v3,v4,d0,d1,d2,d3,J,R,U,p2,p3,p4,by cases args;simp_all,rfl,by simp,h0,h1,h2,h3,h4⟩
end
section
open Go.ChangeShapes Go.WideShapes Go.ChangeAt Go.RowKit

theorem editionsLast_lifted(os:Os) (started:os.Started) (H:Type) (enc:TypeId×Value->H):
    ReturnsInHanded {} Tryz.checked os 7 .any (λw args=>(Rows.editionsLastSpec.pre enc Tryz.prog Tryz.f7 [] ab w args/\laidMetH Tryz.prog Zjr w)/\sizedMet enc Tryz.prog Tryz.f7 (OpenSpec.ofChange Rows.editionsLastSpec) ab w args)
      (Rows.editionsLastSpec.post enc Tryz.prog Tryz.f7 ab ac ab ab):=by
  refine returnsInHanded_of_change_and (C:=Tryz.checked) (X:=λw _=>laidMetH Tryz.prog Zjr w) (λ_ _ _ hh h=>h.of_heap hh) Tryz.own started (by kernel_rfl) Tryz.func7
    (ChangeSpec.witness_shaped (enc:=enc) (C:=Tryz.checked) (os:=os) (X:=λw _=>laidMetH Tryz.prog Zjr w) ab (Znx os) #[.slice au 0 0,.int .i64 0,.int .i64 0,.string ⟨#[]⟩,.int .i64 0] 8 (Zz7 os) (Z6i os _) (by kernel_rfl) (by kernel_rfl) (by kernel_rfl) (Z6j os _)) ?_
  intro W base args ds gs before hval0 hW _ hz hL _
  have hval:∀(j:Nat) t v,Tryz.f7.params[j]? =ae t->args[j]? =ae v->Value.okWide Tryz.prog W .any base t v:=hval0
  have hW':=hW
  obtain⟨p,q,hA0,hV,rfl,hfz,hnd⟩:=hW
  have hA:fW enc Tryz.prog W 0 (λ_=>ac) ac Tryz.f7.params.toList args.toList ds p:=hA0
  rw[Tryz.params7] at hA hval hz
  obtain⟨v0,v1,v2,v3,v4,d0,d1,d2,d3,d4,p0,p1,p2,p3,p4,rfl,rfl,rfl,h0,h1,h2,h3,h4⟩:=Zpg hA
  obtain⟨rfl,rfl⟩:=trodVars_none hV
  obtain⟨l,hdl,hll⟩:=Zzf (j:=0) hz rfl rfl (hval 0 22 v0 rfl rfl) h0
  obtain⟨kd,rfl,_,hrkd,_⟩:=open_int Tryz.underlying3 (hval 1 3 v1 rfl rfl) h1
  obtain⟨la,rfl,_,hrla,_⟩:=open_int Tryz.underlying3 (hval 2 3 v2 rfl rfl) h2
  obtain⟨tx,rfl,_,_,_⟩:=Go.ChangeMaps.open_string Tryz.underlying9 (hval 3 9 v3 rfl rfl) h3
  obtain⟨tm,rfl,_,hrtm,_⟩:=open_int Tryz.underlying3 (hval 4 3 v4 rfl rfl) h4
  refine(Z0a (Z6z l kd la (toL tx) tm hll) hL (Zdf hdl (Zdf (.int _ _ _) (Zdf (.int _ _ _) (Zdf (.str _ rfl) (Ykd (.int _ _ _))))))).mono λen W' ⟨hen,hw⟩=> ?_
  exact⟨_,hen,Z3n Tryz.laidOut rfl Tryz.underlying4 (by kernel_rfl) rfl hW' rfl rfl rfl hw⟩

end
section
open Go.ChangeShapes Go.WideShapes Go.ChangeAt Go.RowKit

theorem Za3:(Rows.editionsLastRow.inPlace==Tryz.prog.inPlace 7)=true:=by kernel_rfl
theorem Ur:(Rows.editionsLastRow.unfollowed==Tryz.prog.unfollowed 7)=true:=by kernel_rfl
theorem Zab:(Rows.editionsLastRow.recurses==Tryz.prog.recurses 7)=true:=by kernel_rfl
theorem Zc7:(Rows.editionsLastRow.named==Tryz.prog.varsNamed 7)=true:=by kernel_rfl
theorem Zc8:joinedFacts Tryz.prog 7 Tryz.f7 Rows.editionsLastSpec Rows.editionsLastRow=true:=by
  unfold joinedFacts;rw[Za3,Ur,Zab,Zc7]
  kernel_rfl
theorem Zee:Tryz.prog.funcNamed Rows.editionsLastRow.func=ae 7:=by kernel_rfl
theorem editionsLast_holds:Rows.EditionsLastSaid:=
  OpenClaim.holds_of_wide 7 Tryz.f7 rfl rfl rfl rfl rfl rfl rfl ⟨rfl,rfl,rfl,rfl,rfl⟩ rfl rfl rfl rfl rfl Zee Tryz.func7 Zc8
    (of_decide_eq_true (by kernel_rfl)) (by unfold Func.isWrapper;first|(rw[if_pos (by decide+kernel)];kernel_rfl)|(rw[if_neg (by decide+kernel)];exact⟨rfl,rfl⟩))
    (λos started H enc _=>editionsLast_lifted os started H enc)

end
end Go.Proofs.YtpmhbnameoklkaaGreatDoor
