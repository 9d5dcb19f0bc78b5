/- Merged texts: TtJ, TtK, TtM, TtN, TtR, TtB, TtC, TtL, TtP, TtU, TcA, TcB, TcC, TcE, TcD, TcG, TcV, TcF, TpXs, EdD, EngZN, EdE, EngZW, EdF. -/
import Derived.Test.YtbkgpcknakidkaaGreatDoorMe
open And renaming intro->aC
open BitVec renaming ofInt->dv
open Bool renaming and_eq_false_iff->bp,and_eq_true->aq,and_true->cI,eq_false_iff->iw,false->ab,false_eq_true->aN,not_eq_false'->bY,not_eq_true'->bj,or_eq_false_iff->bI,or_eq_true->bm,true->ac,true_and->cz,true_eq_false->aP
open Decidable renaming not_not->bB
open Go.BinOp renaming and->iq
open Go.Field renaming mk->fU
open Go.Fn renaming func->cF
open Go.IntKind renaming bits->fh,i64->ag,u64->bR,wrap_u64->jD
open Go.Proofs.YtbkgpcknakidkaaGreatDoor.Cls renaming mk->eF,name->aK,pay->ay,when_->aT
open Go.Proofs.YtbkgpcknakidkaaGreatDoor.Ex renaming d0->bD,d1->bE,d2->bF,d3->bG,eta->gF,l->bw,mk->bV,n->bX,op->aM,sz->cW
open Go.Proofs.YtbkgpcknakidkaaGreatDoor.Ins renaming m->li,mk->dy,n->fe,op->dV
open Go.Proofs.YtbkgpcknakidkaaGreatDoor.LX renaming D->fR,k->dO,m->kj
open Go.Proofs.YtbkgpcknakidkaaGreatDoor.Tar renaming clauses->ar,for_->aZ,name->ba
open Go.Proofs.YtbkgpcknakidkaaGreatDoor.Th renaming clauses->bA,dims->gO,ins->dF,ints->gh,reps->cN
open Go.TypeDesc renaming struct->il
open Go.Value renaming slice->aG
open Int renaming fdiv->eO,le_max_left->dJ,le_max_right->fD,le_refl->cj,le_trans->cu,max_le->fg,ofNat_eq_natCast->bZ,reduceAdd->gA,reduceLE->gN,toNat->af,toNat_natCast->bk,toNat_of_nonneg->jN
open List renaming all->lv,all_cons->jb,all_eq_true->fL,append_assoc->be,append_nil->cG,cons_append->cd,cons_ne_nil->kg,drop->cx,drop_eq_getElem_cons->cy,drop_eq_nil_of_le->bL,drop_zero->dW,eq_nil_of_length_eq_zero->cH,getD->ah,getD_cons_succ->cR,getD_cons_zero->cQ,getD_eq_getElem?_getD->bN,getElem?_append_right->bx,getElem?_cons_succ->dI,getElem?_cons_zero->dw,getElem?_drop->cO,getElem?_eq_getElem->ao,getElem?_eq_some_iff->ai,getElem_mem->iJ,length->aa,length_append->az,length_cons->aE,length_eq_zero_iff->iZ,length_filter_le->dc,length_nil->bn,length_replicate->gQ,length_reverse->fN,length_set->cJ,length_take->bi,mem_append->cf,mem_cons->aH,mem_cons_of_mem->aI,mem_cons_self->bH,mem_of_getElem?->aL,mem_or_eq_of_mem_set->iV,mem_singleton->ct,nil_append->dX,replicate->aR,set->dx,set_append_right->gR,set_cons_succ->ff,set_cons_zero->eu,take->aw,take_add_one->cA,take_length->aV,take_of_length_le->bh,take_zero->iP
open Nat renaming beq->aO,beq_refl->fP,ble->bP,ble_self_eq_true->jE,blt->aU,eq_of_beq_eq_true->ax,le_of_ble_eq_true->gY,le_refl->av,le_succ_of_le->kh,le_trans->bS,lt_of_lt_of_le->ck,reduceAdd->gy,reduceLeDiff->fC,sub_self->eB,zero_add->bq,zero_le->aW
open Option renaming bind_some->fj,getD->cB,getD_some->cZ,isNone_iff_eq_none->fW,isSome->cS,isSome_eq_false_iff->fQ,isSome_iff_exists->ga,isSome_some->ju,ne_none_iff_exists'->aY,none->au,some->ae
open Option.some renaming injEq->cr
open Prod renaming fst->ak,snd->aD
namespace Go.Proofs.YtbkgpcknakidkaaGreatDoor
set_option linter.unusedVariables false
set_option linter.unusedSimpArgs false
set_option linter.unnecessarySimpa false
set_option maxRecDepth 100000
section
open Go
noncomputable def Yj8:Dc E (List (List Int)):=(Zfr (E:=E) gO:Dc E (List (thy.dom gO)))
def dPow:Dc E Int where
 dec v:=match v with| .pptr gh n 0=>ae n|_=>au
 enc n:= .pptr gh n 0
 ok v a h:=by
  split at h
  ·cases h;exact⟨rfl,rfl,λ_ _ _ h=>h⟩
  ·cases h
def dimV(d:List Int):SV thy:= .agg (encF ab .dims d)
def optV(o:Option (List Int)):SV thy:= .tup [dimV (o.getD [0,0,0,0]),.bool ab o.isSome]
abbrev Zfd(x:List Int) (n:Int) (I:List Int) (J:List Int) (R:List Int) (U:List Int) (a0:List Int):=
 (dx (dx (dx [(0:Int),(0:Int),(0:Int),(0:Int)] (af (0:Int)) (wr ag (ah x (0:Nat) (0:Int)+wr ag (n*ah
 I (0:Nat) (0:Int))))) (af (1:Int)) (wr ag (ah J (1:Nat) (0:Int)+wr ag (n*ah R (1:Nat) (0:Int))))) (af (2:
 Int)) (wr ag (ah U (2:Nat) (0:Int)+wr ag (n*ah a0 (2:Nat) (0:Int)))))
abbrev Xi(x:List Int) (n:Int) (I:List Int) (R:List Int) (U:List Int) (a0:List Int) (a1:List Int) (a2:List Int) (J:List Int):=
 (dx (Zfd x n I R U a0 a1) (af (3:Int)) (wr ag (ah a2 (3:Nat) (0:Int)+wr ag (n*ah J (3:Nat) (0:Int)))))
abbrev Zfe(x:List Int) (n:Int) (I:List Int):=
 (dx [(0:Int),(0:Int),(0:Int),(0:Int)] (af (0:Int)) (wr ag (ah x (0:Nat) (0:Int)+wr ag (n*ah I (0:Nat) (0:
 Int)))))
abbrev Zrm(d:List Int):Prop:=
 ah [(0:Int),(0:Int),(0:Int),(0:Int)] (0:Nat) (0:Int)=ah d (0:Nat) (0:Int)/\ah [(0:Int),(0:Int),(0:Int),(0:Int)] (1:Nat) (0
 :Int)=ah d (1:Nat) (0:Int)/\ah [(0:Int),(0:Int),(0:Int),(0:Int)] (2:Nat) (0:Int)=ah d (2:Nat) (0:Int)/\ah [(0:Int),(0
 :Int),(0:Int),(0:Int)] (3:Nat) (0:Int)=ah d (3:Nat) (0:Int)/\True
abbrev Zgp(x:List Int) (n:Int) (I:List Int) (J:List Int) (R:List Int):=
 (dx (Zfe x n I) (af (1:Int)) (wr ag (ah J (1:Nat) (0:Int)+wr ag (n*ah R (1:Nat) (0:Int)))))
abbrev Zxw:Prop:=
 (0:Int)<=(0:Int)/\(0:Int)+(1:Int)<=(↑(4:Nat):Int)
abbrev Zxx:Prop:=
 (0:Int)<=(1:Int)/\(1:Int)+(1:Int)<=(↑(4:Nat):Int)
abbrev Zxy:Prop:=
 (0:Int)<=(2:Int)/\(2:Int)+(1:Int)<=(↑(4:Nat):Int)
abbrev Zxz:Prop:=
 (0:Int)<=(3:Int)/\(3:Int)+(1:Int)<=(↑(4:Nat):Int)
abbrev qCX1:=(0:Int)
abbrev qCX2:=(1:Int)
abbrev qCX3:=(1:Nat)
abbrev qCX4(I:List (List Int)):=(↑(aa I):Int)
abbrev qCX5:=(4:Nat)
abbrev qCX6:=(3:Int)
abbrev qCX7(I:Int) (J:Bool->Prop):=(decide (I<(-3:Int))=ac->J ac)
abbrev qCX8:=(0:Nat)
theorem Ydb(ds:List (List Int)) (n:Int) (d:List Int) (b:Bool):Zk E F0 (vc E F0 2000) 122 [.psl gO ds ab,.pptr gh n 0] hp0 0 (λr=>ret E (patch hp0 0 r) r.v (.tup [dimV d,.bool ab b]))=(
 qCX1<=qCX1/\qCX1+qCX2<=(qCX4 ds)/\∀(x:List Int),ds[af qCX1]? =ae x->qCX1<=qCX2/\qCX2+qCX2<=(qCX4 ds)/\∀(I:List Int),ds[af qCX2]? =ae I->(Zxw)/\qCX8<=af qCX1/\af qCX1+qCX3<=qCX5/\∀(a6:Int),[qCX1,qCX1,qCX1,qCX1][af qCX1]? =ae a6->∃(Q:Bool->Prop),((Zxw)/\af qCX1+qCX3<=aa (Zfe x n I)/\∀(J:Int),(Zfe x n I)[af qCX1]? =ae J->(qCX7 J Q)/\(decide (J<(-3:Int))=ab->(Zxw)/\af qCX1+qCX3<=aa (Zfe x n I)/\∀(R:Int),(Zfe x n I)[af qCX1]? =ae R->(decide (R>qCX6)=ac->Q ac)/\(decide (R>qCX6)=ab->Q ab)))/\(Q ac->aa (Zfe x n I)=qCX5/\qCX5=qCX5/\(Zrm d)/\ab=b/\True)/\(Q ab->qCX1<=qCX1/\qCX1+qCX2<=(qCX4 ds)/\∀(J:List Int),ds[af qCX1]? =ae J->qCX1<=qCX2/\qCX2+qCX2<=(qCX4 ds)/\∀(R:List Int),ds[af qCX2]? =ae R->(Zxx)/\qCX8<=af qCX2/\af qCX2+qCX3<=aa (Zfe x n I)/\∀(a7:Int),(Zfe x n I)[af qCX2]? =ae a7->∃(Q:Bool->Prop),((Zxx)/\af qCX2+qCX3<=aa (Zgp x n I J R)/\∀(U:Int),(Zgp x n I J R)[af qCX2]? =ae U->(qCX7 U Q)/\(decide (U<(-3:Int))=ab->(Zxx)/\af qCX2+qCX3<=aa (Zgp x n I J R)/\∀(a0:Int),(Zgp x n I J R)[af qCX2]? =ae a0->(decide (a0>qCX6)=ac->Q ac)/\(decide (a0>qCX6)=ab->Q ab)))/\(Q ac->aa (Zgp x n I J R)=qCX5/\qCX5=qCX5/\(Zrm d)/\ab=b/\True)/\(Q ab->qCX1<=qCX1/\qCX1+qCX2<=(qCX4 ds)/\∀(U:List Int),ds[af qCX1]? =ae U->qCX1<=qCX2/\qCX2+qCX2<=(qCX4 ds)/\∀(a0:List Int),ds[af qCX2]? =ae a0->(Zxy)/\qCX8<=af 2/\af 2+qCX3<=aa (Zgp x n I J R)/\∀(a8:Int),(Zgp x n I J R)[af 2]? =ae a8->∃(Q:Bool->Prop),((Zxy)/\af 2+qCX3<=aa (Zfd x n I J R U a0)/\∀(a2:Int),(Zfd x n I J R U a0)[af 2]? =ae a2->(qCX7 a2 Q)/\(decide (a2<(-3:Int))=ab->(Zxy)/\af 2+qCX3<=aa (Zfd x n I J R U a0)/\∀(a1:Int),(Zfd x n I J R U a0)[af 2]? =ae a1->(decide (a1>qCX6)=ac->Q ac)/\(decide (a1>qCX6)=ab->Q ab)))/\(Q ac->aa (Zfd x n I J R U a0)=qCX5/\qCX5=qCX5/\(Zrm d)/\ab=b/\True)/\(Q ab->qCX1<=qCX1/\qCX1+qCX2<=(qCX4 ds)/\∀(a2:List Int),ds[af qCX1]? =ae a2->qCX1<=qCX2/\qCX2+qCX2<=(qCX4 ds)/\∀(a1:List Int),ds[af qCX2]? =ae a1->(Zxz)/\qCX8<=af qCX6/\af qCX6+qCX3<=aa (Zfd x n I J R U a0)/\∀(a5:Int),(Zfd x n I J R U a0)[af qCX6]? =ae a5->∃(Q:Bool->Prop),((Zxz)/\af qCX6+qCX3<=aa (Xi x n I J R U a0 a2 a1)/\∀(a3:Int),(Xi x n I J R U a0 a2 a1)[af qCX6]? =ae a3->(qCX7 a3 Q)/\(decide (a3<(-3:Int))=ab->(Zxz)/\af qCX6+qCX3<=aa (Xi x n I J R U a0 a2 a1)/\∀(a4:Int),(Xi x n I J R U a0 a2 a1)[af qCX6]? =ae a4->(decide (a4>qCX6)=ac->Q ac)/\(decide (a4>qCX6)=ab->Q ab)))/\(Q ac->aa (Xi x n I J R U a0 a2 a1)=qCX5/\qCX5=qCX5/\(Zrm d)/\ab=b/\True)/\(Q ab->aa (Xi x n I J R U a0 a2 a1)=qCX5/\aa (Xi x n I J R U a0 a2 a1)=qCX5/\qCX5=qCX5/\(ah [ah (Xi x n I J R U a0 a2 a1) qCX8 qCX1,ah (Xi x n I
J R U a0 a2 a1) qCX3 qCX1,ah (Xi x n I J R U a0 a2 a1) 2 qCX1,ah (Xi x n I J R U a0 a2 a1) 3 qCX1] qCX8 qCX1=ah d qCX8 qCX1/\ah [ah (Xi x n I J R U a0 a2 a1) qCX8 qCX1,ah (Xi x n I J R U a0 a2 a1) qCX3 qCX1,ah (Xi x n I J R U a0 a2 a1) 2 qCX1,ah (Xi x n I J R U a0 a2 a1) 3 qCX1] qCX3 qCX1=ah d qCX3 qCX1/\ah [ah (Xi x n I J R U a0 a2 a1) qCX8 qCX1,ah (Xi x n I J R U a0 a2 a1) qCX3 qCX1,ah (Xi x n I J R U a0 a2 a1) 2 qCX1,ah (Xi x n I J R U a0 a2 a1) 3 qCX1] 2 qCX1=ah d 2 qCX1/\ah [ah (Xi x n I J R U a0 a2 a1) qCX8 qCX1,ah (Xi x n I J R U a0 a2 a1) qCX3 qCX1,ah (Xi x n I J R U a0 a2 a1) 2 qCX1,ah (Xi x n I J R U a0 a2 a1) 3 qCX1] 3 qCX1=ah d 3 qCX1/\True)/\ac=b/\True))))):=by kernel_rfl
theorem Zj9(c:Int):in3 c=ac↔(-3<=c/\c<=3):=by
 unfold in3;simp only[bj,bI,fG];omega
theorem q3(c:Int) {J I:Prop} (h1:in3 c=ab->J) (h2:in3 c=ac->I):∃Q:Bool->Prop,((c< -3->Q ac)/\(¬c< -3->(c>3->Q ac)/\(¬c>3->Q ab)))/\(Q ac->J)/\(Q ab->I):=by
 have hi:=Zj9 c;have R:¬(-3<=c/\c<=3)->in3 c=false:=λh=>by rw[<-Bool.not_eq_true,hi];exact h
 refine⟨λq=>q=ac↔in3 c=ab,aC (λh=>⟨λ_=>R (by omega),λ_=>rfl⟩) (λh=>aC (λU=>⟨λ_=>R (by omega),λ_=>rfl⟩) (λU=>⟨λh=>(by cases h),λh=> ?_⟩)),λh=>h1 (h.1 rfl),λh=>h2 ?_⟩
 ·rw[hi.2 (by omega)] at h;cases h
 ·cases hh:in3 c with
  |true=>rfl
  |false=>exact ka (h.2 hh) (by simp)
theorem Ydc(I:List (List Int)) (n:Int) (J:2<=I.length):PureC E 122 [.psl gO I ab,.pptr gh n 0] (optV (cmb n (I.getD 0 []) (I.getD 1 []))):=by
 match I,J with
 |a::b::r,J=>
 refine Za E_ok (Yae 2000) ?_;unfold optV;rw[Ydb];delta qCX1 qCX2 qCX3 qCX4 qCX5 qCX6 qCX7 qCX8;unfold Zxz Zxy Zxx Zxw Zgp Zrm Zfe Xi Zfd;have e:∀x y,wr ag (x+wr ag (n*y))=cmb1 n x y:=λ_ _=>rfl
 simp only[Yl,Ya,Wu,Wv,Ww,ij,iz,fV,gp,fO,fG,bm,bI,bj,bY,aq,cI,cz,bp,iR,Y2,Yv,ne_eq,and_true,true_and,aP,aN,false_or,or_false,jW,ku,bZ,iU,jc,bB,dw,dI,cr,forall_eq',kz,eu,ff,aE,bn,cQ,cR,tn0,tn1,tn2,tn3,cj,av,gy,gA,gN,fC,cn4,cn16,e]
 unfold cmb;generalize cmb1 n (a.getD 0 0) (b.getD 0 0)=R;generalize cmb1 n (a.getD 1 0) (b.getD 1 0)=U;generalize cmb1 n (a.getD 2 0) (b.getD 2 0)=c2;generalize cmb1 n (a.getD 3 0) (b.getD 3 0)=c3;simp only[aE] at J
 repeat' (first|omega|(refine q3 _ (λh=> ?_) (λh=> ?_))|(refine aC ?_ ?_))
 all_goals simp[*]
abbrev qCXb:=(0:Int)
abbrev qCX9(I:List Int) (J:List Int):=(ah [ah I (0:Nat) qCXb,ah I (1:Nat) qCXb,ah I (2:Nat) qCXb,ah I (3:Nat) qCXb] (0:Nat) qCXb=ah J (0:Nat) qCXb/\ah [ah I (0:Nat) qCXb,ah I (1:Nat) qCXb,ah I (2:Nat) qCXb,ah I (3:Nat) qCXb] (1:Nat) qCXb=ah J (1:Nat) qCXb/\ah [ah I (0:Nat) qCXb,ah I (1:Nat) qCXb,ah I (2:Nat) qCXb,ah I (3:Nat) qCXb] (2:Nat) qCXb=ah J (2:Nat) qCXb/\ah [ah I (0:Nat) qCXb,ah I (1:Nat) qCXb,ah I (2:Nat) qCXb,ah I (3:Nat) qCXb] (3:Nat) qCXb=ah J (3:Nat) qCXb/\True)
abbrev qCXa(I:List Int) (J:List Int):=(ah I (0:Nat) qCXb==ah J (0:Nat) qCXb&&(ah I (1:Nat) qCXb==ah J (1:Nat) qCXb&&(ah I (2:Nat) qCXb==ah J (2:Nat) qCXb&&(ah I (3:Nat) qCXb==ah J (3:Nat) qCXb&&ac))))
theorem Z05(I:List (List Int)) (d:List Int) (b:Bool):Zk E F0 (vc E F0 400) 75 [.psl gO I ab] hp0 0 (λr=>ret E (patch hp0 0 r) r.v (.tup [dimV d,.bool ab b]))=(
 qCXb<=qCXb/\qCXb+1<=(↑(aa I):Int)/\∀(x:List Int),I[af qCXb]? =ae x->qCXb<=qCXb/\qCXb+1<=(↑(aa I):Int)/\∀(J:List Int),I[af qCXb]? =ae J->qCXb<=1/\1+1<=(↑(aa I):Int)/\∀(R:List Int),I[af 1]? =ae R->((qCXa J R)=ac->4=4/\4=4/\(qCX9 x d)/\ac=b/\True)/\((qCXa J R)=ab->4=4/\4=4/\(qCX9 x d)/\ab=b/\True)):=by kernel_rfl
def eq4(a b:List Int):Bool:=a.getD 0 0==b.getD 0 0&&(a.getD 1 0==b.getD 1 0&&(a.getD 2 0==b.getD 2 0&&a.getD 3 0==b.getD 3 0))
theorem Yj9{a b:List Int} (h:a.getD 0 0=b.getD 0 0/\a.getD 1 0=b.getD 1 0/\a.getD 2 0=b.getD 2 0/\a.getD 3 0=b.getD 3 0):eq4 a b=true:=by
 unfold eq4;simp only[aq,ij];exact h
theorem Yka{a b:List Int} (h:¬a.getD 0 0=b.getD 0 0\/¬a.getD 1 0=b.getD 1 0\/¬a.getD 2 0=b.getD 2 0\/¬a.getD 3 0=b.getD 3 0):eq4 a b=false:=by
 rw[iw];intro I;unfold eq4 at I;simp only[aq,ij] at I;omega
theorem Zux{a b:List Int} (I:Is4 a) (J:Is4 b):eq4 a b=decide (a=b):=by
 obtain⟨R,U,a2,a3,rfl⟩:=I;obtain⟨b0,b1,b2,b3,rfl⟩:=J;rw[Bool.eq_iff_iff,fO];unfold eq4;simp
theorem Z06(I:List (List Int)) (J:2<=I.length):PureC E 75 [.psl gO I ab] (.tup [dimV (I.getD 0 []),.bool ab (eq4 (I.getD 0 []) (I.getD 1 []))]):=by
 match I,J with
 |a::b::r,J=>
 refine Za E_ok (Yae 400) ?_;rw[Z05];delta qCXb qCX9 qCXa
 simp only[Yl,Ya,Wu,Wv,Ww,ij,iz,fV,gp,fO,fG,bm,bI,bj,bY,aq,cI,cz,bp,iR,Y2,Yv,ne_eq,and_true,true_and,aP,aN,false_or,or_false,jW,ku,bZ,iU,jc,bB,dw,dI,cr,forall_eq',kz,eu,ff,aE,bn,cQ,cR,tn0,tn1,tn2,tn3,cj,av,gy,gA,gN,fC,cn4,cn16]
 simp only[aE] at J;refine⟨by omega,by omega,by omega,λh=> ?_,λh=> ?_⟩
 ·exact(Yj9 h).symm
 ·exact(Yka h).symm
abbrev Zhm(x:List Int) (d:List Int):Prop:=
 ah [ah x (0:Nat) (0:Int),ah x (1:Nat) (0:Int),ah x (2:Nat) (0:Int),ah x (3:Nat) (0:Int)] (0:Nat) (0:Int)=ah d
 (0:Nat) (0:Int)/\ah [ah x (0:Nat) (0:Int),ah x (1:Nat) (0:Int),ah x (2:Nat) (0:Int),ah x (3:Nat) (0:Int)] (1:Nat) (0
 :Int)=ah d (1:Nat) (0:Int)/\ah [ah x (0:Nat) (0:Int),ah x (1:Nat) (0:Int),ah x (2:Nat) (0:Int),ah x (3:Nat) (0
 :Int)] (2:Nat) (0:Int)=ah d (2:Nat) (0:Int)/\ah [ah x (0:Nat) (0:Int),ah x (1:Nat) (0:Int),ah x (2:Nat) (0:Int),
 ah x (3:Nat) (0:Int)] (3:Nat) (0:Int)=ah d (3:Nat) (0:Int)/\True
abbrev Zn8(I:List Int) (J:List Int):=
 (ah I (0:Nat) (0:Int)==ah J (0:Nat) (0:Int)&&(ah I (1:Nat) (0:Int)==ah J (1:Nat) (0:Int)&&(ah I (2:Nat) (0
 :Int)==ah J (2:Nat) (0:Int)&&(ah I (3:Nat) (0:Int)==ah J (3:Nat) (0:Int)&&ac))))
abbrev Zn9(I:List Int) (J:List Int):=
 (ah I (0:Nat) (0:Int)==ah J (0:Nat) (0:Int)&&(ah I (1:Nat) (0:Int)==ah J (1:Nat) (0:Int)&&(ah I (2:Nat) (0
 :Int)==ah J (2:Nat) (0:Int)&&(ah I (3:Nat) (0:Int)==ah J (3:Nat) (0:Int)&&ac))))
theorem Z07(I:List (List Int)) (d:List Int) (b:Bool):Zk E F0 (vc E F0 400) 76 [.psl gO I ab] hp0 0 (λr=>ret E (patch hp0 0 r) r.v (.tup [dimV d,.bool ab b]))=(
(0:Int)<=2/\2+1<=(↑(aa I):Int)/\∀(x:List Int),I[af 2]? =ae x->(0:Int)<=0/\0+1<=(↑(aa I):Int)/\∀(J:List Int),I[af 0]? =ae J->(0:Int)<=1/\1+1<=(↑(aa I):Int)/\∀(R:List Int),I[af 1]? =ae R->((Zn8 J R)=ac->(0:Int)<=2/\2+1<=(↑(aa I):Int)/\∀(U:List Int),I[af 2]? =ae U->(0:Int)<=3/\3+1<=(↑(aa I):Int)/\∀(a0:List Int),I[af 3]? =ae a0->((Zn9 U a0)=ac->4=4/\4=4/\(Zhm x d)/\ac=b/\True)/\((Zn9 U a0)=ab->4=4/\4=4/\(Zhm x d)/\ab=b/\True))/\((Zn8 J R)=ab->4=4/\4=4/\(Zhm x d)/\ab=b/\True)):=by kernel_rfl
theorem Z08(I:List (List Int)) (R:4<=I.length):PureC E 76 [.psl gO I ab] (.tup [dimV (I.getD 2 []),.bool ab (eq4 (I.getD 0 []) (I.getD 1 [])&&eq4 (I.getD 2 []) (I.getD 3 []))]):=by
 match I,R with
 |a::b::c::d::r,R=>
 refine Za E_ok (Yae 400) ?_;rw[Z07];unfold Zn9 Zn8 Zhm
 simp only[Yl,Ya,Wu,Wv,Ww,ij,iz,fV,gp,fO,fG,bm,bI,bj,bY,aq,cI,cz,bp,iR,Y2,Yv,ne_eq,and_true,true_and,aP,aN,false_or,or_false,jW,ku,bZ,iU,jc,bB,dw,dI,cr,forall_eq',kz,eu,ff,aE,bn,cQ,cR,tn0,tn1,tn2,tn3,cj,av,gy,gA,gN,fC,cn4,cn16]
 simp only[aE] at R;refine⟨by omega,by omega,by omega,λh=>⟨by omega,by omega,λJ=> ?_,λJ=> ?_⟩,λh=> ?_⟩
 ·rw[Yj9 h,Yj9 J];rfl
 ·rw[Yka J,Bool.and_false]
 ·rw[Yka h,Bool.false_and]
end
section
open Go
open Classical in
noncomputable def dRul:Dc E Unit where
  dec v:=if v=Wg then ae () else au
  enc _:=Wg
  ok v a h:=by
    split at h
    ·rename_i e;subst e;exact⟨rfl,rfl,λ_ _ _ h=>h⟩
    ·cases h
noncomputable def Zqw(m:Nat):Sum thy:=λargs h i k=>match args with
  | [r,I]=>r=Wg/\(match(dR .exprs).dec I with|some x=>((x:Ex).sz<m/\Zn x=ac)/\∀o,o=Zaz x->k (quiet [] (optV o))|none=>False)
  |_=>False
theorem Zqx{m:Nat} (hp:∀x:Ex,x.sz<m->Zn x=ac->PureC E 40 [Wg,exA x] (optV (Zaz x))):SumOk E 40 (Zqw m):=by
  refine⟨Zc (f:=40) rfl,λargs h i k hD I=> ?_⟩;unfold Zqw at I;split at I
  ·rename_i r U
   obtain⟨rfl,I⟩:=I;split at I
   ·rename_i x hx
    obtain⟨⟨h1,h2⟩,I⟩:=I;have hd:(DcL.cons dRul (dA1 (dR .exprs))).dec [Wg,U]=ae ((),x,()):=by
      have h0:(dRul).dec Wg=ae ():=by unfold dRul;simp
      simp only[DcL.cons,dA1,DcL.nil,h0,hx]
    have R:PureC E 40 [Wg,U] (optV (Zaz x)):=PureC.of_dec hd (hp x h1 h2);have J:=(DcL.cons dRul (dA1 (dR .exprs))).ok _ _ hd;exact⟨_,I _ rfl,(R.tri E_ok J.1 h i).1,.inl (R.tri E_ok J.1 h i).2⟩
   ·exact I.elim
  ·exact I.elim
noncomputable def Spow:Sum thy:=Zat E (λ_=>au) 10 (dA2 Yj8 dPow) (λx=>2<=x.1.length) (λx=>cmb x.2.1 (x.1.getD 0 []) (x.1.getD 1 [])) optV
theorem Yiu:SumOk E 122 Spow:=Ys E_ok (Zc (f:=122) rfl) λx h=>Ydc _ _ h
def prV(p:List Int×Bool):SV thy:= .tup [dimV p.1,.bool ab p.2]
noncomputable def Ym5:Sum thy:=Zat E (λ_=>au) 10 (dA1 Yj8) (λx=>2<=x.1.length) (λx=>(x.1.getD 0 [],eq4 (x.1.getD 0 []) (x.1.getD 1 []))) prV
theorem Yb1:SumOk E 75 Ym5:=Ys E_ok (Zc (f:=75) rfl) λx h=>Z06 _ h
noncomputable def Ym6:Sum thy:=Zat E (λ_=>au) 10 (dA1 Yj8) (λx=>4<=x.1.length) (λx=>(x.1.getD 2 [],eq4 (x.1.getD 0 []) (x.1.getD 1 [])&&eq4 (x.1.getD 2 []) (x.1.getD 3 []))) prV
theorem Yb2:SumOk E 76 Ym6:=Ys E_ok (Zc (f:=76) rfl) λx h=>Z08 _ h
structure UnX where
  k:Nat
  r:Nat
  D:List (List Int)
noncomputable def Ypc:Fr thy->Hp thy->Nat->Ann2 thy:=λT h i=>{X:=UnX,fr:=λs x=> [(0,T 0),(3,T 3),(4,T 4),(6,match s with|false=> .val (.slice au 0 0)|true=> .sl i 0 x.D.length 4 au),(24,T 24),(25,T 25),(26,.int ab .i64 x.k)],bl:=λs x=>match s with|false=>blkP h (T 3)++blkP h (T 4)|true=>(i,.rows gO x.D 0)::(blkP h (T 3)++blkP h (T 4)),src:=λs=>match s with|false=> []|true=> [(i,6)],md:= [bOf (T 4)],ih:=i+1,M:=i+40,meas:=λs x=>x.r}
noncomputable def Zw5:Fns thy:=addS (addS (addS F0 122 Spow) 75 Ym5) 76 Ym6
theorem Zqy:FnsOk E Zw5:=Zb (Zb (Zb F0_ok Yiu) Yb1) Yb2
noncomputable def Yiv(m:Nat):Fns thy:=Yna (addS Zw5 40 (Zqw m)) 40 8 Ypc E
abbrev Ze4(o:Option (List Int)):Prop:=
  (0:Int)=ah (cB o [(0:Int),(0:Int),(0:Int),(0:Int)]) (0:Nat) (0:Int)/\(0:Int)=ah (cB o [(0:Int),(0:Int),(0:Int),(0
  :Int)]) (1:Nat) (0:Int)/\(0:Int)=ah (cB o [(0:Int),(0:Int),(0:Int),(0:Int)]) (2:Nat) (0:Int)/\(0:Int)=ah (cB o [(0:
  Int),(0:Int),(0:Int),(0:Int)]) (3:Nat) (0:Int)/\True
abbrev Vp(y:Option (List Int)) (o:Option (List Int)):Prop:=
  (!cS y)=ab->(4:Nat)=(4:Nat)/\(4:Nat)=(4:Nat)/\(4:Nat)=(4:Nat)/\(ah (cB y [(0:Int),(0:Int),(0:Int),(0:Int)]) (0:
  Nat) (0:Int)=ah (cB o [(0:Int),(0:Int),(0:Int),(0:Int)]) (0:Nat) (0:Int)/\ah (cB y [(0:Int),(0:Int),(0:Int),(0:
  Int)]) (1:Nat) (0:Int)=ah (cB o [(0:Int),(0:Int),(0:Int),(0:Int)]) (1:Nat) (0:Int)/\ah (cB y [(0:Int),(0:Int),(0:
  Int),(0:Int)]) (2:Nat) (0:Int)=ah (cB o [(0:Int),(0:Int),(0:Int),(0:Int)]) (2:Nat) (0:Int)/\ah (cB y [(0:Int),(0:
  Int),(0:Int),(0:Int)]) (3:Nat) (0:Int)=ah (cB o [(0:Int),(0:Int),(0:Int),(0:Int)]) (3:Nat) (0:Int)/\True)/\ac=cS o/\
  True
abbrev Wi(y:List Int×Bool) (o:Option (List Int)):Prop:=
  (!aD y)=ab->(4:Nat)=(4:Nat)/\(4:Nat)=(4:Nat)/\(4:Nat)=(4:Nat)/\(ah (ak y) (0:Nat) (0:Int)=ah (cB o [(0:Int),
  (0:Int),(0:Int),(0:Int)]) (0:Nat) (0:Int)/\ah (ak y) (1:Nat) (0:Int)=ah (cB o [(0:Int),(0:Int),(0:Int),(0:Int)]) (1:
  Nat) (0:Int)/\ah (ak y) (2:Nat) (0:Int)=ah (cB o [(0:Int),(0:Int),(0:Int),(0:Int)]) (2:Nat) (0:Int)/\ah (ak y)
  (3:Nat) (0:Int)=ah (cB o [(0:Int),(0:Int),(0:Int),(0:Int)]) (3:Nat) (0:Int)/\True)/\ac=cS o/\True
abbrev Zq(I:UnX):=
  (aw (aa (UnX.D I)) (cx (0:Nat) (UnX.D I)))
abbrev Wj(y:List Int×Bool) (o:Option (List Int)):Prop:=
  (!aD y)=ac->(4:Nat)=(4:Nat)/\(4:Nat)=(4:Nat)/\(Ze4 o)/\ab=cS o/\True
abbrev Vq(y:Option (List Int)) (o:Option (List Int)):Prop:=
  (!cS y)=ac->(4:Nat)=(4:Nat)/\(4:Nat)=(4:Nat)/\(Ze4 o)/\ab=cS o/\True
abbrev Zcj(x:Ex):Prop:=
  aM x=aM x/\bX x=bX x/\bD x=bD x/\bE x=bE x/\bF x=bF x/\bG x=bG x/\(bw x=bw x/\(ab=ac->ab=ac))/\True
abbrev Zck:Prop:=
  [(0:Int),(0:Int),(0:Int),(0:Int)]= [(0:Int),(0:Int),(0:Int),(0:Int)]/\(0:Nat)=(0:Nat)
abbrev Zai(I:Ex):=
  (bV (aM I) (bX I) (bD I) (bE I) (bF I) (bG I) (bw I))
abbrev Vr(o:Option (List Int)):=
  (cB o [(0:Int),(0:Int),(0:Int),(0:Int)])
abbrev Wk(I:Option (List Int)):=
  (cB I [(0:Int),(0:Int),(0:Int),(0:Int)])
abbrev Zjs(x:Ex) (I:UnX) (x':UnX):Prop:=
  (Xv=Xv/\ac=ac)/\(0:Nat)=(0:Nat)/\(0:Nat)=(0:Nat)/\False/\(bw x=bw x/\(ab=ac->ab=ac))/\(↑(aa (bw x)):Int)=
  (↑(aa (bw x)):Int)/\wr ag ((↑(UnX.k I):Int)+(1:Int))=(↑(UnX.k x'):Int)/\True
--@cond unitK | 40 | Zw5>(Yiv m) | 800 | (m : Nat) (x : Ex) | [Wg, exA x] | (o : Option (List Int)) | optV o
theorem Zz9(m:Nat) (x:Ex) (o:Option (List Int)):Zk E Zw5 (vc E (Yiv m) 800) 40 [Wg,exA x] hp0 0 (λr=>ret E (patch hp0 0 r) r.v (optV o))=(
  ((aM x==1)=ac->4=4/\4=4/\(bD x=ah (Vr o) 0 0/\bE x=ah (Vr o) (1:
  Nat) 0/\bF x=ah (Vr o) 2 0/\bG x=ah (Vr o) 3 0/\True)/\ac=cS o/\True)/\((aM x
  ==1)=ab->((aM x==2)=ac->0<=bX x/\bX x+1<=(↑16:Int)/\∀(I:List Int),[[0,0,0,(0
  :Int)],[0,0,0,0],[0,0,0,0],[0,0,0,0],[0,0,(0:
  Int),0],[0,0,0,1],[0,0,1,0],[0,1,0,0],[0,1,
  0,0],[0,0,0,0],[1,0,0,0],[1,0,0,0],[0,(0:
  Int),0,0],[0,0,0,0],[0,0,0,0],[0,0,0,0]][af
  (bX x)]? =ae I->4=4/\4=4/\(ah I 0 0=ah (Vr o) 0 0/\ah I 1
  0=ah (Vr o) 1 0/\ah I 2 0=ah (Vr o) 2 0/\ah I 3 0=
  ah (Vr o) 3 0/\True)/\ac=cS o/\True)/\((aM x==2)=ab->∃(R:Bool->UnX->Prop),((∃(x:UnX),R ac x/\ac
  =ac/\False)\/∃(I:UnX),R ab I/\ac=ac/\((Xv=Xv/\ac=ac)/\0=0/\0=0/\aG au 0 (0:
  Nat)=aG au 0 0/\(bw x=bw x/\(ab=ac->ab=ac))/\(↑(aa (bw x)):Int)=(↑(aa (bw x)):Int)/\0=
  (↑(UnX.k I):Int)/\True)/\(Zcj x)/\(Zck)/\True)/\(∀(I:UnX),R ac I->(decide ((↑(UnX.k I):Int)<(↑(aa (bw x)):Int))=ac->(0:
  Int)<=(↑(UnX.k I):Int)/\(↑(UnX.k I):Int)+1<=(↑(aa (bw x)):Int)/\∀(U:Ex),(bw x)[af (↑(UnX.k I):Int)]? =ae U->SV.pmap
  Xv=Wg/\(cW (Zai U)+1<=m/\Zn (Zai U)=ac)/\∀(J:Option (List Int)),J=Zaz (Zai U)->4=4/\
  ((!cS J)=ac->4=4/\4=4/\(Ze4 o)/\ab=cS o/\True)/\((!cS J)=ab->4=(4:
  Nat)/\(aa (UnX.D I)<=aa (UnX.D I)/\0<=aa (UnX.D I)/\(aa (UnX.D I)+1)*32<=140737488355328)/\
  ((∃(x':UnX),R ac x'/\x'.2+1<=I.2/\ac=ac/\((Xv=Xv/\ac=ac)/\0=0/\0=0/\(0=0/\
  aa (UnX.D I)+1=aa (UnX.D x')/\True)/\(bw x=bw x/\(ab=ac->ab=ac))/\(↑(aa (bw x)):Int)=(↑(aa (bw
  x)):Int)/\wr ag ((↑(UnX.k I):Int)+1)=(↑(UnX.k x'):Int)/\True)/\(aw (aa (UnX.D I)) (UnX.D I)++ [[ah (Wk J) (0
  :Nat) 0,ah (Wk J) 1 0,ah (Wk J) 2 0,ah (Wk J) 3 0]]=UnX.D x'/\(0:
  Nat)=0)/\(Zcj x)/\(Zck)/\True)\/∃(x':UnX),R ab x'/\x'.2+1<=I.2/\ac=ac/\(Zjs x I x')/\(Zcj x)/\(Zck)/\
  True)))/\(decide ((↑(UnX.k I):Int)<(↑(aa (bw x)):Int))=ab->((aM x==3)=ac->0+aa (UnX.D I)<=aa (UnX.D
  I)/\2<=aa (Zq I)/\∀(y:List Int×Bool),y=(ah (Zq I) 0 [],eq4 (ah (Zq I) 0 []) (ah
  (Zq I) 1 []))->4=4/\(Wj y o)/\(Wi y o))/\((aM x==3)=ab->((aM x==4)=ac->0+
  aa (UnX.D I)<=aa (UnX.D I)/\2<=aa (Zq I)/\∀(y:List Int×Bool),y=(ah (Zq I) 0 [],eq4 (ah
  (Zq I) 0 []) (ah (Zq I) 1 []))->4=4/\(Wj y o)/\(Wi y o))/\((aM x==4)=ab->((aM x==
  6)=ac->0+aa (UnX.D I)<=aa (UnX.D I)/\2<=aa (Zq I)/\∀(y:List Int×Bool),y=(ah (Zq
  I) 0 [],eq4 (ah (Zq I) 0 []) (ah (Zq I) 1 []))->4=4/\(Wj y o)/\(Wi y o))/\((aM x==
  6)=ab->((aM x==7)=ac->0+aa (UnX.D I)<=aa (UnX.D I)/\2<=aa (Zq I)/\∀(y:List Int×
  Bool),y=(ah (Zq I) 0 [],eq4 (ah (Zq I) 0 []) (ah (Zq I) 1 []))->4=4/\(Wj y o)/\
  (Wi y o))/\((aM x==7)=ab->((aM x==5)=ac->0+aa (UnX.D I)<=aa (UnX.D I)/\2<=aa
  (Zq I)/\∀(y:Option (List Int)),y=cmb 1 (ah (Zq I) 0 []) (ah (Zq I) 1 [])->4=4/\(Vq
  y o)/\(Vp y o))/\((aM x==5)=ab->((aM x==8)=ac->0+aa (UnX.D I)<=aa (UnX.D I)/\2<=
  aa (Zq I)/\∀(y:Option (List Int)),y=cmb (-1:Int) (ah (Zq I) 0 []) (ah (Zq I) 1 [])->4=4
  /\(Vq y o)/\(Vp y o))/\((aM x==8)=ab->((aM x==9)=ac->0+aa (UnX.D I)<=aa (UnX.D I)/\2
  <=aa (Zq I)/\∀(y:Option (List Int)),y=cmb (-1:Int) (ah (Zq I) 0 []) (ah (Zq I) 1 [])->4=(4:
  Nat)/\(Vq y o)/\(Vp y o))/\((aM x==9)=ab->((aM x==10)=ac->0+aa (UnX.D I)<=aa (UnX.D I)/\(2:
  Nat)<=aa (Zq I)/\∀(y:Option (List Int)),y=cmb (-1:Int) (ah (Zq I) 0 []) (ah (Zq I) 1 [])->4=(4
  :Nat)/\(Vq y o)/\(Vp y o))/\((aM x==10)=ab->((aM x==11)=ac->0+aa (UnX.D I)<=aa (UnX.D I)/\
  4<=aa (Zq I)/\∀(y:List Int×Bool),y=(ah (Zq I) 2 [],eq4 (ah (Zq I) 0 []) (ah (Zq
  I) 1 [])&&eq4 (ah (Zq I) 2 []) (ah (Zq I) 3 []))->4=4/\(Wj y o)/\(Wi y o))/\((aM x
  ==11)=ab->False)))))))))))/\∀(I:UnX),R ab I->(decide ((↑(UnX.k I):Int)<(↑(aa (bw x)):Int))=ac->0<=(↑(UnX.k I):
  Int)/\(↑(UnX.k I):Int)+1<=(↑(aa (bw x)):Int)/\∀(U:Ex),(bw x)[af (↑(UnX.k I):Int)]? =ae U->SV.pmap Xv=Wg/\(cW
  (Zai U)+1<=m/\Zn (Zai U)=ac)/\∀(J:Option (List Int)),J=Zaz (Zai U)->4=4/\((!cS J)=ac->
  4=4/\4=4/\(Ze4 o)/\ab=cS o/\True)/\((!cS J)=ab->4=4/\((∃(x':UnX),R ac x'
  /\x'.2+1<=I.2/\ac=ac/\((Xv=Xv/\ac=ac)/\0=0/\0=0/\(0=0/\1=aa
  (UnX.D x')/\True)/\(bw x=bw x/\(ab=ac->ab=ac))/\(↑(aa (bw x)):Int)=(↑(aa (bw x)):Int)/\wr ag ((↑(UnX.k I):Int)
  +1)=(↑(UnX.k x'):Int)/\True)/\([[ah (Wk J) 0 0,ah (Wk J) 1 0,ah (Wk J) 2
  0,ah (Wk J) 3 0]]=UnX.D x'/\0=0)/\(Zcj x)/\(Zck)/\True)\/∃(x':UnX),R ab x'/\x'.2+1<=
  I.2/\ac=ac/\(Zjs x I x')/\(Zcj x)/\(Zck)/\True)))/\(decide ((↑(UnX.k I):Int)<(↑(aa (bw x)):Int))=ab->((aM x==(3:
  Int))=ac->2<=0/\∀(y:List Int×Bool),y=(ah [] 0 [],eq4 (ah [] 0 []) (ah [] 1 []))->4=(4:
  Nat)/\(Wj y o)/\(Wi y o))/\((aM x==3)=ab->((aM x==4)=ac->2<=0/\∀(y:List Int×Bool),y=(ah [] (0
  :Nat) [],eq4 (ah [] 0 []) (ah [] 1 []))->4=4/\(Wj y o)/\(Wi y o))/\((aM x==4)=ab->((aM x
  ==6)=ac->2<=0/\∀(y:List Int×Bool),y=(ah [] 0 [],eq4 (ah [] 0 []) (ah [] 1 []))->4=
  4/\(Wj y o)/\(Wi y o))/\((aM x==6)=ab->((aM x==7)=ac->2<=0/\∀(y:List Int×Bool),y=(ah
  [] 0 [],eq4 (ah [] 0 []) (ah [] 1 []))->4=4/\(Wj y o)/\(Wi y o))/\((aM x==7)=ab->
  ((aM x==5)=ac->2<=0/\∀(y:Option (List Int)),y=cmb 1 (ah [] 0 []) (ah [] 1 [])->4=(4:
  Nat)/\(Vq y o)/\(Vp y o))/\((aM x==5)=ab->((aM x==8)=ac->2<=0/\∀(y:Option (List Int)),y=cmb (-1:Int)
  (ah [] 0 []) (ah [] 1 [])->4=4/\(Vq y o)/\(Vp y o))/\((aM x==8)=ab->((aM x==9)=
  ac->2<=0/\∀(y:Option (List Int)),y=cmb (-1:Int) (ah [] 0 []) (ah [] 1 [])->4=4/\(Vq y o)/\
  (Vp y o))/\((aM x==9)=ab->((aM x==10)=ac->2<=0/\∀(y:Option (List Int)),y=cmb (-1:Int) (ah [] (0:
  Nat) []) (ah [] 1 [])->4=4/\(Vq y o)/\(Vp y o))/\((aM x==10)=ab->((aM x==11)=ac->4<=
  0/\∀(y:List Int×Bool),y=(ah [] 2 [],eq4 (ah [] 0 []) (ah [] 1 [])&&eq4 (ah [] 2 []) (ah []
  3 []))->4=4/\(Wj y o)/\(Wi y o))/\((aM x==11)=ab->False))))))))))))
  ):=by kernel_rfl
--@end
theorem Yb3:∀k:Nat,k<16-> [[0,0,0,0],[0,0,0,0],[0,0,0,0],[0,0,0,0],[0,0,0,0],[0,0,0,1],[0,0,1,0],[0,1,0,0],[0,1,0,0],[0,0,0,0],[1,0,0,0],[1,0,0,0],[0,0,0,0],[0,0,0,0],[0,0,0,0],[0,0,0,0]][k]? =ae (Zum (k:Int)):=by decide
theorem Z6q{d:List Int} (h:Is4 d): [d.getD 0 0,d.getD 1 0,d.getD 2 0,d.getD 3 0]=d:=by
  obtain⟨a,b,c,e,rfl⟩:=h;rfl
theorem Zqz{l:List Ex} {k:Nat} {y:Ex} (h:l[k]? =ae y):Vj (l.drop k)=(Zaz y).bind λd=>(Vj (l.drop (k+1))).bind λI=>ae (d::I):=by rw[Z4 h,Vj]
def EqB(o:Option (List Int)) (b:Bool) (d:List Int):Prop:=(b=ab->(0=(o.getD [0,0,0,0]).getD 0 0/\0=(o.getD [0,0,0,0]).getD 1 0/\0=(o.getD [0,0,0,0]).getD 2 0/\0=(o.getD [0,0,0,0]).getD 3 0)/\ab=o.isSome)/\
  (b=ac->(d.getD 0 0=(o.getD [0,0,0,0]).getD 0 0/\d.getD 1 0=(o.getD [0,0,0,0]).getD 1 0/\d.getD 2 0=(o.getD [0,0,0,0]).getD 2 0/\d.getD 3 0=(o.getD [0,0,0,0]).getD 3 0)/\ac=o.isSome)
theorem Yb4{o:Option (List Int)} (h:o=au):(0=(o.getD [0,0,0,0]).getD 0 0/\0=(o.getD [0,0,0,0]).getD 1 0/\0=(o.getD [0,0,0,0]).getD 2 0/\0=(o.getD [0,0,0,0]).getD 3 0)/\ab=o.isSome:=by subst h;exact⟨⟨rfl,rfl,rfl,rfl⟩,rfl⟩
theorem Z6r{o:Option (List Int)} {b:Bool} {d:List Int} (I:b=ab->o=au) (J:b=ac->o=ae d):EqB o b d:=by
  refine⟨λh=>Yb4 (I h),λh=> ?_⟩;rw[J h];exact⟨⟨rfl,rfl,rfl,rfl⟩,rfl⟩
theorem Ym7{P:Prop} [Decidable P] {d:List Int}:EqB (if P then ae d else au) (decide P) d:=
  Z6r (λh=>by rw[jJ (by simpa using h)]) (λh=>by rw[jM (by simpa using h)])
theorem powB(o:Option (List Int)):EqB o o.isSome (o.getD [0,0,0,0]):=by
  cases o with
  |none=>exact Z6r (λ_=>rfl) (λh=>by simp at h)
  |some d=>exact Z6r (λh=>by simp at h) (λ_=>rfl)
theorem Yb5:∀(m:Nat),m<=1000000000->∀(x:Ex),x.sz<m->Zn x=ac->PureC E 40 [Wg,exA x] (optV (Zaz x)):=by
  intro m
  induction m with
  |zero=>intro _ x h;omega
  |succ m ih=>
    intro hb x hm hf;have hF:FnsOk E (Yiv m):=Yb8 E_ok (Zb Zqy (Zqx λx h=>ih (by omega) x h)) _ _ _;refine Za E_ok (Xs E_ok Zqy λf N c=>(Zgx E_ok hF 800 f N c).1) ?_;rw[Zz9];unfold Zjs Wk Vr Zai Zck Zcj Vq Wj Zq Wi Vp Ze4;have b9:=x.sz_eq;have b8:=Ex.szL_len x.l;obtain⟨⟨f1,f2,f3,f4,f5,f6,f7,f8,f9,b5⟩,b6,b0⟩:=(Ze2 x).1 hf
    simp only[Yl,Ya,Wu,Wv,Ww,ij,iz,fV,gp,fO,fG,bm,bI,bj,bY,aq,cI,cz,bp,iR,Y2,Yv,ne_eq,and_true,true_and,aP,aN,false_or,or_false,jW,ku,bZ,iU,jc,bB,dw,dI,cr,forall_eq',kz,eu,ff,aE,bn,cQ,cR,tn0,tn1,tn2,tn3,cj,av,gy,gA,gN,fC,cn4,cn16,gF,dW,aV]
    rw[Yc1];refine aC (λh1=> ?_) (λh1=>aC (λh2=>⟨by omega,by omega,λy hy=> ?_⟩) (λh2=> ?_))
    ·rw[jM h1]
     simp only[cZ,ju,Ex.u,cQ,cR,and_self]
    ·rw[jJ h1,jM h2]
     obtain⟨k,hk⟩:∃k:Nat,x.n=k:=⟨x.n.toNat,by omega⟩;rw[hk] at hy⊢;rw[bk,Yb3 k (by omega)] at hy;cases hy;simp only[cZ,ju,and_self]
    ·rw[jJ h1,jJ h2]
     refine⟨λs y=>(s=ac↔0<y.k)/\y.k<=x.l.length/\y.D.length=y.k/\Vj x.l=(Vj (x.l.drop y.k)).bind (λR=>ae (y.D++R))/\(∀d∈y.D,Is4 d)/\y.r=x.l.length-y.k,.inr ⟨⟨0,x.l.length,[]⟩,⟨by simp,(by dsimp only;omega),rfl,by simp,by simp,rfl⟩,rfl⟩,?_,?_⟩
     ·rintro y ⟨hs,hk,hD,I,h4,hr⟩
      have a2:=hs.1 rfl;refine aC (λhq=>⟨by omega,by omega,λz J=> ?_⟩) (λhq=> ?_)
      ·have J:x.l[y.k]? =ae z:=J
       rw[Zqz J] at I;have b2:=Ex.sz_mem (aL J);have a1:=formL_iff.1 b0 z (aL J);refine⟨rfl,⟨by omega,a1⟩,λho=> ?_,λho=> ?_⟩
       ·have:Vj x.l=none:=by rw[I,fQ.1 ho|>fW.1];rfl
        rw[this];exact Yb4 rfl
       ·obtain⟨d,hd⟩:=ga.1 ho
        have a0:=Zun z a1 hd;rw[hd] at I⊢;simp only[cZ,Z6q a0];refine⟨⟨by omega,by omega⟩,.inl ⟨⟨y.k+1,x.l.length-(y.k+1),y.D++ [d]⟩,⟨by simp,(by dsimp only;omega),by simp[hD],?_,?_,rfl⟩,(by dsimp only;omega),⟨by simp,wr64 (by omega) (by omega)⟩,rfl⟩⟩
        ·rw[I]
         simp only[fj];cases Vj (x.l.drop (y.k+1)) with
         |none=>rfl
         |some R=>simp
        ·intro e U
         rcases cf.1 U with U|U
         ·exact h4 e U
         ·rw[ct.1 U];exact a0
      ·rw[Zae (by omega)] at I
       have I:Vj x.l=ae y.D:=by rw[I,Vj];simp
       rw[I,fj];have hg:∀i,i<y.D.length->Is4 (y.D.getD i []):=λi hi=>by
         rw[bN,ao hi];exact h4 _ (iJ hi)
       have b7:y.D.length=x.l.length:=by omega
       have eqB:Ue x.op y.D=(if y.D.getD 0 []=y.D.getD 1 [] then ae (y.D.getD 0 []) else au)->2<=y.D.length->EqB (Ue x.op y.D) (eq4 (y.D.getD 0 []) (y.D.getD 1 [])) (y.D.getD 0 []):=by
         intro h1 h2;rw[h1,Zux (hg 0 (by omega)) (hg 1 (by omega))];exact Ym7
       refine aC (λa=>⟨by omega,by omega,eqB ?_ (by omega)⟩) (λa3=>aC (λa=>⟨by omega,by omega,eqB ?_ (by omega)⟩) (λa4=>aC (λa=>⟨by omega,by omega,eqB ?_ (by omega)⟩) (λa6=>aC (λa=>⟨by omega,by omega,eqB ?_ (by omega)⟩) (λa7=>aC (λa=>⟨by omega,by omega,?_⟩) (λa5=>aC (λa=>⟨by omega,by omega,?_⟩) (λa8=>aC (λa=>⟨by omega,by omega,?_⟩) (λa9=>aC (λa=>⟨by omega,by omega,?_⟩) (λb3=>aC (λa=>⟨by omega,by omega,?_⟩) (λb4=> ?_)))))))))
       ·unfold Ue;rw[jJ (by omega),jJ (by omega),jJ (by omega)]
       ·unfold Ue;rw[jJ (by omega),jJ (by omega),jJ (by omega)]
       ·unfold Ue;rw[jJ (by omega),jJ (by omega),jJ (by omega)]
       ·unfold Ue;rw[jJ (by omega),jJ (by omega),jJ (by omega)]
       ·have:Ue x.op y.D=cmb 1 (y.D.getD 0 []) (y.D.getD 1 []):=by unfold Ue;rw[jM a]
        rw[this];exact powB _
       ·have:Ue x.op y.D=cmb (-1) (y.D.getD 0 []) (y.D.getD 1 []):=by unfold Ue;rw[jJ (by omega),jM (by omega)]
        rw[this];exact powB _
       ·have:Ue x.op y.D=cmb (-1) (y.D.getD 0 []) (y.D.getD 1 []):=by unfold Ue;rw[jJ (by omega),jM (by omega)]
        rw[this];exact powB _
       ·have:Ue x.op y.D=cmb (-1) (y.D.getD 0 []) (y.D.getD 1 []):=by unfold Ue;rw[jJ (by omega),jM (by omega)]
        rw[this];exact powB _
       ·have:Ue x.op y.D=(if y.D.getD 0 []=y.D.getD 1 []/\y.D.getD 2 []=y.D.getD 3 [] then ae (y.D.getD 2 []) else au):=by unfold Ue;rw[jJ (by omega),jJ (by omega),jM a]
        rw[this];rw[Zux (hg 0 (by omega)) (hg 1 (by omega)),Zux (hg 2 (by omega)) (hg 3 (by omega))];refine aC (λh=> ?_) (λh=> ?_)
        ·rw[jJ (by
           rintro⟨p,q⟩;rcases h with h|h
           ·exact jm h p
           ·exact jm h q)]
         exact Yb4 rfl
        ·rw[jM ⟨jk h.1,jk h.2⟩]
         exact⟨⟨rfl,rfl,rfl,rfl⟩,rfl⟩
       ·omega
     ·rintro y ⟨hs,hk,hD,I,h4,hr⟩
      have a2:y.k=0:=by
        rcases Nat.eq_zero_or_pos y.k with h|h
        ·exact h
        ·have:=hs.2 h;simp at this
      have b1:y.D= []:=cH (by omega);refine aC (λhq=>⟨by omega,by omega,λz J=> ?_⟩) (λhq=> ?_)
      ·have J:x.l[y.k]? =ae z:=J
       rw[Zqz J] at I;have b2:=Ex.sz_mem (aL J);have a1:=formL_iff.1 b0 z (aL J);refine⟨rfl,⟨by omega,a1⟩,λho=> ?_,λho=> ?_⟩
       ·have:Vj x.l=none:=by rw[I,fQ.1 ho|>fW.1];rfl
        rw[this];exact Yb4 rfl
       ·obtain⟨d,hd⟩:=ga.1 ho
        have a0:=Zun z a1 hd;rw[hd] at I⊢;simp only[cZ,Z6q a0];rw[a2,b1] at I;refine .inl ⟨⟨1,x.l.length-1,[d]⟩,⟨by simp,(by dsimp only;omega),rfl,?_,?_,rfl⟩,(by dsimp only;omega),⟨rfl,by rw[a2];rfl⟩,rfl⟩
        ·rw[I]
         simp only[fj];show((Vj (x.l.drop (0+1))).bind λR=>ae (d::R)).bind (λR=>ae ([]++R))=(Vj (x.l.drop 1)).bind λR=>ae ([d]++R);cases Vj (x.l.drop (0+1)) with
         |none=>rfl
         |some R=>rfl
        ·intro e U
         rw[ct.1 U];exact a0
      ·omega
end
section
open Go
theorem Z1q:SumOk E 39 (sumO Znf):=Zsx E_ok (Zc (f:=39) rfl) λargs v h=>by
 unfold Znf at h;split at h
 ·cases h;exact Zzu
 ·cases h
theorem Z1r:SumOk E 40 (Zqw 1000000000):=Zqx λx h=>Yb5 _ (av _) x h
end
section
open Go
theorem q2{a b:Option (List Int)} {J I:Prop} (R:(a=au\/b=au)->J) (U:∀c d,a=ae c->b=ae d->I):∃Q:Bool->Prop,((a.isSome=ab->Q ac)/\(a.isSome=ac->Q (!b.isSome)))/\(Q ac->J)/\(Q ab->I):=by
 cases a with
 |none=>exact⟨λq=>q=ac,⟨λ_=>rfl,λh=>by simp at h⟩,λ_=>R (.inl rfl),λh=>(by cases h)⟩
 |some c=>
  cases b with
  |none=>exact⟨λq=>q=ac,⟨λh=>by simp at h,λ_=>rfl⟩,λ_=>R (.inr rfl),λh=>(by cases h)⟩
  |some d=>exact⟨λq=>q=ab,⟨λh=>by simp at h,λ_=>rfl⟩,λh=>(by cases h),λ_=>U c d rfl rfl⟩
end
section
open Go
def R3(d:List Int):Prop:=∃a b c e:Int,d= [a,b,c,e]/\(-3<=a/\a<=3)/\(-3<=b/\b<=3)/\(-3<=c/\c<=3)/\(-3<=e/\e<=3)
theorem Ynh{s:Int} {a b d:List Int} (h:cmb s a b=ae d):R3 d:=by
 unfold cmb at h;split at h
 ·rename_i I
  cases h;simp only[aq] at I;exact⟨_,_,_,_,rfl,(Zj9 _).1 I.1.1.1,(Zj9 _).1 I.1.1.2,(Zj9 _).1 I.1.2,(Zj9 _).1 I.2⟩
 ·cases h
theorem Yjf(n:Int):R3 (Zum n):=by
 unfold Zum;split
 ·exact⟨_,_,_,_,rfl,by decide,by decide,by decide,by decide⟩
 split
 ·exact⟨_,_,_,_,rfl,by decide,by decide,by decide,by decide⟩
 split
 ·exact⟨_,_,_,_,rfl,by decide,by decide,by decide,by decide⟩
 split<;>exact⟨_,_,_,_,rfl,by decide,by decide,by decide,by decide⟩
theorem Yni{a b c d:Int} (h:Zc0 [a,b,c,d]=ac):R3 [a,b,c,d]:=by
 rw[Zqu] at h;simp only[aq,jb,in1,fO] at h;exact⟨a,b,c,d,rfl,by omega,by omega,by omega,by omega⟩
theorem Yjg{op:Int} {J:List (List Int)} {d:List Int} (h:Ue op J=ae d) (R:∀i,i<(if op=11 then 4 else 2)->R3 (J.getD i [])):R3 d:=by
 unfold Ue at h;split at h
 ·exact Ynh h
 ·split at h
  ·exact Ynh h
  ·split at h
   ·rename_i I
    split at h
    ·cases h
     exact R 2 (by rw[jM I];omega)
    ·cases h
   ·rename_i I
    split at h
    ·cases h
     exact R 0 (by rw[jJ I];omega)
    ·cases h
mutual
theorem Z68:∀(x:Ex) {d:List Int},Zn x=ac->Zaz x=ae d->R3 d
 | .mk op n d0 d1 d2 d3 l,d,I,h=>by
  have a0:=(Ze2 _).1 I
  rw[Zaz] at h
  split at h
  ·cases h;exact Yni a0.2.1
  ·split at h
   ·cases h;exact Yjf n
   ·rename_i h1 h2
    obtain⟨U,R,h⟩:=Option.bind_eq_some_iff.1 h
    refine Yjg h λi hi=> ?_
    simp only[Zn,aq] at I
    have hl:=Z69 l I.2 R
    have a1:=Zj4 R
    have J:l.length=Zkz op:=by
     have:=I.1
     simp only[Ze9,aq,fO] at this
     exact this.1.1.2
    unfold Zkz at J
    rw[jJ (by omega)] at J
    have:i<U.length:=by rw[a1,J];exact hi
    rw[bN,ao this]
    exact hl _ (iJ this)
theorem Z69:∀(l:List Ex) {I:List (List Int)},Ux l=ac->Vj l=ae I->∀d∈I,R3 d
 | [],I,_,h=>by simp only[Vj] at h;cases h;simp
 |x::r,I,R,h=>by
  simp only[Ux,aq] at R
  obtain⟨d,a0,U,h2,rfl⟩:=unitL_cons.1 h
  intro e J
  rcases aH.1 J with rfl|J
  ·exact Z68 x R.1 U
  ·exact Z69 r R.2 h2 e J
end
end
section
open Go
end
section
open Go
end
section
open Go
end
section
open Go
end
section
open Go
noncomputable def dTar:DcL E (Tar×Unit):= .cons (dR .tariffs) .nil
structure KX where
 k:Nat
 r:Nat
def Ydx(t:Tar):Prop:=(∀c∈t.clauses,c.pay.sz<1000000000/\c.when_.length<1000000000000)/\t.clauses.length<1000000000000
noncomputable def Schk:Sum thy:=sumP dTar (λx=>Ydx x.1) λx=> .int ab .i64 (Z8 x.1)
theorem Yfx:SumOk E 34 Schk:=Yo E_ok (Zc (f:=34) rfl) λx h=>Zk9 _ (λc I=>⟨by have:=(h.1 c I).1;omega,(h.1 c I).2⟩) h.2
def intV(p:Int×Int):SV thy:= .tup [.int ab .i64 p.1,.int ab .i64 p.2]
noncomputable def Atck:Fr thy->Hp thy->Nat->Ann thy:=λT h i=>{X:=KX,fr:=λx=> [(4,T 4),(16,T 16),(17,T 17),(18,.int ab .i64 x.k)],bl:=λx=> [],src:=λ_=> [],md:= [],ih:=i,M:=i+40,meas:=λx=>x.r}
noncomputable def Ftck:Fns thy:=addL (addS (addS (addS F0 34 Schk) 39 (sumO Znf)) 40 (Zqw 1000000000)) 10 6 Atck E
theorem Yfy:FnsOk E Ftck:=Zm E_ok (Zb (Zb (Zb F0_ok Yfx) Z1q) Z1r) _ _ _
abbrev qDG4:=(0:Int)
abbrev qDG6(I:Option (List Int)):=(cB I [qDG4,qDG4,qDG4,qDG4])
abbrev qDG1(I:Option (List Int)):=(!(ah (qDG6 I) (0:Nat) qDG4==(1:Int)&&(ah (qDG6 I) (1:Nat) qDG4==qDG4&&(ah (qDG6 I) (2:Nat) qDG4==qDG4&&(ah (qDG6 I) (3:Nat) qDG4==qDG4&&ac)))))
abbrev qDG2(I:Cls):=(bV (aM (ay I)) (bX (ay I)) (bD (ay I)) (bE (ay I)) (bF (ay I)) (bG (ay I)) (bw (ay I)))
abbrev qDG3(I:Tar):=(↑(aa (ar I)):Int)
abbrev qDG5(I:KX):=(↑(KX.k I):Int)
theorem Z9i(t:Tar) (p:Int×Int):Zk E Ftck (vc E Ftck 400) 10 [tarA t] hp0 0 (λr=>ret E (patch hp0 0 r) r.v (intV p))=(
 ((∀(c:Cls),c∈ar t->cW (ay c)+1<=1000000000/\aa (aT c)+1<=1000000000000)/\aa (ar t)+1<=1000000000000)/\((Z8 t !=qDG4)=ac->qDG4=ak p/\Z8 t=aD p/\True)/\((Z8 t !=qDG4)=ab->∃(R:KX->Prop),(∃(x:KX),R x/\ac=ac/\((Xv=Xv/\ac=ac)/\(ar t=ar t/\(ab=ac->ab=ac))/\(qDG3 t)=(qDG3 t)/\qDG4=(qDG5 x)/\True)/\True)/\∀(x:KX),R x->(decide ((qDG5 x)<(qDG3 t))=ac->qDG4<=(qDG5 x)/\(qDG5 x)+1<=(qDG3 t)/\∀(I:Cls),(ar t)[af (qDG5 x)]? =ae I->SV.pmap Xv=Wg/\(cW (qDG2 I)+1<=1000000000/\Zn (qDG2 I)=ac)/\∀(o:Option (List Int)),o=Zaz (qDG2 I)->4=4/\((!cS o)=ac->(qDG5 x)=ak p/\170=aD p/\True)/\((!cS o)=ab->4=4/\((qDG1 o)=ac->(qDG5 x)=ak p/\170=aD p/\True)/\((qDG1 o)=ab->∃(J:KX),R J/\J.2+1<=x.2/\ac=ac/\((Xv=Xv/\ac=ac)/\(ar t=ar t/\(ab=ac->ab=ac))/\(qDG3 t)=(qDG3 t)/\wr ag ((qDG5 x)+1)=(qDG5 J)/\True)/\True)))/\(decide ((qDG5 x)<(qDG3 t))=ab->qDG4=ak p/\qDG4=aD p/\True))):=by kernel_rfl
def goU:Nat->List Cls->Int×Int
 |_,[]=>(0,0)
 |k,c::r=>if Zaz c.pay=ae [1,0,0,0] then goU (k+1) r else(k,170)
noncomputable def chkP(t:Tar):Int×Int:=if Z8 t=0 then goU 0 t.clauses else(0,Z8 t)
theorem Z21:∀(l:List Cls) (a b:Bool) (m:List (List Nat×Bool)),goC a b m l=0->∀c∈l,Wz c=ac
 | [],_,_,_,_,c,I=>by cases I
 |d::r,a,b,m,h,c,I=>by
  rw[Zee] at h
  split at h
  ·rename_i hd
   rcases aH.1 I with rfl|I
   ·exact hd
   ·exact Z21 r _ _ _ h c I
  ·cases h
theorem Z22{t:Tar} (h:Z8 t=0):∀c∈t.clauses,Zn c.pay=true:=λc I=>by
 unfold Z8 at h;split at h
 ·have:=Z21 _ _ _ _ h c I
  simp only[Wz,aq] at this;exact this.1.2
 ·cases h
theorem Z9j{l:List Cls} {k:Nat} {c:Cls} (h:l[k]? =ae c):goU k (l.drop k)=if Zaz c.pay=ae [1,0,0,0] then goU (k+1) (l.drop (k+1)) else((k:Int),170):=by rw[Z4 h,goU]
theorem Zms{p:Int×Int} {a b:Int} (h:p=(a,b)):a=p.1/\b=p.2:=by rw[h];exact⟨rfl,rfl⟩
theorem Z9k(t:Tar) (hs:Ydx t):PureC E 10 [tarA t] (intV (chkP t)):=by
 refine Za E_ok (Zd E_ok Yfy 400) ?_;rw[Z9i];delta qDG4 qDG6 qDG1 qDG2 qDG3 qDG5
 simp only[Yl,Ya,Wu,Wv,Ww,ij,iz,fV,gp,fO,fG,bm,bI,bj,bY,aq,cI,cz,bp,iR,Y2,Yv,ne_eq,and_true,true_and,aP,aN,false_or,or_false,jW,ku,bZ,iU,jc,bB,dw,dI,cr,forall_eq',kz,eu,ff,aE,bn,cQ,cR,tn0,tn1,tn2,tn3,cj,av,gy,gA,gN,fC,cn4,cn16,gF]
 have a7:=hs;obtain⟨a4,a9⟩:=a7;refine⟨⟨λc I=>aC (by have:=(a4 c I).1;omega) (by have:=(a4 c I).2;omega),by omega⟩,λh=>Zms (by unfold chkP;rw[jJ h]),λh=> ?_⟩;have e:chkP t=goU 0 t.clauses:=by unfold chkP;rw[jM h]
 refine⟨λx=>x.k+x.r=t.clauses.length/\chkP t=goU x.k (t.clauses.drop x.k),⟨⟨0,t.clauses.length⟩,⟨bq _,by rw[e];rfl⟩,rfl⟩,λx J=>⟨λhk=>⟨by omega,by omega,λc I=> ?_⟩,λhk=> ?_⟩⟩
 ·rw[bk] at I
  have hm:=aL I;have hf:=Z22 h c hm;have hd:=Z9j I;have a8:=a4 c hm;refine⟨rfl,⟨by omega,hf⟩,λU=> ?_,λU=> ?_⟩
  ·have hn:=fW.1 (fQ.1 U)
   exact Zms (by rw[J.2,hd,hn,jJ (by simp)])
  ·obtain⟨d,a5⟩:=ga.1 U
   obtain⟨a0,a1,a2,a3,rfl,_⟩:=Z68 c.pay hf a5;rw[a5] at hd⊢;simp only[cZ,cQ,cR]
   refine⟨λhn=>Zms (by
    have a6:¬ae [a0,a1,a2,a3]=ae [1,0,0,0]:=λhe=>by
     simp only[cr,List.cons.injEq,and_true] at he;omega
    rw[J.2,hd,jJ a6]),λR=>⟨⟨x.k+1,x.r-1⟩,⟨by dsimp only;omega,?_⟩,by dsimp only;omega,?_⟩⟩
   ·rw[J.2,hd,jM (by rw[R.1,R.2.1,R.2.2.1,R.2.2.2])]
   ·dsimp only
    exact(wr64 (by omega) (by omega)).trans (by omega)
 ·exact Zms (by rw[J.2,List.drop_of_length_le (by omega)];rfl)
end
section
def iOp(op:Int):Ins:=⟨op,0,0⟩
def iNN(op n:Int):Ins:=⟨op,n,0⟩
def cdN(op n:Int) (I:List (Nat->List Ins)) (o:Nat):List Ins:=
 if op=1 then[iNN 1 n] else if op=2 then[iNN 2 n] else
 let a:=I.getD 0 (λ_=> []) o
 let b:=I.getD 1 (λ_=> []) (o+a.length)
 if op=11 then
  let p:=o+a.length+b.length+2
  let c:=I.getD 2 (λ_=> []) p
  let q:=p+c.length+1
  let d:=I.getD 3 (λ_=> []) q
  a++b++iOp 11::iNN 13 q::(c++iNN 14 (q+d.length:Nat)::d)
 else a++b++ [iOp op]
mutual
def cdX:Ex->Nat->List Ins
 | .mk op n _ _ _ _ l=>cdN op n (cdL l)
def cdL:List Ex->List (Nat->List Ins)
 | []=> []
 |x::r=>cdX x::cdL r
end
def cdTs:Nat->List Tst->List Ins
 |_,[]=> []
 |e,w::r=>iNN 2 w.attr::⟨12,w.low,w.high⟩::iNN 13 e::cdTs e r
def cdC(c:Cls) (k o:Nat):List Ins:=
 let p:=cdX c.pay (o+3*c.when_.length)
 cdTs (o+3*c.when_.length+p.length+1) c.when_++p++ [iNN 15 k]
def cdCs:List Cls->Nat->Nat->List Ins
 | [],_,_=> []
 |c::r,k,o=>cdC c k o++cdCs r (k+1) (o+(cdC c k o).length)
def cdT(t:Tar):List Ins:=cdCs t.clauses 0 0++ [iOp 16]
theorem Wo:∀(e:Nat) (l:List Tst),(cdTs e l).length=3*l.length
 |_,[]=>rfl
 |e,w::r=>by simp[cdTs,Wo e r];omega
theorem Wp{len:Int}:∀{a b:List Ins} {i:Nat} {D I:List Int} {m J:Int},fromF len a i D m=ae (I,J)->fromF len (a++b) i D m=fromF len b (i+a.length) I J
 | [],b,i,D,I,m,J,h=>by cases h;rfl
 |x::r,b,i,D,I,m,J,h=>by
  unfold fromF at h
  rw[cd]
  conv=>lhs;unfold fromF
  cases R:rndF len i x D m with
  |none=>rw[R] at h;cases h
  |some p=>
   obtain⟨U,m1⟩:=p
   rw[R] at h
   have:=Wp (b:=b) (i:=i+1) h
   rw[aE,show i+(r.length+1)=i+1+r.length by omega]
   exact this
theorem Z5{D:List Int} {i k:Nat} {v:Int}:(D.set i v).getD k 0=if i=k/\k<D.length then v else D.getD k 0:=by
 rw[bN,List.getElem?_set,bN];by_cases h:i=k
 ·subst h
  by_cases I:i<D.length
  ·simp[I]
  ·simp[I]
 ·simp[h]
theorem Zfi{len:Nat} {i:Nat} {x:Ins} {D:List Int} {m d a:Int} (a1:D.length=len) (hi:i+1<len) (hd:D.getD i 0=d) (a0:0<=d) (U:(eff x.op).1<=d) (I:a=d-(eff x.op).1+(eff x.op).2)
 (a2:x.op≠13/\x.op≠14/\x.op≠15/\x.op≠16) (hn:D.getD (i+1) 0<0\/D.getD (i+1) 0=a):rndF len i x D m=ae (D.set (i+1) a,max (max m d) a):=by
 unfold rndF
 rw[hd,jJ (by omega),jJ (by omega)]
 have R:Zer i x= [(i:Int)+1]:=by
  unfold Zer
  rw[jJ (by omega),jJ (by omega),jJ (by omega)]
 rw[R,<-I]
 have e:((i:Int)+1).toNat=i+1:=by omega
 have J:setF len i a [(i:Int)+1] D=ae (D.set (i+1) a):=by
  unfold setF
  rw[e,jJ (by omega)]
  rfl
 rw[J]
theorem Ydh{len:Nat} {i e:Nat} {D:List Int} {m d:Int} (a1:D.length=len) (hi:i<e) (he:e<len) (hd:D.getD i 0=d) (a0:0<=d) (hn:D.getD e 0<0\/D.getD e 0=d):rndF len i (iNN 14 e) D m=ae (D.set e d,max m d):=by
 unfold rndF;have R:(iNN 14 (e:Int)).op=14:=rfl;have J:eff 14=(0,0):=rfl;rw[hd,jJ (by omega),R,J,jJ (by simp only;omega)];have hx:Zer i (iNN 14 e)= [(e:Int)]:=rfl;rw[hx];have I:((e:Int)).toNat=e:=by omega
 have U:setF len i (d-0+0) [(e:Int)] D=ae (D.set e d):=by
  unfold setF;rw[I,jJ (by omega),show d-0+0=d by omega];rfl
 rw[U];simp only[show d-0+0=d by omega]
 congr 2
 omega
theorem Zyb{len:Nat} {i q:Nat} {D:List Int} {m d:Int} (a1:D.length=len) (hi:i+1<q) (he:q<len) (hd:D.getD i 0=d+1) (a0:0<=d) (hn:D.getD q 0<0\/D.getD q 0=d) (a2:D.getD (i+1) 0<0\/D.getD (i+1) 0=d):
 rndF len i (iNN 13 q) D m=ae ((D.set q d).set (i+1) d,max m (d+1)):=by
 unfold rndF
 have U:(iNN 13 (q:Int)).op=13:=rfl
 have R:eff 13=(1,0):=rfl
 rw[hd,jJ (by omega),U,R,jJ (by simp only;omega)]
 have hx:Zer i (iNN 13 q)= [(q:Int),(i:Int)+1]:=rfl
 rw[hx]
 have I:((q:Int)).toNat=q:=by omega
 have J:((i:Int)+1).toNat=i+1:=by omega
 have hs:setF len i (d+1-1+0) [(q:Int),(i:Int)+1] D=ae ((D.set q d).set (i+1) d):=by
  unfold setF
  rw[I,jJ (by omega),show d+1-1+0=d by omega]
  unfold setF
  have:(D.set q d).getD (i+1) 0=D.getD (i+1) 0:=by rw[Z5,jJ (by omega)]
  rw[J,this,jJ (by omega)]
  rfl
 rw[hs]
 simp only[show d+1-1+0=d by omega]
 congr 2
 omega
def dpN(op:Int) (I:List Int):Int:=
 if op=1\/op=2 then 1 else if op=11 then max (max (I.getD 0 0) (1+I.getD 1 0)) (max (I.getD 2 0) (I.getD 3 0)) else max (I.getD 0 0) (1+I.getD 1 0)
mutual
def dpX:Ex->Int
 | .mk op _ _ _ _ _ l=>dpN op (dpL l)
def dpL:List Ex->List Int
 | []=> []
 |x::r=>dpX x::dpL r
end
def Arx(x:Ex):Prop:=1<=x.op/\x.op<=11/\x.l.length=if x.op=1\/x.op=2 then 0 else if x.op=11 then 4 else 2
theorem Z8l{x:Ex} (h:Zn x=ac):Arx x/\∀y∈x.l,Zn y=true:=by
 rw[Zcn,aq] at h;obtain⟨I,J⟩:=h;unfold Ze9 at I;simp only[aq,bm,fO] at I;obtain⟨⟨⟨⟨⟨⟨R,U⟩,k3⟩,k4⟩,k5⟩,k6⟩,k7⟩:=I;refine⟨⟨R,U,?_⟩,formL_iff.1 J⟩;rw[k5];unfold Zkz;rfl
def Ver(x:Ex):Prop:=∀⦃len o:Nat⦄ ⦃D:List Int⦄ ⦃m d:Int⦄,D.length=len->o+(cdX x o).length<len->D.getD o 0=d->0<=d->d<=m->(∀k,o<k->k<o+(cdX x o).length->D.getD k 0<0)->(D.getD (o+(cdX x o).length) 0<0\/D.getD (o+(cdX x o).length) 0=d+1)->
 ∃I:List Int,fromF len (cdX x o) o D m=ae (I,max m (d+dpX x))/\I.length=len/\I.getD (o+(cdX x o).length) 0=d+1/\∀k,o+(cdX x o).length<k->I.getD k 0=D.getD k 0
theorem Yp2{α:Type} {l:List α} (h:l.length=2):∃a b,l= [a,b]:=by
 match l,h with
 | [a,b],_=>exact⟨a,b,rfl⟩
theorem Yp3{α:Type} {l:List α} (h:l.length=4):∃a b c d,l= [a,b,c,d]:=by
 match l,h with
 | [a,b,c,d],_=>exact⟨a,b,c,d,rfl⟩
theorem Z1g{op n a b c d:Int} {l:List Ex} {o:Nat} (h:op=1\/op=2):cdX (.mk op n a b c d l) o= [iNN op n]:=by
 rw[cdX];unfold cdN;rcases h with rfl|rfl
 ·rw[jM rfl]
 ·rw[jJ (by decide),jM rfl]
theorem Z1h{op n a b c d:Int} {x y:Ex} {o:Nat} (I:3<=op) (J:op<=10):cdX (.mk op n a b c d [x,y]) o=cdX x o++cdX y (o+(cdX x o).length)++ [iOp op]:=by
 rw[cdX];unfold cdN;rw[jJ (by omega),jJ (by omega)];simp only[cdL,cQ,cR];rw[jJ (by omega)]
theorem Z1i{n a b c d:Int} {x y z w:Ex} {o:Nat} {p q:Nat} (I:p=o+(cdX x o).length+(cdX y (o+(cdX x o).length)).length+2) (J:q=p+(cdX z p).length+1):
 cdX (.mk 11 n a b c d [x,y,z,w]) o=cdX x o++cdX y (o+(cdX x o).length)++iOp 11::iNN 13 q::(cdX z p++iNN 14 (q+(cdX w q).length:Nat)::cdX w q):=by
 rw[cdX];unfold cdN
 rw[jJ (by decide),jJ (by decide)]
 simp only[cdL,cQ,cR]
 rw[jM jX,<-I,<-J]
theorem dp_1{op n a b c d:Int} {l:List Ex} (h:op=1\/op=2):dpX (.mk op n a b c d l)=1:=by
 rw[dpX];unfold dpN;rw[jM h]
theorem dp_2{op n a b c d:Int} {x y:Ex} (I:3<=op) (J:op<=10):dpX (.mk op n a b c d [x,y])=max (dpX x) (1+dpX y):=by
 rw[dpX];unfold dpN;rw[jJ (by omega),jJ (by omega)];simp only[dpL,cQ,cR]
theorem dp_4{n a b c d:Int} {x y z w:Ex}:dpX (.mk 11 n a b c d [x,y,z,w])=max (max (dpX x) (1+dpX y)) (max (dpX z) (dpX w)):=by
 rw[dpX];unfold dpN;rw[jJ (by decide),jM rfl];simp only[dpL,cQ,cR]
theorem W7{x:Ex} (h:Zn x=ac):(∃op n a b c d,x= .mk op n a b c d []/\(op=1\/op=2))\/(∃op n a b c d y z,x= .mk op n a b c d [y,z]/\3<=op/\op<=10/\Zn y=ac/\Zn z=ac)\/
 (∃n a b c d y z u v,x= .mk 11 n a b c d [y,z,u,v]/\Zn y=ac/\Zn z=ac/\Zn u=ac/\Zn v=ac):=by
 obtain⟨⟨R,U,I⟩,J⟩:=Z8l h
 obtain⟨op,n,a,b,c,d,l⟩:=x
 have R:1<=op:=R
 have U:op<=11:=U
 have I:l.length=if op=1\/op=2 then 0 else if op=11 then 4 else 2:=I
 have J:∀y∈l,Zn y=true:=J
 by_cases q:op=1\/op=2
 ·rw[jM q] at I
  obtain rfl:=cH I
  exact .inl ⟨op,n,a,b,c,d,rfl,q⟩
 ·rw[jJ q] at I
  by_cases q2:op=11
  ·rw[jM q2] at I
   obtain⟨y,z,u,v,rfl⟩:=Yp3 I
   subst q2
   exact .inr (.inr ⟨n,a,b,c,d,y,z,u,v,rfl,J y (.head _),J z (.tail _ (.head _)),J u (.tail _ (.tail _ (.head _))),J v (.tail _ (.tail _ (.tail _ (.head _))))⟩)
  ·rw[jJ q2] at I
   obtain⟨y,z,rfl⟩:=Yp2 I
   exact .inr (.inl ⟨op,n,a,b,c,d,y,z,rfl,by omega,by omega,J y (.head _),J z (.tail _ (.head _))⟩)
theorem sz_2{op n a b c d:Int} {y z:Ex}:(bV op n a b c d [y,z]).sz=1+y.sz+z.sz:=by rw[Ex.sz_eq];simp[bw,Ex.szL];omega
theorem sz_4{op n a b c d:Int} {y z u v:Ex}:(bV op n a b c d [y,z,u,v]).sz=1+y.sz+z.sz+u.sz+v.sz:=by rw[Ex.sz_eq];simp[bw,Ex.szL];omega
theorem Zfj:∀(k:Nat) (x:Ex),x.sz<=k->Zn x=ac->1<=dpX x
 |0,x,h,_=>by have:=x.sz_pos;omega
 |k+1,x,h,R=>by
  rcases W7 R with⟨op,n,a,b,c,d,rfl,q⟩|⟨op,n,a,b,c,d,y,z,rfl,U,q2,I,J⟩|⟨n,a,b,c,d,y,z,u,v,rfl,I,J,f3,f4⟩
  ·rw[dp_1 q];exact cj _
  ·rw[sz_2] at h
   have:=Zfj k y (by omega) I
   rw[dp_2 U q2];omega
  ·rw[sz_4] at h
   have:=Zfj k y (by omega) I
   rw[dp_4];omega
theorem Zkj:∀(k:Nat) (x:Ex),x.sz<=k->Zn x=ac->∀o,1<=(cdX x o).length
 |0,x,h,_=>by have:=x.sz_pos;omega
 |k+1,x,h,R=>by
  intro o
  rcases W7 R with⟨op,n,a,b,c,d,rfl,q⟩|⟨op,n,a,b,c,d,y,z,rfl,U,q2,I,J⟩|⟨n,a,b,c,d,y,z,u,v,rfl,I,J,f3,f4⟩
  ·rw[Z1g q];simp
  ·rw[Z1h U q2];simp;omega
  ·rw[Z1i rfl rfl];simp;omega
theorem Xo{len:Int} {i:Nat} {x:Ins} {D I:List Int} {m m':Int} (h:rndF len i x D m=ae (I,m')) (r:List Ins):fromF len (x::r) i D m=fromF len r (i+1) I m':=by
 conv=>lhs;unfold fromF
 rw[h]
theorem max8{m d a b c e K:Int} (ha:a<=K) (hb:1+b<=K) (hc:c<=K) (he:e<=K) (hK:K=a\/K=1+b\/K=c\/K=e) (pa:1<=a) (pb:1<=b):
 max (max (max (max (max (max (max (max m (d+a)) (d+1+b)) (d+1+1)) (d+1)) (d+1)) (d+c)) (d+1)) (d+e)=max m (d+K):=by
 apply Int.le_antisymm
 ·refine fg.2 ⟨fg.2 ⟨fg.2 ⟨fg.2 ⟨fg.2 ⟨fg.2 ⟨fg.2 ⟨fg.2 ⟨?_,?_⟩,?_⟩,?_⟩,?_⟩,?_⟩,?_⟩,?_⟩,?_⟩
  ·exact dJ _ _
  all_goals exact cu (by omega) (fD m (d+K))
 ·have I:=dJ (max (max (max (max (max (max (max m (d+a)) (d+1+b)) (d+1+1)) (d+1)) (d+1)) (d+c)) (d+1)) (d+e)
  have J:=dJ (max (max (max (max (max (max m (d+a)) (d+1+b)) (d+1+1)) (d+1)) (d+1)) (d+c)) (d+1)
  have R:=dJ (max (max (max (max (max m (d+a)) (d+1+b)) (d+1+1)) (d+1)) (d+1)) (d+c)
  have U:=dJ (max (max (max (max m (d+a)) (d+1+b)) (d+1+1)) (d+1)) (d+1)
  have e5:=dJ (max (max (max m (d+a)) (d+1+b)) (d+1+1)) (d+1)
  have e6:=dJ (max (max m (d+a)) (d+1+b)) (d+1+1)
  have e7:=dJ (max m (d+a)) (d+1+b)
  have e8:=dJ m (d+a)
  have f1:=fD (max (max (max (max (max (max (max m (d+a)) (d+1+b)) (d+1+1)) (d+1)) (d+1)) (d+c)) (d+1)) (d+e)
  have f3:=fD (max (max (max (max (max m (d+a)) (d+1+b)) (d+1+1)) (d+1)) (d+1)) (d+c)
  have f7:=fD (max m (d+a)) (d+1+b)
  have f8:=fD m (d+a)
  refine fg.2 ⟨?_,?_⟩
  ·exact(cu e8 (cu e7 (cu e6 (cu e5 (cu U (cu R (cu J I)))))))
  ·rcases hK with rfl|rfl|rfl|rfl
   ·exact(cu f8 (cu e7 (cu e6 (cu e5 (cu U (cu R (cu J I)))))))
   ·exact cu (show d+(1+b)<=d+1+b by omega) (cu f7 (cu e6 (cu e5 (cu U (cu R (cu J I))))))
   ·exact(cu f3 (cu J I))
   ·exact f1
theorem Z1j(a b c e:Int):∃K,max (max a (1+b)) (max c e)=K/\a<=K/\1+b<=K/\c<=K/\e<=K/\(K=a\/K=1+b\/K=c\/K=e):=⟨_,rfl,by omega,by omega,by omega,by omega,by omega⟩
theorem Zcu(m a:Int):∃K,max m a=K/\m<=K/\a<=K:=⟨_,rfl,by omega,by omega⟩
set_option maxHeartbeats 4000000 in
theorem Zd0:∀(k:Nat) (x:Ex),x.sz<=k->Zn x=ac->Ver x
 |0,x,h,_=>by have:=x.sz_pos;omega
 |k+1,x,h,hf=>by
  intro len o D m d a6 hl hd a0 b0 I U
  rcases W7 hf with⟨op,n,a,b,c,e,rfl,q⟩|⟨op,n,a,b,c,e,y,z,rfl,q1,q2,f1,f2⟩|⟨n,a,b,c,e,y,z,u,v,rfl,f1,f2,f3,f4⟩
  ·rw[Z1g q] at hl I U⊢
   rw[dp_1 q]
   have hl:o+1<len:=hl
   have U:D.getD (o+1) 0<0\/D.getD (o+1) 0=d+1:=U
   have a2:eff op=(0,1):=by unfold eff;rw[jM q]
   have hr:=Zfi (x:=iNN op n) (m:=m) a6 hl hd a0 (by show(eff op).1<=d;rw[a2];exact a0) (a:=d+1) (by show d+1=d-(eff op).1+(eff op).2;rw[a2];simp only;omega) (by show op≠13/\op≠14/\op≠15/\op≠16;omega) U
   refine⟨D.set (o+1) (d+1),?_,by rw[cJ];exact a6,?_,λj hj=> ?_⟩
   ·rw[Xo hr]
    show ae (_,_)=ae (_,_)
    congr 2
    omega
   ·show(D.set (o+1) (d+1)).getD (o+1) 0=_
    rw[Z5,jM ⟨rfl,by omega⟩]
   ·have hj:o+1<j:=hj
    rw[Z5,jJ (by omega)]
  ·rw[sz_2] at h
   have i1:=Zd0 k y (by omega) f1
   have i2:=Zd0 k z (by omega) f2
   have p1:=Zfj k y (by omega) f1
   have p2:=Zfj k z (by omega) f2
   rw[Z1h q1 q2] at hl I U⊢
   rw[dp_2 q1 q2]
   generalize R:cdX y o=A at*
   generalize hB:cdX z (o+A.length)=B at*
   simp only[az,aE,bn] at hl I U⊢
   obtain⟨D1,e1,l1,g1,k1⟩:=i1 (o:=o) (m:=m) a6 (by rw[R];omega) hd a0 b0 (λj h1 J=>I j h1 (by rw[R] at J;omega)) (.inl (I _ (by rw[R];have:=Zkj k y (by omega) f1 o;rw[R] at this;omega) (by rw[R];omega)))
   rw[R] at e1 g1 k1
   have pB:=Zkj k z (by omega) f2 (o+A.length)
   rw[hB] at pB
   obtain⟨D2,e2,l2,g2,k2⟩:=i2 (o:=o+A.length) (m:=max m (d+dpX y)) l1 (by rw[hB];omega) g1 (by omega) (by omega) (λj h1 J=>by rw[k1 j h1];exact I j (by omega) (by rw[hB] at J;omega)) (.inl (by rw[hB,k1 _ (by omega)];exact I _ (by omega) (by omega)))
   rw[hB] at e2 g2 k2
   have a2:eff op=(2,1):=by
    unfold eff
    rw[jJ (by omega),jJ (by omega),jJ (by omega),jJ (by omega)]
   have hr:=Zfi (x:=iOp op) (m:=max (max m (d+dpX y)) (d+1+dpX z)) l2 (by omega) g2 (by omega) (by show(eff op).1<=_;rw[a2];simp only;omega) (a:=d+1) (by show d+1=d+1+1-(eff op).1+(eff op).2;rw[a2];simp only;omega) (by show op≠13/\op≠14/\op≠15/\op≠16;omega)
    (by rw[k2 _ (by omega),k1 _ (by omega),show o+A.length+B.length+1=o+(A.length+B.length+(0+1)) by omega];exact U)
   refine⟨D2.set (o+A.length+B.length+1) (d+1),?_,by rw[cJ];exact l2,?_,λj hj=> ?_⟩
   ·rw[be,Wp e1,Wp e2,Xo hr]
    show ae (_,_)=ae (_,_)
    congr 2
    omega
   ·rw[Z5,jM ⟨by omega,by omega⟩]
   ·rw[Z5,jJ (by omega),k2 _ (by omega),k1 _ (by omega)]
  ·rw[sz_4] at h
   have i1:=Zd0 k y (by omega) f1
   have i2:=Zd0 k z (by omega) f2
   have i3:=Zd0 k u (by omega) f3
   have i4:=Zd0 k v (by omega) f4
   have p1:=Zfj k y (by omega) f1
   have p2:=Zfj k z (by omega) f2
   have p3:=Zfj k u (by omega) f3
   have p4:=Zfj k v (by omega) f4
   have pA:=Zkj k y (by omega) f1 o
   have pB:=Zkj k z (by omega) f2 (o+(cdX y o).length)
   obtain⟨p,hp⟩:∃p,p=o+(cdX y o).length+(cdX z (o+(cdX y o).length)).length+2:=⟨_,rfl⟩
   obtain⟨q,hq⟩:∃q,q=p+(cdX u p).length+1:=⟨_,rfl⟩
   have pC:=Zkj k u (by omega) f3 p
   have pE:=Zkj k v (by omega) f4 q
   rw[Z1i hp hq] at hl I U⊢
   rw[dp_4]
   generalize R:cdX y o=A at*
   generalize hB:cdX z (o+A.length)=B at*
   generalize hC:cdX u p=C at*
   generalize hE:cdX v q=F at*
   simp only[az,aE,bn] at hl I U⊢
   obtain⟨n0,hn⟩:∃n0,n0=A.length+B.length+(C.length+(F.length+1)+1+1):=⟨_,rfl⟩
   rw[<-hn] at hl I U⊢
   obtain⟨D1,e1,l1,g1,k1⟩:=i1 (o:=o) (m:=m) a6 (by rw[R];omega) hd a0 b0 (λj h1 J=>I j h1 (by rw[R] at J;omega)) (.inl (I _ (by rw[R];omega) (by rw[R];omega)))
   rw[R] at e1 g1 k1
   obtain⟨m1,hm1,b1,c7⟩:=Zcu m (d+dpX y)
   replace hm1:=PLift.up hm1
   rw[hm1.down] at e1
   obtain⟨D2,e2,l2,g2,k2⟩:=i2 (o:=o+A.length) (m:=m1) l1 (by rw[hB];omega) g1 (by omega) (by omega) (λj h1 J=>by rw[k1 j h1];exact I j (by omega) (by rw[hB] at J;omega)) (.inl (by rw[hB,k1 _ (by omega)];exact I _ (by omega) (by omega)))
   rw[hB] at e2 g2 k2
   obtain⟨m2,hm2,b2,c8⟩:=Zcu m1 (d+1+dpX z)
   replace hm2:=PLift.up hm2
   rw[hm2.down] at e2
   have b7:∀j,o+A.length+B.length<j->D2.getD j 0=D.getD j 0:=λj hj=>by rw[k2 j hj,k1 j (by omega)]
   have b3:=Zfi (x:=iOp 11) (m:=m2) l2 (by omega) g2 (by omega) (by show(2:Int)<=_;omega) (a:=d+1) (by show d+1=d+1+1-2+1;omega) (by decide) (.inl (by rw[b7 _ (by omega)];exact I _ (by omega) (by omega)))
   obtain⟨D3,a4⟩:∃D3,D3=D2.set (o+A.length+B.length+1) (d+1):=⟨_,rfl⟩
   rw[<-a4] at b3
   have l3:D3.length=len:=by rw[a4,cJ];exact l2
   have g3:D3.getD (o+A.length+B.length+1) 0=d+1:=by rw[a4,Z5,jM ⟨rfl,by omega⟩]
   have a8:∀j,o+A.length+B.length+1<j->D3.getD j 0=D.getD j 0:=λj hj=>by rw[a4,Z5,jJ (by omega),b7 j (by omega)]
   have a7:=Zyb (i:=o+A.length+B.length+1) (q:=q) (m:=max (max m2 (d+1+1)) (d+1)) l3 (by omega) (by omega) g3 a0 (.inl (by rw[a8 _ (by omega)];exact I _ (by omega) (by omega))) (.inl (by rw[a8 _ (by omega)];exact I _ (by omega) (by omega)))
   obtain⟨D4,a1⟩:∃D4,D4=(D3.set q d).set (o+A.length+B.length+1+1) d:=⟨_,rfl⟩
   rw[<-a1] at a7
   have l4:D4.length=len:=by rw[a1,cJ,cJ];exact l3
   have g4:D4.getD p 0=d:=by rw[a1,Z5,jM ⟨by omega,by rw[cJ];omega⟩]
   have b8:D4.getD q 0=d:=by rw[a1,Z5,jJ (by omega),Z5,jM ⟨rfl,by omega⟩]
   have a3:∀j,p<j->j≠q->D4.getD j 0=D.getD j 0:=λj hj d5=>by rw[a1,Z5,jJ (by omega),Z5,jJ (by omega),a8 j (by omega)]
   obtain⟨m4,hm4,b4,c9⟩:=Zcu (max (max m2 (d+1+1)) (d+1)) (d+1)
   clear b4
   replace hm4:=PLift.up hm4
   rw[hm4.down] at a7
   obtain⟨D5,e5,l5,g5,k5⟩:=i3 (o:=p) (m:=m4) l4 (by rw[hC];omega) g4 a0 (by omega) (λj h1 J=>by rw[a3 j h1 (by rw[hC] at J;omega)];exact I j (by omega) (by rw[hC] at J;omega)) (.inl (by rw[hC,a3 _ (by omega) (by omega)];exact I _ (by omega) (by omega)))
   rw[hC] at e5 g5 k5
   obtain⟨m5,hm5,b5,d4⟩:=Zcu m4 (d+dpX u)
   replace hm5:=PLift.up hm5
   rw[hm5.down] at e5
   have c6:D5.getD (q+F.length) 0<0\/D5.getD (q+F.length) 0=d+1:=by
    rw[k5 _ (by omega),a3 _ (by omega) (by omega),show q+F.length=o+n0 by omega];exact U
   have b6:=Ydh (i:=p+C.length) (e:=q+F.length) (m:=m5) l5 (by omega) (by omega) g5 (by omega) c6
   obtain⟨D6,a5⟩:∃D6,D6=D5.set (q+F.length) (d+1):=⟨_,rfl⟩
   rw[<-a5] at b6
   have l6:D6.length=len:=by rw[a5,cJ];exact l5
   have a9:∀j,q+F.length≠j->D6.getD j 0=D5.getD j 0:=λj hj=>by rw[a5,Z5,jJ (by omega)]
   have b9:D6.getD (q+F.length) 0=d+1:=by rw[a5,Z5,jM ⟨rfl,by omega⟩]
   have c0:D6.getD q 0=d:=by rw[a9 _ (by omega),k5 _ (by omega),b8]
   obtain⟨D7,e7,l7,g7,k7⟩:=i4 (o:=q) (m:=max m5 (d+1)) l6 (by rw[hE];omega) c0 a0 (by omega) (λj h1 J=>by rw[a9 _ (by rw[hE] at J;omega),k5 _ (by omega),a3 _ (by omega) (by omega)];exact I j (by omega) (by rw[hE] at J;omega)) (.inr (by rw[hE];exact b9))
   rw[hE] at e7 g7 k7
   refine⟨D7,?_,l7,by rw[show o+n0=q+F.length by omega];exact g7,λj hj=> ?_⟩
   ·rw[be,Wp e1,Wp e2,Xo b3,Xo a7,show o+A.length+B.length+1+1=p by omega,Wp e5,Xo b6,show p+C.length+1=q by omega,e7]
    obtain⟨K,hK,c1,c2,c3,c4,c5⟩:=Z1j (dpX y) (dpX z) (dpX u) (dpX v)
    rw[hK,<-hm5.down,<-hm4.down,<-hm2.down,<-hm1.down]
    rw[max8 c1 c2 c3 c4 c5 p1 p2]
   ·rw[k7 _ (by omega),a9 _ (by omega),k5 _ (by omega),a3 _ (by omega) (by omega)]
end
section
theorem Ypv{x:Ex} (h:Zn x=ac):Ver x:=Zd0 x.sz x (av _) h
theorem Zuy{x:Ex} (h:Zn x=ac):1<=dpX x:=Zfj x.sz x (av _) h
theorem Ykb{x:Ex} (h:Zn x=ac) (o:Nat):1<=(cdX x o).length:=Zkj x.sz x (av _) h o
theorem Zlz{len:Int}:∀{r:List Ins} {i:Nat} {D:List Int} {m:Int},(∀k,i<=k->k<i+r.length->D.getD k 0<0)->fromF len r i D m=ae (D,m)
 | [],i,D,m,_=>rfl
 |x::r,i,D,m,h=>by
  have I:rndF len i x D m=ae (D,m):=by
   unfold rndF
   rw[jM (h i (av _) (by rw[aE];omega))]
  rw[Xo I]
  exact Zlz λk J R=>h k (by omega) (by rw[aE];omega)
theorem Ye2{len e:Nat}:∀{ws:List Tst} {o:Nat} {D:List Int} {m:Int},D.length=len->o+3*ws.length<e->e<len->0<=m->D.getD o 0=0->(∀k,o<k->k<e->D.getD k 0<0)->(D.getD e 0<0\/D.getD e 0=0)->
 ∃I:List Int,fromF len (cdTs e ws) o D m=ae (I,if ws= [] then m else max m 1)/\I.length=len/\I.getD (o+3*ws.length) 0=0/\I.getD e 0=(if ws= [] then D.getD e 0 else 0)/\∀k,o+3*ws.length<k->k≠e->I.getD k 0=D.getD k 0
 | [],o,D,m,h1,h2,h3,hm,h4,h5,h6=>⟨D,rfl,h1,h4,rfl,λ_ _ _=>rfl⟩
 |w::ws,o,D,m,h1,h2,h3,hm,h4,h5,h6=>by
  rw[aE] at h2⊢
  have r1:=Zfi (x:=iNN 2 w.attr) (m:=m) h1 (show o+1<len by omega) h4 (by decide) (by show 0<=0;decide) (a:=1) (by show 1=0-0+1;decide) (by show 2≠13/\2≠14/\2≠15/\2≠16;decide) (.inl (h5 (o+1) (by omega) (by omega)))
  obtain⟨J,a1⟩:∃J,J=D.set (o+1) 1:=⟨_,rfl⟩
  rw[<-a1] at r1
  have l1:J.length=len:=by rw[a1,cJ];exact h1
  have g1:J.getD (o+1) 0=1:=by rw[a1,Z5,jM ⟨rfl,by omega⟩]
  have k1:∀k,o+1<k->J.getD k 0=D.getD k 0:=λk hk=>by rw[a1,Z5,jJ (by omega)]
  have r2:=Zfi (x:=(⟨12,w.low,w.high⟩:Ins)) (m:=max (max m 0) 1) l1 (show o+1+1<len by omega) g1 (by decide) (by show 1<=1;decide) (a:=1) (by show 1=1-1+1;decide) (by show 12≠13/\12≠14/\12≠15/\12≠16;decide) (.inl (by rw[k1 _ (by omega)];exact h5 _ (by omega) (by omega)))
  obtain⟨R,a2⟩:∃R,R=J.set (o+1+1) 1:=⟨_,rfl⟩
  rw[<-a2] at r2
  have l2:R.length=len:=by rw[a2,cJ];exact l1
  have g2:R.getD (o+1+1) 0=0+1:=by rw[a2,Z5,jM ⟨rfl,by omega⟩];rfl
  have k2:∀k,o+1+1<k->R.getD k 0=D.getD k 0:=λk hk=>by rw[a2,Z5,jJ (by omega),k1 k (by omega)]
  have r3:=Zyb (i:=o+1+1) (q:=e) (m:=max (max (max (max m 0) 1) 1) 1) l2 (by omega) h3 g2 (by decide) (by rw[k2 _ (by omega)];exact h6) (.inl (by rw[k2 _ (by omega)];exact h5 _ (by omega) (by omega)))
  obtain⟨U,a0⟩:∃U,U=(R.set e 0).set (o+1+1+1) 0:=⟨_,rfl⟩
  rw[<-a0] at r3
  have l3:U.length=len:=by rw[a0,cJ,cJ];exact l2
  have g3:U.getD (o+1+1+1) 0=0:=by rw[a0,Z5,jM ⟨rfl,by rw[cJ];omega⟩]
  have a3:U.getD e 0=0:=by rw[a0,Z5,jJ (by omega),Z5,jM ⟨rfl,by omega⟩]
  have k3:∀k,o+1+1+1<k->k≠e->U.getD k 0=D.getD k 0:=λk hk a4=>by rw[a0,Z5,jJ (by omega),Z5,jJ (by omega),k2 k (by omega)]
  have em:max (max (max (max (max m 0) 1) 1) 1) (0+1)=max m 1:=by omega
  rw[em] at r3
  obtain⟨I,f1,f2,f3,f4,f5⟩:=Ye2 (ws:=ws) (o:=o+1+1+1) (m:=max m 1) l3 (by omega) h3 (by omega) g3 (λk a b=>by rw[k3 k a (by omega)];exact h5 k (by omega) b) (.inr a3)
  refine⟨I,?_,f2,by rw[show o+3*(ws.length+1)=o+1+1+1+3*ws.length by omega];exact f3,?_,λk a b=>by rw[f5 k (by omega) b,k3 k (by omega) b]⟩
  ·show fromF len (iNN 2 w.attr::⟨12,w.low,w.high⟩::iNN 13 e::cdTs e ws) o D m=_
   rw[Xo r1,Xo r2,Xo r3,f1,jJ (kg w ws)]
   congr 2
   split<;>omega
  ·rw[f4,jJ (kg w ws)]
   split
   ·exact a3
   ·rfl
theorem Z8b(c:Cls) (k o:Nat):(cdC c k o).length=3*c.when_.length+(cdX c.pay (o+3*c.when_.length)).length+1:=by
 unfold cdC;simp only[az,Wo,aE,bn]
theorem Ypw{len:Nat} {c:Cls} {i o:Nat} {D:List Int} {m:Int} (hf:Zn c.pay=ac) (h1:D.length=len) (h2:o+(cdC c i o).length<len) (hm:0<=m) (h4:D.getD o 0=0) (I:∀k,o<k->k<=o+(cdC c i o).length->D.getD k 0<0):
 ∃R:List Int,fromF len (cdC c i o) o D m=ae (R,max m (dpX c.pay))/\R.length=len/\(if c.when_= [] then R.getD (o+(cdC c i o).length) 0<0 else R.getD (o+(cdC c i o).length) 0=0)/\∀k,o+(cdC c i o).length<k->R.getD k 0=D.getD k 0:=by
 have hp:=Zuy hf
 rw[Z8b] at h2 I⊢
 obtain⟨p,a0⟩:∃p,p=o+3*c.when_.length:=⟨_,rfl⟩
 have a4:=Ykb hf p
 unfold cdC
 rw[<-a0] at h2 I⊢
 simp only
 generalize U:cdX c.pay p=A at*
 obtain⟨e,he⟩:∃e,e=p+A.length+1:=⟨_,rfl⟩
 have a1:o+(3*c.when_.length+A.length+1)=e:=by omega
 rw[a1] at h2 I⊢
 rw[<-he]
 obtain⟨D1,f1,f2,f3,f4,f5⟩:=Ye2 (e:=e) (ws:=c.when_) (o:=o) (m:=m) h1 (by omega) h2 hm h4 (λk a b=>I k a (by omega)) (.inl (I e (by omega) (by omega)))
 have ge:D1.getD e 0<0\/D1.getD e 0=0:=by
  rw[f4]
  split
  ·exact .inl (I e (by omega) (by omega))
  ·exact .inr rfl
 rw[<-a0] at f3 f5
 obtain⟨J,a3,b1⟩:∃J,(if c.when_= [] then m else max m 1)=J/\(m<=J/\J<=max m 1):=⟨_,rfl,by split<;>omega⟩
 rw[a3] at f1
 obtain⟨D2,e2,l2,g2,k2⟩:=Ypv hf (o:=p) (m:=J) (d:=0) f2 (by rw[U];omega) f3 (by decide) (by omega) (λk a b=>by rw[f5 k a (by rw[U] at b;omega)];exact I k (by omega) (by rw[U] at b;omega)) (.inl (by rw[U,f5 _ (by omega) (by omega)];exact I _ (by omega) (by omega)))
 rw[U] at e2 g2 k2
 have r3:rndF len (p+A.length) (iNN 15 i) D2 (max J (0+dpX c.pay))=ae (D2,max (max (max J (0+dpX c.pay)) 1) 0):=by
  unfold rndF
  have ho:(iNN 15 (i:Int)).op=15:=rfl
  have a2:eff 15=(1,0):=rfl
  rw[g2,ho,a2,jJ (by decide),jJ (by decide)]
  have hx:Zer ((p+A.length:Nat):Int) (iNN 15 i)= []:=rfl
  rw[hx]
  rfl
 refine⟨D2,?_,l2,?_,λk hk=>by rw[k2 k (by omega),f5 k (by omega) (by omega)]⟩
 ·rw[be,Wp f1,Wo,<-a0,Wp e2,Xo r3]
  show ae (_,_)=ae (_,_)
  congr 2
  omega
 ·rw[k2 e (by omega),f4]
  split
  ·exact I e (by omega) (by omega)
  ·rfl
def dCs:List Cls->Int
 | []=>0
 |c::r=>if c.when_= [] then dpX c.pay else max (dpX c.pay) (dCs r)
theorem Z8c:∀{l:List Cls},(∀c∈l,Zn c.pay=ac)->0<=dCs l
 | [],_=>cj _
 |c::r,h=>by
  have:=Zuy (h c (by simp))
  unfold dCs
  split<;>omega
theorem Ye3{len:Nat}:∀{l:List Cls} {i o:Nat} {D:List Int} {m:Int},(∀c∈l,Zn c.pay=ac)->D.length=len->o+(cdCs l i o).length+1=len->0<=m->D.getD o 0=0->(∀k,o<k->k<len->D.getD k 0<0)->
 ∃D':List Int,fromF len (cdCs l i o++ [iOp 16]) o D m=ae (D',max m (dCs l))
 | [],i,o,D,m,I,h1,h2,hm,U,R=>by
  have r:rndF len o (iOp 16) D m=ae (D,max (max m 0) 0):=by
   unfold rndF
   have ho:(iOp 16).op=16:=rfl
   have a0:eff 16=(0,0):=rfl
   rw[U,ho,a0,jJ (by decide),jJ (by decide)]
   rfl
  refine⟨D,?_⟩
  show fromF len [iOp 16] o D m=_
  rw[Xo r]
  show ae (_,_)=ae (_,_)
  congr 2
  show max (max m 0) 0=max m 0
  omega
 |c::l,i,o,D,m,I,h1,h2,hm,U,R=>by
  have e0:cdCs (c::l) i o=cdC c i o++cdCs l (i+1) (o+(cdC c i o).length):=rfl
  rw[e0,az] at h2
  rw[e0,be]
  obtain⟨D1,f1,f2,J,f4⟩:=Ypw (i:=i) (o:=o) (m:=m) (I c (by simp)) h1 (by omega) hm U (λk a b=>R k a (by omega))
  have hd:=Zuy (I c (by simp))
  have a1:=Z8c (λd hd=>I d (aI _ hd))
  rw[Wp f1]
  unfold dCs
  by_cases hw:c.when_= []
  ·rw[jM hw] at J⊢
   refine⟨D1,Zlz λk a b=> ?_⟩
   rw[az,aE,bn] at b
   by_cases hk:k=o+(cdC c i o).length
   ·rw[hk];exact J
   ·rw[f4 k (by omega)];exact R k (by omega) (by omega)
  ·rw[jJ hw] at J⊢
   obtain⟨D2,e2⟩:=Ye3 (l:=l) (i:=i+1) (o:=o+(cdC c i o).length) (m:=max m (dpX c.pay)) (λd hd=>I d (aI _ hd)) f2 (by omega) (by omega) J (λk a b=>by rw[f4 k a];exact R k (by omega) b)
   refine⟨D2,?_⟩
   rw[e2]
   congr 2
   omega
theorem Ykc{x:Ex} (h:Zn x=ac):0<=x.n/\x.n<=Z0r x.op:=by
 rw[Zcn,aq] at h;have I:=h.1;unfold Ze9 at I;simp only[aq,bm,fO] at I;exact⟨I.1.1.1.1.2,I.1.1.1.2⟩
theorem Ykd{op:Int} (I:3<=op) (J:op<=11\/op=16):Yb (iOp op)=true:=by
 unfold Yb iOp;simp only;rw[jJ (by omega),jJ (by omega),jJ (by omega)];exact jq ⟨I,by omega,jX,jX⟩
theorem fm_n{op n:Int} (h:op=1\/op=13\/op=14\/op=15) (I:0<=n) (J:n<=9007199254740992):Yb (iNN op n)=true:=by
 unfold Yb iNN;simp only;rw[jM h];exact jq ⟨I,J,jX⟩
theorem fm_2{n:Int} (I:0<=n) (J:n<=15):Yb (iNN 2 n)=true:=by
 unfold Yb iNN;simp only;rw[jJ (by decide),jM jX];exact jq ⟨I,J,jX⟩
theorem Ypx{a b:Int} (I:0<=a) (J:a<=1099511627776) (R:0<=b) (U:b<=1099511627776):Yb ⟨12,a,b⟩=true:=by
 unfold Yb;simp only;rw[jJ (by decide),jJ (by decide),jM jX];simp only[fO];omega
theorem V9:∀(k:Nat) (x:Ex),x.sz<=k->Zn x=ac->∀o,o+(cdX x o).length<=9007199254740992->∀y∈cdX x o,Yb y=ac
 |0,x,h,_=>by have:=x.sz_pos;omega
 |k+1,x,h,hf=>by
  intro o R
  have J:=Ykc hf
  rcases W7 hf with⟨op,n,a,b,c,e,rfl,q⟩|⟨op,n,a,b,c,e,y,z,rfl,q1,q2,U,f2⟩|⟨n,a,b,c,e,y,z,u,v,rfl,U,f2,f3,f4⟩
  ·rw[Z1g q]
   intro w I
   rw[ct.1 I]
   have J:0<=n/\n<=Z0r op:=J
   rcases q with rfl|rfl
   ·have:n<=1099511627776:=J.2
    exact fm_n (.inl rfl) J.1 (by omega)
   ·exact fm_2 J.1 J.2
  ·rw[sz_2] at h
   rw[Z1h q1 q2] at R⊢
   simp only[az,aE,bn] at R
   intro w I
   rcases cf.1 I with I|I
   ·rcases cf.1 I with I|I
    ·exact V9 k y (by omega) U _ (by omega) w I
    ·exact V9 k z (by omega) f2 _ (by omega) w I
   ·rw[ct.1 I]
    exact Ykd q1 (.inl (by omega))
  ·rw[sz_4] at h
   obtain⟨p,hp⟩:∃p,p=o+(cdX y o).length+(cdX z (o+(cdX y o).length)).length+2:=⟨_,rfl⟩
   obtain⟨q,hq⟩:∃q,q=p+(cdX u p).length+1:=⟨_,rfl⟩
   rw[Z1i hp hq] at R⊢
   simp only[az,aE] at R
   intro w I
   rcases cf.1 I with I|I
   ·rcases cf.1 I with I|I
    ·exact V9 k y (by omega) U _ (by omega) w I
    ·exact V9 k z (by omega) f2 _ (by omega) w I
   ·rcases aH.1 I with rfl|I
    ·exact Ykd (by decide) (.inl (by decide))
    ·rcases aH.1 I with rfl|I
     ·exact fm_n (.inr (.inl rfl)) (by omega) (by omega)
     ·rcases cf.1 I with I|I
      ·exact V9 k u (by omega) f3 _ (by omega) w I
      ·rcases aH.1 I with rfl|I
       ·exact fm_n (.inr (.inr (.inl rfl))) (by omega) (by omega)
       ·exact V9 k v (by omega) f4 _ (by omega) w I
theorem Zka{e:Nat} (R:e<=9007199254740992):∀{ws:List Tst},(∀w∈ws,Ym w=ac)->∀y∈cdTs e ws,Yb y=ac
 | [],_,y,J=>by cases J
 |w::r,h,y,J=>by
  have I:=h w (.head _)
  unfold Ym at I
  have I:=jk I
  rcases aH.1 J with rfl|J
  ·exact fm_2 (by omega) (by omega)
  ·rcases aH.1 J with rfl|J
   ·exact Ypx I.2.2.1 I.2.2.2.1 I.2.2.2.2.1 I.2.2.2.2.2
   ·rcases aH.1 J with rfl|J
    ·exact fm_n (.inr (.inl rfl)) (by omega) (by omega)
    ·exact Zka R (λw I=>h w (.tail _ I)) y J
def ClOk(l:List Cls):Prop:=∀c∈l,Zn c.pay=ac/\∀w∈c.when_,Ym w=ac
theorem Zkb:∀{l:List Cls} {i o:Nat},ClOk l->o+(cdCs l i o).length<=9007199254740992->i+l.length<=9007199254740992->∀y∈cdCs l i o,Yb y=ac
 | [],i,o,_,_,_,y,I=>by cases I
 |c::r,i,o,h,J,hi,y,I=>by
  have R:cdCs (c::r) i o=cdC c i o++cdCs r (i+1) (o+(cdC c i o).length):=rfl
  rw[R] at J I
  rw[az] at J
  rw[aE] at hi
  have U:=Z8b c i o
  rcases cf.1 I with I|I
  ·unfold cdC at I
   simp only at I
   rcases cf.1 I with I|I
   ·rcases cf.1 I with I|I
    ·exact Zka (by omega) (h c (.head _)).2 y I
    ·exact V9 _ _ (av _) (h c (.head _)).1 _ (by omega) y I
   ·rw[ct.1 I]
    exact fm_n (.inr (.inr (.inr rfl))) (by omega) (by omega)
  ·exact Zkb (λd hd=>h d (.tail _ hd)) (by omega) (by omega) y I
theorem Zx0{c:List Ins} {k:Nat} (I:k<c.length):(deps c).getD k 0=if k=0 then 0 else-1:=by
 unfold deps;rw[Z5,gQ];by_cases h:k=0
 ·subst h;rw[jM ⟨rfl,I⟩,jM rfl]
 ·rw[jJ (by omega),jJ h,bN,List.getElem?_replicate,jM I];rfl
theorem Ydd{t:Tar} (h:ClOk t.clauses) (hn:t.clauses.length<=64):verF (cdT t)=if 4096<(cdT t).length\/64<dCs t.clauses then(0,2) else(dCs t.clauses,0):=by
 have hl:(cdT t).length=(cdCs t.clauses 0 0).length+1:=by unfold cdT;simp
 unfold verF;by_cases J:4096<(cdT t).length
 ·rw[jM J,jM (.inl J)]
 ·rw[jJ J]
  have hf:(cdT t).all Yb=true:=by
   rw[fL];intro y I;unfold cdT at I;rcases cf.1 I with I|I
   ·exact Zkb h (by omega) (by omega) y I
   ·rw[ct.1 I]
    exact Ykd (by decide) (.inr rfl)
  rw[jJ (by rw[hf];rintro(h|h)<;>first|omega|cases h)]
  have a0:(deps (cdT t)).length=(cdT t).length:=by unfold deps;simp
  obtain⟨D,e⟩:=Ye3 (len:=(cdT t).length) (l:=t.clauses) (i:=0) (o:=0) (D:=deps (cdT t)) (m:=0) (λc U=>(h c U).1) a0 (by omega) (cj _) (by rw[Zx0 (by omega),jM rfl]) (λk a b=>by rw[Zx0 b,jJ (by omega)];decide);have e:fromF ((cdT t).length:Nat) (cdT t) 0 (deps (cdT t)) 0=ae (D,max 0 (dCs t.clauses)):=e;rw[e];have hp:=Z8c (l:=t.clauses) λc U=>(h c U).1;unfold endF;simp only;rw[show max 0 (dCs t.clauses)=dCs t.clauses by omega];by_cases R:64<dCs t.clauses
  ·rw[jM R,jM (.inr R)]
  ·rw[jJ R,jJ (by omega)]
end
section
open Go
noncomputable def Scx(m:Nat):Sum thy:=sumB E dF dExp (λ(l:List Ins) x=>x.1.sz<m/\Zn x.1=ac/\l.length+(cdX x.1 l.length).length<=1000000000) λ(l:List Ins) x=>l++cdX x.1 l.length
noncomputable def Fcx(m:Nat):Fns thy:=addS F0 (79) (Scx m)
abbrev Zlo(I:Ex):=
 (bV (aM I) (bX I) (bD I) (bE I) (bF I) (bG I) (bw I))
abbrev Zlp(I:Ex):=
 (bV (aM I) (bX I) (bD I) (bE I) (bF I) (bG I) (bw I))
abbrev Zqj(I:Ex):=
 (bV (aM I) (bX I) (bD I) (bE I) (bF I) (bG I) (bw I))
abbrev Zqk(I:Ex):=
 (bV (aM I) (bX I) (bD I) (bE I) (bF I) (bG I) (bw I))
abbrev Z5n(I:List Ins) (l:List Ins) (fz:Nat) (J:Ex) (m:Nat):Prop:=
 aa I=aa I/\fzO (ae (l,fz))<=aa I/\cW (Zlp J)+(1:Nat)<=m/\Zn (Zlp J)=ac/\aa I+aa (cdX
 (Zlp J) (aa I))<=(1000000000:Nat)
abbrev Z5o(l:List Ins) (fz:Nat) (I:Ex) (m:Nat):Prop:=
 aa l=aa l/\fz<=aa l/\cW (Zlo I)+(1:Nat)<=m/\Zn (Zlo I)=ac/\aa l+aa (cdX (Zlo I) (aa
 l))<=(1000000000:Nat)
abbrev qDJ8:=(1:Nat)
abbrev qDJ1(I:List Ins):=(aa I+qDJ8)
abbrev qDJ2(I:List Ins):=(aa I)
abbrev qDJ3:=(0:Int)
abbrev qDJ4(I:Ex):=(↑(aa (bw I)):Int)
abbrev qDJ5(I:List Ins) (J:List Ins) (R:Nat):=(ae (I,fzO (ae (J,R))))
abbrev qDJ6:=(140737488355328:Nat)
abbrev qDJ7:=(1:Int)
theorem Ybc(m:Nat) (l:List Ins) (fz:Nat) (x:Ex) (l':List Ins):Zk E F0 (vc E (Fcx m) 400) 79 [.ptr 0 0,exA x] (hpP E dF (ae (l,fz))) 2 (prnK E dF (ae (l,fz)) l')=(
 ((aM x==qDJ7)=ac->(aa l<=aa l/\fz<=aa l/\(qDJ1 l)*24<=qDJ6)/\∀(J:List Ins),J=aw (qDJ2 l) l++ [dy qDJ7 (bX x) qDJ3]->J=l'/\aa l+qDJ8=aa l'/\fz=fzO (ae (l,fz)))/\((aM x==qDJ7)=ab->((aM x==2)=ac->(aa l<=aa l/\fz<=aa l/\(qDJ1 l)*24<=qDJ6)/\∀(J:List Ins),J=aw (qDJ2 l) l++ [dy 2 (bX x) qDJ3]->J=l'/\aa l+qDJ8=aa l'/\fz=fzO (ae (l,fz)))/\((aM x==2)=ab->((aM x==11)=ac->qDJ3<=qDJ3/\qDJ3+qDJ7<=(qDJ4 x)/\∀(a2:Ex),(bw x)[af qDJ3]? =ae a2->(Z5o l fz a2 m)/\∀(J:List Ins),J=l++cdX (Zlo a2) (qDJ2 l)->qDJ3<=qDJ7/\qDJ7+qDJ7<=(qDJ4 x)/\∀(a3:Ex),(bw x)[af qDJ7]? =ae a3->(Z5n J l fz a3 m)/\∀(I:List Ins),I=J++cdX (Zlp a3) (qDJ2 J)->(aa I<=aa I/\fzO (qDJ5 J l fz)<=aa I/\(qDJ1 I)*24<=qDJ6)/\∀(a4:List Ins),a4=aw (qDJ2 I) I++ [dy 11 qDJ3 qDJ3]->(aa I+qDJ8<=aa a4/\fzO (qDJ5 J l fz)<=aa I+qDJ8/\(aa I+qDJ8+qDJ8)*24<=qDJ6)/\∀(U:List Ins),U=aw (qDJ1 I) a4++ [dy 13 qDJ3 qDJ3]->qDJ3<=2/\2+qDJ7<=(qDJ4 x)/\∀(a5:Ex),(bw x)[af 2]? =ae a5->(aa I+qDJ8+qDJ8=aa U/\fzO (qDJ5 J l fz)<=aa U/\cW (Zqj a5)+qDJ8<=m/\Zn (Zqj a5)=ac/\aa U+aa (cdX (Zqj a5) (qDJ2 U))<=1000000000)/\∀(R:List Ins),R=U++cdX (Zqj a5) (qDJ2 U)->(aa R<=aa R/\fzO (ae (U,fzO (qDJ5 J l fz)))<=aa R/\(qDJ1 R)*24<=qDJ6)/\∀(a7:List Ins),a7=aw (qDJ2 R) R++ [dy 14 qDJ3 qDJ3]->(qDJ3<=(↑(qDJ1 I):Int)/\(↑(qDJ1 I):Int)+qDJ7<=(↑(qDJ1 R):Int))/\fzO (ae (U,fzO (qDJ5 J l fz)))<=0+af (↑(qDJ1 I):Int)/\0+af (↑(qDJ1 I):Int)+qDJ8<=aa a7/\∀(a8:Ins),a7[0+af (↑(qDJ1 I):Int)]? =ae a8->∀(a0:List Ins),a0=dx a7 (0+af (↑(qDJ1 I):Int)) (dy (dV a8) (↑(qDJ1 R):Int) (li a8))->qDJ3<=3/\3+qDJ7<=(qDJ4 x)/\∀(a6:Ex),(bw x)[af 3]? =ae a6->(aa R+qDJ8=aa a0/\fzO (ae (U,fzO (qDJ5 J l fz)))<=aa a0/\cW (Zqk a6)+qDJ8<=m/\Zn (Zqk a6)=ac/\aa a0+aa (cdX (Zqk a6) (qDJ2 a0))<=1000000000)/\∀(a1:List Ins),a1=a0++cdX (Zqk a6) (qDJ2 a0)->(qDJ3<=(↑(qDJ2 R):Int)/\(↑(qDJ2 R):Int)+qDJ7<=(↑(qDJ2 a1):Int))/\fzO (ae (a0,fzO (ae (U,fzO (qDJ5 J l fz)))))<=0+af (↑(qDJ2 R):Int)/\0+af (↑(qDJ2 R):Int)+qDJ8<=aa a1/\∀(x:Ins),a1[0+af (↑(qDJ2 R):Int)]? =ae x->∀(a9:List Ins),a9=dx a1 (0+af (↑(qDJ2 R):Int)) (dy (dV x) (↑(qDJ2 a1):Int) (li x))->a9=l'/\aa a1=aa l'/\fzO (ae (a0,fzO (ae (U,fzO (qDJ5 J l fz)))))=fzO (ae (l,fz)))/\((aM x==11)=ab->qDJ3<=qDJ3/\qDJ3+qDJ7<=(qDJ4 x)/\∀(a2:Ex),(bw x)[af qDJ3]? =ae a2->(Z5o l fz a2 m)/\∀(J:List Ins),J=l++cdX (Zlo a2) (qDJ2 l)->qDJ3<=qDJ7/\qDJ7+qDJ7<=(qDJ4 x)/\∀(a3:Ex),(bw x)[af qDJ7]? =ae a3->(Z5n J l fz a3 m)/\∀(I:List Ins),I=J++cdX (Zlp a3) (qDJ2 J)->
(aa I<=aa I/\fzO (qDJ5 J l fz)<=aa I/\(qDJ1 I)*24<=qDJ6)/\∀(a4:List Ins),a4=aw (qDJ2 I) I++ [dy (wr ag (wr ag (3+aM x)-3)) qDJ3 qDJ3]->a4=l'/\aa I+qDJ8=aa l'/\fzO (qDJ5 J l fz)=fzO (ae (l,fz)))))):=by kernel_rfl
abbrev Zlq(I:Ex):=
 (bV (aM I) (bX I) (bD I) (bE I) (bF I) (bG I) (bw I))
abbrev Zlr(I:Ex):=
 (bV (aM I) (bX I) (bD I) (bE I) (bF I) (bG I) (bw I))
abbrev Zql(I:Ex):=
 (bV (aM I) (bX I) (bD I) (bE I) (bF I) (bG I) (bw I))
abbrev Zqm(I:Ex):=
 (bV (aM I) (bX I) (bD I) (bE I) (bF I) (bG I) (bw I))
abbrev Z5p(I:List Ins) (J:Ex) (m:Nat):Prop:=
 aa I=aa I/\fzO (au:Option (List Ins×Nat))<=aa I/\cW (Zlr J)+(1:Nat)<=m/\Zn (Zlr J)=ac/\aa I
 +aa (cdX (Zlr J) (aa I))<=(1000000000:Nat)
abbrev Z5q(I:List Ins) (J:List Ins):Prop:=
 aa I<=aa I/\fzO (ae (J,fzO (au:Option (List Ins×Nat))))<=aa I/\(aa I+(1:Nat))*(24:Nat)<=(140737488355328
 :Nat)
abbrev Z5r(I:Ex) (m:Nat):Prop:=
 cW (Zlq I)+(1:Nat)<=m/\Zn (Zlq I)=ac/\(0:Nat)+aa (cdX (Zlq I) (0:Nat))<=(1000000000:Nat)
abbrev qDJ9:=(au:Option (List Ins×Nat))
abbrev qDJf:=(1:Nat)
abbrev qDJa(I:List Ins):=(↑(aa I+qDJf):Int)
abbrev qDJb:=(0:Int)
abbrev qDJc(I:Ex):=(↑(aa (bw I)):Int)
abbrev qDJd(I:List Ins):=(aa I)
abbrev qDJe:=(1:Int)
abbrev qDJg(I:List Ins):=(ae (I,fzO qDJ9))
abbrev qDJh:=(0:Nat)
theorem Ybd(m:Nat) (x:Ex) (l':List Ins):Zk E F0 (vc E (Fcx m) 400) 79 [.ptr 0 0,exA x] (hpP E dF au) 2 (prnK E dF au l')=(
 ((aM x==qDJe)=ac-> [dy qDJe (bX x) qDJb]=l'/\qDJf=aa l'/\qDJh=fzO qDJ9)/\((aM x==qDJe)=ab->((aM x==2)=ac-> [dy 2 (bX x) qDJb]=l'/\qDJf=aa l'/\qDJh=fzO qDJ9)/\((aM x==2)=ab->((aM x==11)=ac->qDJb<=qDJb/\qDJb+qDJe<=(qDJc x)/\∀(a2:Ex),(bw x)[af qDJb]? =ae a2->(Z5r a2 m)/\∀(J:List Ins),J= []++cdX (Zlq a2) qDJh->qDJb<=qDJe/\qDJe+qDJe<=(qDJc x)/\∀(a3:Ex),(bw x)[af qDJe]? =ae a3->(Z5p J a3 m)/\∀(I:List Ins),I=J++cdX (Zlr a3) (qDJd J)->(Z5q I J)/\∀(a4:List Ins),a4=aw (qDJd I) I++ [dy 11 qDJb qDJb]->(aa I+qDJf<=aa a4/\fzO (qDJg J)<=aa I+qDJf/\(aa I+qDJf+qDJf)*24<=140737488355328)/\∀(U:List Ins),U=aw (aa I+qDJf) a4++ [dy 13 qDJb qDJb]->qDJb<=2/\2+qDJe<=(qDJc x)/\∀(a5:Ex),(bw x)[af 2]? =ae a5->(aa I+qDJf+qDJf=aa U/\fzO (qDJg J)<=aa U/\cW (Zql a5)+qDJf<=m/\Zn (Zql a5)=ac/\aa U+aa (cdX (Zql a5) (qDJd U))<=1000000000)/\∀(R:List Ins),R=U++cdX (Zql a5) (qDJd U)->(aa R<=aa R/\fzO (ae (U,fzO (qDJg J)))<=aa R/\(aa R+qDJf)*24<=140737488355328)/\∀(a7:List Ins),a7=aw (qDJd R) R++ [dy 14 qDJb qDJb]->(qDJb<=(qDJa I)/\(qDJa I)+qDJe<=(qDJa R))/\fzO (ae (U,fzO (qDJg J)))<=qDJh+af (qDJa I)/\qDJh+af (qDJa I)+qDJf<=aa a7/\∀(a8:Ins),a7[qDJh+af (qDJa I)]? =ae a8->∀(a0:List Ins),a0=dx a7 (qDJh+af (qDJa I)) (dy (dV a8) (qDJa R) (li a8))->qDJb<=3/\3+qDJe<=(qDJc x)/\∀(a6:Ex),(bw x)[af 3]? =ae a6->(aa R+qDJf=aa a0/\fzO (ae (U,fzO (qDJg J)))<=aa a0/\cW (Zqm a6)+qDJf<=m/\Zn (Zqm a6)=ac/\aa a0+aa (cdX (Zqm a6) (qDJd a0))<=1000000000)/\∀(a1:List Ins),a1=a0++cdX (Zqm a6) (qDJd a0)->(qDJb<=(↑(qDJd R):Int)/\(↑(qDJd R):Int)+qDJe<=(↑(qDJd a1):Int))/\fzO (ae (a0,fzO (ae (U,fzO (qDJg J)))))<=qDJh+af (↑(qDJd R):Int)/\qDJh+af (↑(qDJd R):Int)+qDJf<=aa a1/\∀(x:Ins),a1[qDJh+af (↑(qDJd R):Int)]? =ae x->∀(a9:List Ins),a9=dx a1 (qDJh+af (↑(qDJd R):Int)) (dy (dV x) (↑(qDJd a1):Int) (li x))->a9=l'/\aa a1=aa l'/\fzO (ae (a0,fzO (ae (U,fzO (qDJg J)))))=fzO qDJ9)/\((aM x==11)=ab->qDJb<=qDJb/\qDJb+qDJe<=(qDJc x)/\∀(a2:Ex),(bw x)[af qDJb]? =ae a2->(Z5r a2 m)/\∀(J:List Ins),J= []++cdX (Zlq a2) qDJh->qDJb<=qDJe/\qDJe+qDJe<=(qDJc x)/\∀(a3:Ex),(bw x)[af qDJe]? =ae a3->(Z5p J a3 m)/\∀(I:List Ins),I=J++cdX (Zlr a3) (qDJd J)->(Z5q I J)/\∀(a4:List Ins),a4=aw (qDJd I) I++ [dy (wr ag (wr ag (3+aM x)-3)) qDJb qDJb]->a4=l'/\aa I+qDJf=aa l'/\fzO (qDJg J)=fzO qDJ9)))):=by kernel_rfl
theorem Zls(op n a b c d:Int) (l:List Ex):aM (.mk op n a b c d l)=op:=rfl
theorem Yma(op n a b c d:Int) (l:List Ex):bX (.mk op n a b c d l)=n:=rfl
theorem Ybe(op n a b c d:Int) (l:List Ex):bw (.mk op n a b c d l)=l:=rfl
theorem Ztx{α:Type} {A r:List α} {a x:α} {k:Nat} (I:k=A.length) (h:(A++a::r)[k]? =ae x):x=a:=by
 subst I
 simpa using h.symm
theorem Zty{α:Type} {A r:List α} {a b:α} {k:Nat} (I:k=A.length):(A++a::r).set k b=A++b::r:=by
 subst I;simp
theorem Ymb{n a b c d:Int} {x y z w:Ex} {l l1 U l3 I J l6 R l8 l9:List Ins} {i4 i8:Ins} (e1:l1=l++cdX x l.length) (e2:U=l1++cdX y l1.length) (e3:l3=U.take U.length++ [iOp 11])
 (e4:I=l3.take (U.length+1)++ [iOp 13]) (e5:J=I++cdX z I.length) (e6:l6=J.take J.length++ [iOp 14]) (g4:l6[U.length+1]? =ae i4) (e7:R=l6.set (U.length+1) (dy i4.op (↑(J.length+1):Int) i4.m))
 (e8:l8=R++cdX w R.length) (g8:l8[J.length]? =ae i8) (e9:l9=l8.set J.length (dy i8.op (↑l8.length:Int) i8.m)):
 l9=l++cdX (.mk 11 n a b c d [x,y,z,w]) l.length/\l8.length=(l++cdX (.mk 11 n a b c d [x,y,z,w]) l.length).length:=by
 have n1:l1.length=l.length+(cdX x l.length).length:=by rw[e1,az]
 have n2:U.length=l1.length+(cdX y l1.length).length:=by rw[e2,az]
 have e3:l3=U++ [iOp 11]:=by rw[e3,aV]
 have n3:l3.length=U.length+1:=by rw[e3];simp
 have e4:I=l3++ [iOp 13]:=by rw[e4,<-n3,aV]
 have n4:I.length=U.length+2:=by rw[e4];simp[n3]
 have n5:J.length=I.length+(cdX z I.length).length:=by rw[e5,az]
 have e6:l6=l3++iOp 13::(cdX z I.length++ [iOp 14]):=by rw[e6,aV,e5,e4];simp
 have h4:i4=iOp 13:=Ztx n3.symm (e6▸g4)
 subst h4
 have e7:R=l3++iNN 13 (↑(J.length+1):Int)::(cdX z I.length++ [iOp 14]):=by rw[e7,e6,Zty n3.symm];rfl
 have n7:R.length=J.length+1:=by rw[e7];simp;omega
 have a1:R=(l3++iNN 13 (↑(J.length+1):Int)::cdX z I.length)++ [iOp 14]:=by rw[e7];simp
 have nB:J.length=(l3++iNN 13 (↑(J.length+1):Int)::cdX z I.length).length:=by simp;omega
 generalize hB:l3++iNN 13 (↑(J.length+1):Int)::cdX z I.length=B at a1 nB
 have a0:l8=B++iOp 14::cdX w R.length:=by rw[e8];conv=>{lhs;lhs;rw[a1]};simp
 have h8:i8=iOp 14:=Ztx nB (a0▸g8)
 subst h8
 have n8:l8.length=R.length+(cdX w R.length).length:=by rw[e8,az]
 have e9:l9=B++iNN 14 (↑l8.length:Int)::cdX w R.length:=by
  have hs:=Zty (b:=iNN 14 (↑l8.length:Int)) (r:=cdX w R.length) (a:=iOp 14) nB
  rw[<-a0] at hs
  exact e9.trans hs
 have n9:l9.length=l8.length:=by rw[e9,a0];simp
 have a2:l9=l++cdX (.mk 11 n a b c d [x,y,z,w]) l.length:=by
  have a3:U=l++(cdX x l.length++cdX y l1.length):=by
   have:l1++cdX y l1.length=l++(cdX x l.length++cdX y l1.length):=by
    conv=>{lhs;lhs;rw[e1]}
    rw[be]
   exact e2.trans this
  rw[Z1i (p:=I.length) (q:=R.length) (by rw[n4,n2,n1]) (by rw[n7,n5]),<-n1,e9,<-hB,e3,a3,<-n8,<-n7]
  simp[be]
 exact⟨a2,by rw[<-a2,n9]⟩
theorem Yd6{n a b c d:Int} {x y z w:Ex} {o p q:Nat} (I:p=o+(cdX x o).length+(cdX y (o+(cdX x o).length)).length+2) (J:q=p+(cdX z p).length+1):
 o+(cdX (.mk 11 n a b c d [x,y,z,w]) o).length=q+(cdX w q).length:=by
 rw[Z1i I J]
 simp
 omega
def CxOk(m:Nat):Prop:=∀x:Ex×Unit,Ygi E 79 dF (dExp.enc x) (λ(l:List Ins)=>l++cdX x.1 l.length) (λ(l:List Ins)=>x.1.sz<m/\Zn x.1=ac/\l.length+(cdX x.1 l.length).length<=1000000000)
theorem Yd7{m:Nat} (h:CxOk m):SumOk E 79 (Scx m):=Zfv E_ok (Zc rfl) h
theorem Yd8{m:Nat} (h:CxOk m):FnsOk E (Fcx m):=Zb F0_ok (Yd7 h)
theorem bf{a b:Int} (h:a≠b):(a==b)=false:=by simp[h]
theorem Ymc{m:Nat} {l:List Ins} {fz:Nat} {x:Ex} (hf:fz<=l.length) (hs:x.sz<m+1) (hx:Zn x=ac) (I:l.length+(cdX x l.length).length<=1000000000):
 Zk E F0 (vc E (Fcx m) 400) 79 [.ptr 0 0,exA x] (hpP E dF (ae (l,fz))) 2 (prnK E dF (ae (l,fz)) (l++cdX x l.length)):=by
 rw[Ybc];delta qDJ8 qDJ1 qDJ2 qDJ3 qDJ4 qDJ5 qDJ6 qDJ7
 unfold Z5o Z5n Zqk Zqj Zlp Zlo
 simp only[gF]
 rcases W7 hx with⟨op,n,a,b,c,d,rfl,ho⟩|⟨op,n,a,b,c,d,y,z,rfl,h3,a3,fy,a0⟩|⟨n,a,b,c,d,y,z,u,v,rfl,fy,a0,fu,fv⟩
 ·rw[Z1g ho] at I⊢
  simp only[Zls,Yma,aV,fzO]
  have I:l.length+1<=1000000000:=I
  have key:∀k:Int,op=k->(l.length<=l.length/\fz<=l.length/\(l.length+1)*24<=140737488355328)/\∀a2:List Ins,a2=l++ [dy k n 0]->a2=l++ [iNN op n]/\l.length+1=(l++ [iNN op n]).length/\True:=by
   rintro k rfl
   refine⟨⟨av _,hf,by omega⟩,?_⟩
   rintro J rfl
   exact⟨rfl,by simp,jX⟩
  rcases ho with rfl|rfl
  ·exact⟨λ_=>key 1 rfl,λq=>by simp at q⟩
  ·exact⟨λq=>by simp at q,λ_=>⟨λ_=>key 2 rfl,λq=>by simp at q⟩⟩
 ·rw[sz_2] at hs
  rw[Z1h h3 a3] at I⊢
  simp only[Zls,Ybe]
  refine⟨λq=>ka q (by rw[bf (by omega)];simp),λ_=>⟨λq=>ka q (by rw[bf (by omega)];simp),λ_=>⟨λq=>ka q (by rw[bf (by omega)];simp),λ_=> ?_⟩⟩⟩
  simp only[az,aE,bn] at I
  refine⟨by decide,by simp,λx1 g1=> ?_⟩
  obtain rfl:y=x1:=by simpa using g1
  refine⟨⟨jX,hf,by omega,fy,by omega⟩,λJ e1=>⟨by decide,by simp,λx2 g2=> ?_⟩⟩
  obtain rfl:z=x2:=by simpa using g2
  have n1:J.length=l.length+(cdX y l.length).length:=by rw[e1,az]
  rw[<-n1] at I⊢
  have w1:fz<=J.length:=by omega
  refine⟨⟨jX,w1,by omega,a0,by omega⟩,λR e2=> ?_⟩
  have n2:R.length=J.length+(cdX z J.length).length:=by rw[e2,az]
  have w2:fz<=R.length:=by omega
  refine⟨⟨av _,w2,by omega⟩,λl3 U=> ?_⟩
  have wo:wr .i64 (wr .i64 (3+op)-3)=op:=by rw[wr64 (n:=3+op) (by omega) (by omega),wr64 (by omega) (by omega)];omega
  rw[wo,aV] at U
  have a1:l3=l++(cdX y l.length++cdX z J.length++ [iOp op]):=by rw[U,e2];conv=>{lhs;lhs;lhs;rw[e1]};simp[iOp]
  exact⟨a1,by rw[<-a1,U];simp,rfl⟩
 ·rw[sz_4] at hs
  simp only[Zls,Ybe]
  refine⟨λq=>ka q (by decide),λ_=>⟨λq=>ka q (by decide),λ_=>⟨λ_=> ?_,λq=>ka q (by decide)⟩⟩⟩
  rw[Yd6 rfl rfl] at I
  refine⟨by decide,by simp,λx1 g1=> ?_⟩
  obtain rfl:y=x1:=by simpa using g1
  have hb:l.length+(cdX y l.length).length<=1000000000:=by omega
  refine⟨⟨jX,hf,by omega,fy,hb⟩,λJ e1=>⟨by decide,by simp,λx2 g2=> ?_⟩⟩
  obtain rfl:z=x2:=by simpa using g2
  have n1:J.length=l.length+(cdX y l.length).length:=by rw[e1,az]
  rw[<-n1] at I
  have w1:fz<=J.length:=by omega
  refine⟨⟨jX,w1,by omega,a0,by omega⟩,λR e2=> ?_⟩
  have n2:R.length=J.length+(cdX z J.length).length:=by rw[e2,az]
  rw[<-n2] at I
  have w2:fz<=R.length:=by omega
  refine⟨⟨av _,w2,by omega⟩,λl3 U=> ?_⟩
  have n3:l3.length=R.length+1:=by rw[U];simp
  refine⟨⟨by omega,kh w2,by omega⟩,λl4 e4=>⟨by decide,by simp,λx3 g3=> ?_⟩⟩
  obtain rfl:u=x3:=by simpa using g3
  have n4:l4.length=R.length+2:=by rw[e4];simp;omega
  rw[<-n4] at I
  have w4:fz<=l4.length:=by omega
  refine⟨⟨n4.symm,w4,by omega,fu,by omega⟩,λl5 e5=> ?_⟩
  have n5:l5.length=l4.length+(cdX u l4.length).length:=by rw[e5,az]
  rw[<-n5] at I
  have w5:fz<=l5.length:=by omega
  refine⟨⟨av _,w5,by omega⟩,λl6 e6=>⟨⟨by omega,by omega⟩,?_⟩⟩
  have n6:l6.length=l5.length+1:=by rw[e6];simp
  have t1:0+af (↑(R.length+1):Int)=R.length+1:=by omega
  have t2:0+af (↑l5.length:Int)=l5.length:=by omega
  simp only[t1,t2]
  refine⟨(by omega:fz<=R.length+1),by omega,λi4 g4 l7 e7=>⟨by decide,by simp,λx4 gx=> ?_⟩⟩
  obtain rfl:v=x4:=by simpa using gx
  have n7:l7.length=l5.length+1:=by rw[e7,cJ,n6]
  rw[<-n7] at I
  have w7:fz<=l7.length:=by omega
  refine⟨⟨n7.symm,w7,by omega,fv,by omega⟩,λl8 e8=> ?_⟩
  have n8:l8.length=l7.length+(cdX v l7.length).length:=by rw[e8,az]
  refine⟨⟨by omega,by omega⟩,w5,by omega,λi8 g8 l9 e9=> ?_⟩
  obtain⟨r1,r2⟩:=Ymb (n:=n) (a:=a) (b:=b) (c:=c) (d:=d) e1 e2 U e4 e5 e6 g4 e7 e8 g8 e9
  exact⟨r1,r2,rfl⟩
theorem Ymd{m:Nat} {x:Ex} (hs:x.sz<m+1) (hx:Zn x=ac) (I:([]:List Ins).length+(cdX x ([]:List Ins).length).length<=1000000000):
 Zk E F0 (vc E (Fcx m) 400) 79 [.ptr 0 0,exA x] (hpP E dF au) 2 (prnK E dF au (([]:List Ins)++cdX x ([]:List Ins).length)):=by
 rw[Ybd];delta qDJ9 qDJf qDJa qDJb qDJc qDJd qDJe qDJg qDJh
 unfold Z5r Z5q Z5p Zqm Zql Zlr Zlq
 simp only[gF]
 rcases W7 hx with⟨op,n,a,b,c,d,rfl,ho⟩|⟨op,n,a,b,c,d,y,z,rfl,h3,a2,fy,a0⟩|⟨n,a,b,c,d,y,z,u,v,rfl,fy,a0,fu,fv⟩
 ·rw[Z1g ho] at I⊢
  simp only[Zls,Yma]
  rcases ho with rfl|rfl
  ·exact⟨λ_=>⟨rfl,rfl,rfl⟩,λq=>by simp at q⟩
  ·exact⟨λq=>by simp at q,λ_=>⟨λ_=>⟨rfl,rfl,rfl⟩,λq=>by simp at q⟩⟩
 ·rw[sz_2] at hs
  rw[Z1h h3 a2] at I⊢
  simp only[Zls,Ybe]
  refine⟨λq=>ka q (by rw[bf (by omega)];simp),λ_=>⟨λq=>ka q (by rw[bf (by omega)];simp),λ_=>⟨λq=>ka q (by rw[bf (by omega)];simp),λ_=> ?_⟩⟩⟩
  simp only[az,aE,bn] at I
  refine⟨by decide,by simp,λx1 g1=> ?_⟩
  obtain rfl:y=x1:=by simpa using g1
  refine⟨⟨by omega,fy,by omega⟩,λJ e1=>⟨by decide,by simp,λx2 g2=> ?_⟩⟩
  obtain rfl:z=x2:=by simpa using g2
  have n1:J.length=([]:List Ins).length+(cdX y ([]:List Ins).length).length:=by rw[e1,az];rfl
  rw[<-bn (α:=Ins),<-n1] at I
  rw[<-n1]
  have w1:0<=J.length:=by omega
  refine⟨⟨jX,w1,by omega,a0,by omega⟩,λR e2=> ?_⟩
  have n2:R.length=J.length+(cdX z J.length).length:=by rw[e2,az]
  have w2:0<=R.length:=by omega
  refine⟨⟨av _,w2,by omega⟩,λl3 U=> ?_⟩
  have wo:wr .i64 (wr .i64 (3+op)-3)=op:=by rw[wr64 (n:=3+op) (by omega) (by omega),wr64 (by omega) (by omega)];omega
  rw[wo,aV] at U
  have a1:l3=([]:List Ins)++(cdX y ([]:List Ins).length++cdX z J.length++ [iOp op]):=by rw[U,e2];conv=>{lhs;lhs;lhs;rw[e1]};simp[iOp]
  exact⟨a1,by rw[<-a1,U];simp,rfl⟩
 ·rw[sz_4] at hs
  simp only[Zls,Ybe]
  refine⟨λq=>ka q (by decide),λ_=>⟨λq=>ka q (by decide),λ_=>⟨λ_=> ?_,λq=>ka q (by decide)⟩⟩⟩
  rw[Yd6 rfl rfl] at I
  refine⟨by decide,by simp,λx1 g1=> ?_⟩
  obtain rfl:y=x1:=by simpa using g1
  have hb:([]:List Ins).length+(cdX y ([]:List Ins).length).length<=1000000000:=by omega
  refine⟨⟨by omega,fy,hb⟩,λJ e1=>⟨by decide,by simp,λx2 g2=> ?_⟩⟩
  obtain rfl:z=x2:=by simpa using g2
  have n1:J.length=([]:List Ins).length+(cdX y ([]:List Ins).length).length:=by rw[e1,az];rfl
  rw[<-n1] at I
  have w1:0<=J.length:=by omega
  refine⟨⟨jX,w1,by omega,a0,by omega⟩,λR e2=> ?_⟩
  have n2:R.length=J.length+(cdX z J.length).length:=by rw[e2,az]
  rw[<-n2] at I
  have w2:0<=R.length:=by omega
  refine⟨⟨av _,w2,by omega⟩,λl3 U=> ?_⟩
  have n3:l3.length=R.length+1:=by rw[U];simp
  refine⟨⟨by omega,kh w2,by omega⟩,λl4 e4=>⟨by decide,by simp,λx3 g3=> ?_⟩⟩
  obtain rfl:u=x3:=by simpa using g3
  have n4:l4.length=R.length+2:=by rw[e4];simp;omega
  rw[<-n4] at I
  have w4:0<=l4.length:=by omega
  refine⟨⟨n4.symm,w4,by omega,fu,by omega⟩,λl5 e5=> ?_⟩
  have n5:l5.length=l4.length+(cdX u l4.length).length:=by rw[e5,az]
  rw[<-n5] at I
  have w5:0<=l5.length:=by omega
  refine⟨⟨av _,w5,by omega⟩,λl6 e6=>⟨⟨by omega,by omega⟩,?_⟩⟩
  have n6:l6.length=l5.length+1:=by rw[e6];simp
  have t1:0+af (↑(R.length+1):Int)=R.length+1:=by omega
  have t2:0+af (↑l5.length:Int)=l5.length:=by omega
  simp only[t1,t2]
  refine⟨(by omega:0<=R.length+1),by omega,λi4 g4 l7 e7=>⟨by decide,by simp,λx4 gx=> ?_⟩⟩
  obtain rfl:v=x4:=by simpa using gx
  have n7:l7.length=l5.length+1:=by rw[e7,cJ,n6]
  rw[<-n7] at I
  have w7:0<=l7.length:=by omega
  refine⟨⟨n7.symm,w7,by omega,fv,by omega⟩,λl8 e8=> ?_⟩
  have n8:l8.length=l7.length+(cdX v l7.length).length:=by rw[e8,az]
  refine⟨⟨by omega,by omega⟩,w5,by omega,λi8 g8 l9 e9=> ?_⟩
  obtain⟨r1,r2⟩:=Ymb (l:= []) (n:=n) (a:=a) (b:=b) (c:=c) (d:=d) e1 e2 U e4 e5 e6 g4 e7 e8 g8 e9
  exact⟨r1,r2,rfl⟩
theorem Ztz:∀m,CxOk m
 |0=>λx=>⟨λl fz J I=>ka I.1 (by omega),λI=>ka I.1 (by omega)⟩
 |m+1=>λx=>⟨λl fz J I=>X4 E_ok (Xs E_ok F0_ok λf N c=>(Zgx E_ok (Yd8 (Ztz m)) 400 f N c).1) rfl (Ymc J I.1 I.2.1 I.2.2),
  λI=>X4 E_ok (Xs E_ok F0_ok λf N c=>(Zgx E_ok (Yd8 (Ztz m)) 400 f N c).1) rfl (Ymd I.1 I.2.1 I.2.2)⟩
end
section
open Go
def clB(c:Cls):SV thy:= .agg (encF ab .clauses c)
noncomputable def FclC:Fns thy:={addS F0 (79) (Scx 1000000000) with dfl:=20}
def Ybo(I:List Ins) (n F F1:Nat):List Nat->List Ins->Prop
 | [],L=>L=I/\n=I.length/\F=F1
 |p::r,L=>(0<=(↑p:Int)/\(↑p:Int)+1<=(↑n:Int))/\F<=0+af (↑p:Int)/\0+af (↑p:Int)+1<=L.length/\∀x:Ins,L[0+af (↑p:Int)]? =ae x->∀J:List Ins,J=L.set (0+af (↑p:Int)) (dy x.op (↑n:Int) x.m)->Ybo I n F F1 r J
def clX(c:Cls):Ex:=bV (aM c.pay) (bX c.pay) (bD c.pay) (bE c.pay) (bF c.pay) (bG c.pay) (bw c.pay)
def Yip(c:Cls) (k:Int) (R:List Ins) (F F1:Nat) (U:List Nat) (I:List Ins):Prop:=
 (I.length<=I.length/\F<=I.length/\(I.length+1)*24<=140737488355328)/\∀J:List Ins,J=I.take I.length++ [dy 15 k 0]->Ybo R (I.length+1) F F1 U J
def Z6g(c:Cls) (k:Int) (J:List Ins) (fz F1:Nat) (R:List Nat) (L:List Ins) (n:Nat):Prop:=
 (n=L.length/\fz<=L.length/\(clX c).sz+1<=1000000000/\Zn (clX c)=ac/\L.length+(cdX (clX c) L.length).length<=1000000000)/\∀I:List Ins,I=L++cdX (clX c) L.length->Yip c k J (fzO (ae (L,fz))) F1 R I
def Yiq(x:Tst) (fz:Nat) (J:List Ins) (n:Nat) (K:List Ins->Prop):Prop:=
 (n<=J.length/\fz<=n/\(n+1)*24<=140737488355328)/\∀I:List Ins,I=J.take n++ [dy 12 x.low x.high]->(n+1<=I.length/\fz<=n+1/\(n+1+1)*24<=140737488355328)/\∀R:List Ins,R=I.take (n+1)++ [dy 13 0 0]->K R
def Ybp(c:Cls) (k:Int) (R:List Ins) (fz F1:Nat):Nat->Nat->List Nat->List Ins->Nat->Prop
 |0,j,J,L,n=>(decide ((↑j:Int)<(↑c.when_.length:Int))=ac->0<=(↑j:Int)/\(↑j:Int)+1<=(↑c.when_.length:Int)/\∀x:Tst,c.when_[af (↑j:Int)]? =ae x->(n<=L.length/\fz<=n/\(n+1)*24<=140737488355328)/\∀I:List Ins,I=L.take n++ [dy 2 x.attr 0]->False)/\(decide ((↑j:Int)<(↑c.when_.length:Int))=ab->Z6g c k R fz F1 J L n)
 |f+1,j,J,L,n=>(decide ((↑j:Int)<(↑c.when_.length:Int))=ac->0<=(↑j:Int)/\(↑j:Int)+1<=(↑c.when_.length:Int)/\∀x:Tst,c.when_[af (↑j:Int)]? =ae x->(n<=L.length/\fz<=n/\(n+1)*24<=140737488355328)/\∀I:List Ins,I=L.take n++ [dy 2 x.attr 0]->
  Yiq x fz I (n+1) λU=>Ybp c k R fz F1 f (j+1) ((n+1+1)::J) U (n+1+1+1))/\(decide ((↑j:Int)<(↑c.when_.length:Int))=ab->Z6g c k R fz F1 J L n)
theorem Ybq(l:List Ins) (fz:Nat) (c:Cls) (k:Int) (I:List Ins):Zk E FclC (vc E FclC 400) 41 [.ptr 0 0,clB c,.int ab .i64 k] (hpP E dF (ae (l,fz))) 2 (prnK E dF (ae (l,fz)) I)=
 Ybp c k I fz (fzO (ae (l,fz))) 8 0 [] l l.length:=by kernel_rfl
theorem Ybr(c:Cls) (k:Int) (I:List Ins):Zk E FclC (vc E FclC 400) 41 [.ptr 0 0,clB c,.int ab .i64 k] (hpP E dF au) 2 (prnK E dF au I)=
 ((decide ((0:Int)<(↑c.when_.length:Int))=ac->(0:Int)<=0/\(0:Int)+1<=(↑c.when_.length:Int)/\∀x:Tst,c.when_[af 0]? =ae x->Yiq x 0 [dy 2 x.attr 0] 1 λR=>Ybp c k I 0 (fzO (au:Option (List Ins×Nat))) 7 1 [1+1] R (1+1+1))/\
  (decide ((0:Int)<(↑c.when_.length:Int))=ab->((clX c).sz+1<=1000000000/\Zn (clX c)=ac/\0+(cdX (clX c) 0).length<=1000000000)/\∀J:List Ins,J= []++cdX (clX c) 0->Yip c k I (fzO (au:Option (List Ins×Nat))) (fzO (au:Option (List Ins×Nat))) [] J)):=by kernel_rfl
theorem Ymw(c:Cls):clX c=c.pay:=gF c.pay
theorem Znm(e:Nat):∀a b:List Tst,cdTs e (a++b)=cdTs e a++cdTs e b
 | [],_=>rfl
 |x::r,b=>by simp[cdTs,Znm e r b]
def psOf(o:Nat):Nat->List Nat
 |0=> []
 |j+1=>(o+3*j+2)::psOf o j
theorem Zw2{l r:List Ins} {ws:List Tst} {n F:Nat} (hF:F<=l.length) (J:n=(l++cdTs n ws++r).length):∀(i:Nat) (L:List Ins),i<=ws.length->L=l++(cdTs 0 (ws.take i)++cdTs n (ws.drop i))++r->Ybo (l++cdTs n ws++r) n F F (psOf l.length i) L
 |0,L,_,h=>⟨by rw[h];simp[cdTs],J,rfl⟩
 |i+1,L,hi,h=>by
  have U:i<ws.length:=hi
  have hw:ws[i]? =ae ws[i]:=ao U
  have et:ws.take (i+1)=ws.take i++ [ws[i]]:=by rw[cA,hw];rfl
  have ed:ws.drop i=ws[i]::ws.drop (i+1):=cy U
  have tl:(cdTs 0 (ws.take i)).length=3*i:=by rw[Wo,bi];omega
  have nl:n=l.length+3*ws.length+r.length:=by rw[J];simp[Wo];omega
  have hp:0+af (↑(l.length+3*i+2):Int)=l.length+3*i+2:=by omega
  have R:l.length+3*i+2=(l++cdTs 0 (ws.take i)++ [iNN 2 ws[i].attr,⟨12,ws[i].low,ws[i].high⟩]).length:=by simp[tl];omega
  have I:L=(l++cdTs 0 (ws.take i)++ [iNN 2 ws[i].attr,⟨12,ws[i].low,ws[i].high⟩])++iNN 13 0::(cdTs n (ws.drop (i+1))++r):=by
   rw[h,et,Znm];simp[cdTs]
  unfold psOf Ybo
  rw[hp]
  refine⟨by omega,by omega,by rw[I];simp[tl];omega,λx hx L' e=> ?_⟩
  obtain rfl:x=iNN 13 0:=Ztx R (I▸hx)
  refine Zw2 hF J i L' (by omega) ?_
  rw[e,I,Zty R,ed]
  simp[cdTs,iNN]
theorem Zw3{c:Cls} {k:Nat} {l L:List Ins} {fz n:Nat} (hf:fz<=l.length) (hs:c.pay.sz+1<=1000000000) (hx:Zn c.pay=ac) (hl:l.length+(cdC c k l.length).length<=1000000000) (R:L=l++cdTs 0 c.when_) (hn:n=L.length):
 Z6g c ↑k (l++cdC c k l.length) fz fz (psOf l.length c.when_.length) L n:=by
 have U:L.length=l.length+3*c.when_.length:=by rw[R];simp[Wo]
 have cl:(cdC c k l.length).length=3*c.when_.length+(cdX c.pay (l.length+3*c.when_.length)).length+1:=by unfold cdC;simp[Wo];omega
 unfold Z6g
 rw[Ymw]
 refine⟨⟨hn,by omega,hs,hx,by rw[U];omega⟩,λJ I=> ?_⟩
 have n1:J.length=L.length+(cdX c.pay L.length).length:=by rw[I];simp
 rw[U] at n1 I
 have a0:fzO (ae (L,fz))=fz:=rfl
 unfold Yip
 rw[a0]
 refine⟨⟨av _,by omega,by omega⟩,λL2 e2=> ?_⟩
 have et:l++cdC c k l.length=l++cdTs (J.length+1) c.when_++(cdX c.pay (l.length+3*c.when_.length)++ [iNN 15 k]):=by
  unfold cdC
  rw[n1]
  simp
 rw[et]
 refine Zw2 hf ?_ c.when_.length L2 (av _) ?_
 ·simp[Wo];omega
 ·rw[e2,aV,I,R]
  simp[cdTs,iNN]
theorem Zw4{x:Tst} {fz n:Nat} {L A:List Ins} {K:List Ins->Prop} (U:L=A++ [iNN 2 x.attr]) (hn:n=L.length) (hf:fz<=n) (hb:n<=1000000000) (hk:K (A++cdTs 0 [x])):Yiq x fz L n K:=by
 subst hn;refine⟨⟨av _,hf,by omega⟩,λR I=> ?_⟩;rw[aV] at I;have n2:R.length=L.length+1:=by rw[I];simp
 refine⟨⟨by omega,by omega,by omega⟩,λL3 J=> ?_⟩;rw[<-n2,aV,I,U] at J;have:A++cdTs 0 [x]=L3:=by rw[J];simp[cdTs,iNN]
 exact this▸hk
theorem Znn{c:Cls} {k:Nat} {l:List Ins} {fz:Nat} (hf:fz<=l.length) (hs:c.pay.sz+1<=1000000000) (hx:Zn c.pay=ac) (hl:l.length+(cdC c k l.length).length<=1000000000) (h8:c.when_.length<=8):
 ∀(f j n:Nat) (L:List Ins),f+j=8->j<=c.when_.length->L=l++cdTs 0 (c.when_.take j)->n=L.length->Ybp c ↑k (l++cdC c k l.length) fz fz f j (psOf l.length j) L n
 |f,j,n,L,a1,hj,U,I=>by
  have tl:(cdTs 0 (c.when_.take j)).length=3*j:=by rw[Wo,bi];omega
  have nL:L.length=l.length+3*j:=by rw[U];simp[tl]
  have cl:(cdC c k l.length).length=3*c.when_.length+(cdX c.pay (l.length+3*c.when_.length)).length+1:=by unfold cdC;simp[Wo];omega
  have a0:decide ((↑j:Int)<(↑c.when_.length:Int))=ab->Z6g c ↑k (l++cdC c k l.length) fz fz (psOf l.length j) L n:=by
   intro q
   have q:=jm q
   obtain rfl:j=c.when_.length:=by omega
   exact Zw3 hf hs hx hl (by rw[U,aV]) I
  match f with
  |0=>exact⟨λq=>by have q:=jk q;omega,a0⟩
  |f+1=>
   refine⟨λq=> ?_,a0⟩
   have q:=jk q
   refine⟨by omega,by omega,λx R=>⟨⟨by omega,by omega,by omega⟩,λL1 J=> ?_⟩⟩
   have R:c.when_[j]? =ae x:=R
   rw[I,aV] at J
   have n1:L1.length=L.length+1:=by rw[J];simp
   refine Zw4 (A:=L) J (by omega) (by omega) (by omega) ?_
   have ep:(n+1+1)::psOf l.length j=psOf l.length (j+1):=by
    rw[I,nL];rfl
   rw[ep]
   refine Znn hf hs hx hl h8 f (j+1) (n+1+1+1) _ (by omega) (by omega) ?_ ?_
   ·rw[cA,R,Znm,<-be,<-U];rfl
   ·simp[cdTs,I]
theorem Ymx{c:Cls} {k:Nat} (U:c.pay.sz+1<=1000000000) (hx:Zn c.pay=ac) (R:([]:List Ins).length+(cdC c k ([]:List Ins).length).length<=1000000000) (h8:c.when_.length<=8):
 Zk E FclC (vc E FclC 400) 41 [.ptr 0 0,clB c,.int ab .i64 (↑k:Int)] (hpP E dF au) 2 (prnK E dF au (([]:List Ins)++cdC c k ([]:List Ins).length)):=by
 rw[Ybr]
 have r:=Znn (l:= []) (fz:=0) (av _) U hx R h8
 refine⟨λq=> ?_,λq=> ?_⟩
 ·have q:=jk q
  refine⟨by omega,by omega,λx I=>Zw4 (A:= []) rfl rfl (by omega) (by omega) ?_⟩
  have I:c.when_[0]? =ae x:=I
  refine r 7 1 3 _ rfl (by omega) ?_ rfl
  rw[cA,I];rfl
 ·have q:=jm q
  have w0:c.when_= []:=iZ.1 (by omega)
  obtain⟨⟨-,-,a1,a2,a3⟩,J⟩:=Zw3 (l:= []) (L:= []) (n:=0) (fz:=0) (k:=k) (av _) U hx R (by rw[w0];rfl) rfl
  rw[w0] at J
  exact⟨⟨a1,a2,a3⟩,J⟩
theorem Zno:FnsOk E FclC:=by
 have h:=Zb (F0_ok) (Yd7 (Ztz 1000000000));exact⟨h.sumG,h.fnG,h.sum,h.fn,h.loop⟩
def ClP(c:Cls) (k:Nat) (l:List Ins):Prop:=c.pay.sz+1<=1000000000/\Zn c.pay=ac/\l.length+(cdC c k l.length).length<=1000000000/\c.when_.length<=8
theorem Ymy{c:Cls} {k:Nat} {l:List Ins} {fz:Nat} (J:fz<=l.length) (I:ClP c k l):
 Zk E FclC (vc E FclC 400) 41 [.ptr 0 0,clB c,.int ab .i64 (↑k:Int)] (hpP E dF (ae (l,fz))) 2 (prnK E dF (ae (l,fz)) (l++cdC c k l.length)):=by
 rw[Ybq]
 exact Znn J I.1 I.2.1 I.2.2.1 I.2.2.2 8 0 _ l rfl (aW _) (by simp[cdTs]) rfl
theorem Ymz(c:Cls) (k:Nat):Ygi E 41 dF [clB c,.int ab .i64 (↑k:Int)] (λ(l:List Ins)=>l++cdC c k l.length) (λ(l:List Ins)=>ClP c k l):=
 ⟨λl fz J I=>X4 E_ok (Xs E_ok Zno λf N c=>(Zgx E_ok Zno 400 f N c).1) rfl (Ymy J I),
  λI=>X4 E_ok (Xs E_ok Zno λf N c=>(Zgx E_ok Zno 400 f N c).1) rfl (Ymx I.1 I.2.1 I.2.2.1 I.2.2.2)⟩
end
section
theorem Zva{x:Cls}:∀{l:List Cls} {i o:Nat},cdCs (l++ [x]) i o=cdCs l i o++cdC x (i+l.length) (o+(cdCs l i o).length)
 | [],i,o=>by
  show cdC x i o++ []= []++cdC x (i+0) (o+0)
  simp
 |c::r,i,o=>by
  have I:∀r,cdCs (c::r) i o=cdC c i o++cdCs r (i+1) (o+(cdC c i o).length):=λ_=>rfl
  rw[cd,I,I,Zva,be,az,aE]
  rw[show i+1+r.length=i+(r.length+1) by omega,show o+(cdC c i o).length+(cdCs r (i+1) (o+(cdC c i o).length)).length=o+((cdC c i o).length+(cdCs r (i+1) (o+(cdC c i o).length)).length) by omega]
end
section
open Go
theorem Zdu:∀(k:Nat) (x:Ex),x.sz<=k->Zn x=ac->∀o,(cdX x o).length<=3*x.sz
 |0,x,h,_=>by have:=x.sz_pos;omega
 |k+1,x,h,hf=>by
  intro o
  rcases W7 hf with⟨op,n,a,b,c,e,rfl,q⟩|⟨op,n,a,b,c,e,y,z,rfl,q1,q2,I,J⟩|⟨n,a,b,c,e,y,z,u,v,rfl,I,J,f3,f4⟩
  ·rw[Z1g q]
   have:=(bV op n a b c e []).sz_pos
   simp only[aE,bn]
   omega
  ·rw[sz_2] at h⊢
   rw[Z1h q1 q2]
   have R:=Zdu k y (by omega) I o
   have U:=Zdu k z (by omega) J (o+(cdX y o).length)
   simp only[az,aE,bn]
   omega
  ·rw[sz_4] at h⊢
   rw[Z1i rfl rfl]
   have R:=Zdu k y (by omega) I o
   have U:=Zdu k z (by omega) J (o+(cdX y o).length)
   generalize hp:o+(cdX y o).length+(cdX z (o+(cdX y o).length)).length+2=p
   have a3:=Zdu k u (by omega) f3 p
   generalize hq:p+(cdX u p).length+1=q
   have a4:=Zdu k v (by omega) f4 q
   simp only[az,aE,bn]
   omega
theorem Ym9{c:Cls} {m k o:Nat} (I:Zn c.pay=ac) (J:c.pay.sz<=m) (R:c.when_.length<=8):(cdC c k o).length<=3*m+25:=by
 unfold cdC;have:=Zdu c.pay.sz c.pay (av _) I (o+3*c.when_.length);simp only[az,Wo,aE,bn];omega
theorem Zw6{m:Nat}:∀{l:List Cls} {k o:Nat},(∀c∈l,Zn c.pay=ac/\c.pay.sz<=m/\c.when_.length<=8)->(cdCs l k o).length<=(3*m+25)*l.length
 | [],_,_,_=>aW _
 |c::r,k,o,h=>by
  have a:=Ym9 (k:=k) (o:=o) (h c bH).1 (h c bH).2.1 (h c bH).2.2
  have b:=Zw6 (l:=r) (k:=k+1) (o:=o+(cdC c k o).length) λx I=>h x (aI _ I)
  have e:(cdCs (c::r) k o).length=(cdC c k o).length+(cdCs r (k+1) (o+(cdC c k o).length)).length:=by
   show(cdC c k o++cdCs r (k+1) (o+(cdC c k o).length)).length=_
   rw[az]
  have J:(3*m+25)*(c::r).length=(3*m+25)*r.length+(3*m+25):=by rw[aE,Nat.mul_add,Nat.mul_one]
  omega
noncomputable def Yg(t:Tar):List Ins×Int:=if Z8 t=0 then(if 4096<(cdT t).length\/64<dCs t.clauses then([],2) else(cdT t,0)) else([],Z8 t)
def SmK(t:Tar):Prop:=(∀c∈t.clauses,c.pay.sz<=10000/\c.when_.length<1000000000)/\t.clauses.length<1000000000
theorem Zw7:∀{cs:List Cls} {s:List (List Nat)},CsOk s cs->∀c∈cs,Wz c=ac/\c.when_.length<=8
 |c::r,s,h,x,I=>by
  obtain⟨J,h2,h3,R,h5,U⟩:=h
  rcases aH.1 I with rfl|I
  ·exact⟨J,R⟩
  ·exact Zw7 U x I
theorem Yi0{t:Tar} (h:Z8 t=0):ClOk t.clauses/\t.clauses.length<=64/\∀c∈t.clauses,c.when_.length<=8:=by
 obtain⟨-,-,-,-,J,R⟩:=(V7 t).1 h;have a:=Zw7 R;exact⟨λc I=>(V8 (a c I).1).2,J,λc I=>(a c I).2⟩
end
section
open Go
noncomputable def dIV:Dc E Int:=dInt .i64
noncomputable def Yoc:DcL E (Int×Int×Int×Unit):= .cons dIV (.cons dIV (.cons dIV .nil))
abbrev qDN3(I:Int) (J:Int) (R:Bool):=(decide (mm2 ab I J>=0)=ac->(decide (mm2 ac I J<=9007199254740992)=ac->ac=R)/\(decide (mm2 ac I J<=9007199254740992)=ab->ab=R))
abbrev qDN4(I:Int) (J:Int) (R:Bool):=(decide (mm2 ab I J>=0)=ab->ab=R)
abbrev qDN1(J:Int) (I:Int) (R:Int) (d0:Bool):=((J==J&&(0==0&&(I==0&&ac)))=ac->(qDN3 R I d0)/\(qDN4 R I d0))
abbrev qDN2(I:Int) (J:Int) (R:Bool):=((I==I&&(0==0&&(J==0&&ac)))=ab->ab=R)
theorem Zop(op n m:Int) (b:Bool):Zk E F0 (vc E F0 400) 83 [.agg [.int ab .i64 op,.int ab .i64 n,.int ab .i64 m]] hp0 0 (λr=>ret E (patch hp0 0 r) r.v (.bool ab b))=(
 ∃(Q:Bool->Prop),((decide (op<1)=ac->Q ac)/\(decide (op<1)=ab->(decide (op>=17)=ac->Q ac)/\(decide (op>=17)=ab->Q ab)))/\(Q ac->ab=b)/\(Q ab->((op==1)=ac->(qDN1 op m n b)/\(qDN2 op m b))/\((op==1)=ab->((op==13)=ac->(qDN1 op m n b)/\(qDN2 op m b))/\((op==13)=ab->((op==14)=ac->(qDN1 op m n b)/\(qDN2 op m b))/\((op==14)=ab->((op==15)=ac->(qDN1 op m n b)/\(qDN2 op m b))/\((op==15)=ab->((op==2)=ac->((op==op&&(0==0&&(m==0&&ac)))=ac->(decide (mm2 ab n m>=0)=ac->(decide (mm2 ac n m<=15)=ac->ac=b)/\(decide (mm2 ac n m<=15)=ab->ab=b))/\(qDN4 n m b))/\(qDN2 op m b))/\((op==2)=ab->((op==12)=ac->((op==op&&(0==0&&(0==0&&ac)))=ac->(qDN3 n m b)/\(qDN4 n m b))/\((op==op&&(0==0&&(0==0&&ac)))=ab->ab=b))/\((op==12)=ab->((op==op&&(n==0&&(m==0&&ac)))=ac->(decide (mm2 ab n m>=0)=ac->(decide (mm2 ac n m<=0)=ac->ac=b)/\(decide (mm2 ac n m<=0)=ab->ab=b))/\(qDN4 n m b))/\((op==op&&(n==0&&(m==0&&ac)))=ab->ab=b))))))))):=by kernel_rfl
theorem Zoq(op:Int) (p q:Int):Zk E F0 (vc E F0 400) 85 [.int ab .i64 op] hp0 0 (λr=>ret E (patch hp0 0 r) r.v (.tup [.int ab .i64 p,.int ab .i64 q]))=(
((op==1)=ac->0=p/\1=q/\True)/\((op==1)=ab->((op==2)=ac->0=p/\1=q/\True)/\((op==2)=ab->((op==12)=ac->1=p/\1=q/\True)/\((op==12)=ab->((op==13)=ac->1=p/\0=q/\True)/\((op==13)=ab->((op==15)=ac->1=p/\0=q/\True)/\((op==15)=ab->((op==14)=ac->0=p/\0=q/\True)/\((op==14)=ab->((op==16)=ac->0=p/\0=q/\True)/\((op==16)=ab->2=p/\1=q/\True)))))))):=by kernel_rfl
theorem Zor(x:Ins):PureC E 83 [.agg [.int ab .i64 x.op,.int ab .i64 x.n,.int ab .i64 x.m]] (.bool ab (Yb x)):=by
 refine Za E_ok (Zd E_ok F0_ok 400) ?_;rw[Zop];delta qDN3 qDN4 qDN1 qDN2
 repeat' (first|exact Z2q _|apply Ydt|apply Ydu|(refine aC ?_ ?_)|(intro h))
 all_goals(try simp only[Yl,Ya,Wu,Wv,Ww,bm,bI,bj,bY,ij,iz,fV,fO,fG,aq,cI,cz,bp,iR,Y2,Yv,ne_eq,and_true,true_and,aP,aN,false_or,or_false,jW,bZ] at*)
 all_goals(try unfold Yb)
 all_goals(repeat' split)
 all_goals first|contradiction|omega|(symm;simp only[fO,fG];omega)
theorem Zos(op:Int):PureC E 85 [.int ab .i64 op] (.tup [.int ab .i64 (eff op).1,.int ab .i64 (eff op).2]):=by
 refine Za E_ok (Zd E_ok F0_ok 400) ?_;rw[Zoq];simp only[ij,iz,fV,fO,fG,aq,cI,cz,bp,iR,Y2,Yv,ne_eq,and_true,true_and,aP,aN,false_or,or_false,jW,bZ]
 repeat' (first|(refine aC ?_ ?_)|(intro h))
 all_goals(unfold eff;repeat' split)
 all_goals first|contradiction|omega|rfl
noncomputable def Yod:Dc E Ins:= .map (dAgg Yoc) (λx=>⟨x.1,x.2.1,x.2.2.1⟩) (λx=>(x.op,x.n,x.m,())) (λ_=>rfl)
noncomputable def Ykn:Dc E (List Ins):=(Zfr (E:=E) dF:Dc E (List (thy.dom dF)))
noncomputable def dL1V{α:Type} (d:Dc E α):DcL E (α×Unit):= .cons d .nil
noncomputable def dL2V{α I:Type} (d:Dc E α) (e:Dc E I):DcL E (α×I×Unit):= .cons d (dL1V e)
noncomputable def Z8r:Sum thy:=sumP (dL1V Yod) (λ_=>True) λx=> .bool ab (Yb x.1)
noncomputable def Yoe:Sum thy:=sumP (dL1V dIV) (λ_=>True) λx=> .tup [.int ab .i64 (eff x.1).1,.int ab .i64 (eff x.1).2]
noncomputable def F2V:Fns thy:=addS (addS F0 83 Z8r) 85 Yoe
theorem Yko:FnsOk E F2V:=by
 refine Zb (Zb F0_ok ?_) ?_
 ·exact Yo E_ok (Zc (f:=83) rfl) λx _=>Zor x.1
 ·exact Yo E_ok (Zc (f:=85) rfl) λx _=>Zos x.1
def A48V:Fr thy->Hp thy->Nat->Ann thy:=λT h i=>{X:=LX,fr:=λx=> [(0,T 0),(1,T 1),(7,T 7),(8,.int ab .i64 x.k)],bl:=λ_=> [],src:=λ_=> [],md:= [],ih:=i,M:=i+30,meas:=λx=>x.r}
def A32V:Fr thy->Hp thy->Nat->Ann thy:=λT h i=>{X:=LX,fr:=λx=> [(7,T 7),(8,.int ab .i64 x.k)],bl:=λx=> [(bOf (T 7),.rows .ints x.D 0)],src:=λ_=> [],md:= [bOf (T 7)],ih:=i,M:=i+30,meas:=λx=>x.r}
def A9V:Fr thy->Hp thy->Nat->Ann thy:=λT h i=>{X:=LX,fr:=λx=> [(0,T 0),(2,.int ab .i64 x.m),(4,T 4),(30,T 30),(31,T 31),(32,.int ab .i64 x.k)],bl:=λx=> [(bOf (T 4),.rows .ints x.D 0)],src:=λ_=> [],md:= [bOf (T 4)],ih:=i,M:=i+60,meas:=λx=>x.r}
def A9nV:Fr thy->Hp thy->Nat->Ann thy:=λT h i=>{X:=LX,fr:=λx=> [(0,T 0),(2,T 2),(4,T 4),(5,T 5),(10,T 10),(30,T 30),(31,T 31),(32,T 32),(110,T 110),(111,T 111),(112,.int ab .i64 x.k)],bl:=λx=>(bOf (T 4),.rows .ints x.D 0)::blkS h (T 110),src:=λ_=> [],md:= [bOf (T 4)],ih:=i,M:=i+20,meas:=λx=>x.r}
noncomputable def F3V:Fns thy:=addL (addL (addL (addL F2V 123 2 A48V E) 84 8 A32V E) 43 8 A9V E) 43 23 A9nV E
theorem Z1s:FnsOk E F3V:=Zm E_ok (Zm E_ok (Zm E_ok (Zm E_ok Yko _ _ _) _ _ _) _ _ _) _ _ _
theorem Zhq{y:Int} (R:0<=y) (h:y<4294967296):Zan .and .u64 y 4294967295=y:=by
 obtain⟨n,rfl⟩:=Int.eq_ofNat_of_zero_le R;have U:n<4294967296:=by omega
 have e:(dv 64 (n:Int)&&&dv 64 4294967295).toNat=n:=by
  rw[BitVec.toNat_and];have I:(dv 64 (n:Int)).toNat=n:=by
   rw[BitVec.toNat_ofInt];omega
  have J:(dv 64 4294967295).toNat=2^32-1:=by decide
  rw[I,J,Nat.and_two_pow_sub_one_eq_mod];omega
 show bR.wrap ((dv 64 (n:Int)&&&dv 64 4294967295).toNat:Int)=n;rw[e,jD];omega
theorem Z1t{n:Int} (I:0<=n) (J:n<18446744073709551616):wr .u64 n=n:=by simp only[wr,jD];omega
theorem Zkl{α:Type} {f:α->Bool} {l:List α} {k:Nat} {x:α} (h:l[k]? =ae x):(l.take (k+1)).all f=((l.take k).all f&&f x):=by
 obtain⟨I,rfl⟩:=ai.1 h;rw[List.take_succ_eq_append_getElem I,List.all_append,jb,List.all_nil,cI]
theorem Zot{α:Type} {f:α->Bool} {l:List α} {k:Nat} {x:α} (h:l[k]? =ae x) (I:f x=ab):l.all f=false:=by
 rw[iw];intro J;have:=(fL.1 J) x (aL h);rw[I] at this;cases this
abbrev qDN5:=(2^min (af 32) (fh bR))
abbrev qDN6(I:Int) (J:Int):=(wr bR (wr bR (eO I qDN5*Zan iq bR J 4294967295)+eO (wr bR (Zan iq bR I 4294967295*Zan iq bR J 4294967295)) qDN5))
theorem Zym(x y:Int) (p q:Int):Zk E F3V (vc E F3V 400) 125 [.int ab .u64 x,.int ab .u64 y] hp0 0 (λr=>ret E (patch hp0 0 r) r.v (.tup [.int ab .u64 p,.int ab .u64 q]))=(
 wr bR (wr bR (wr bR (eO x qDN5*eO y qDN5)+eO (qDN6 x y) qDN5)+eO (wr bR (Zan iq bR (qDN6 x y) 4294967295+wr bR (Zan iq bR x 4294967295*eO y qDN5))) qDN5)=p/\wr bR (x*y)=q/\True):=by kernel_rfl
abbrev qDN7(I:List Ins):=(↑(aa I):Int)
abbrev qDN8(I:LX):=(↑(dO I):Int)
theorem Zkm(c:List Ins) (b:Bool):Zk E F3V (vc E F3V 400) 81 [.psl .ins c ab,.fn (.func 82) [] []] hp0 0 (λr=>ret E (patch hp0 0 r) r.v (.bool ab b))=(
 ∃(R:LX->Prop),(∃(x:LX),R x/\ac=ac/\((c=c/\(ab=ac->ab=ac))/\(cF 82=cF 82/\True/\True)/\(qDN7 c)=(qDN7 c)/\0=(qDN8 x)/\True)/\True)/\∀(x:LX),R x->(decide ((qDN8 x)<(qDN7 c))=ac->0<=(qDN8 x)/\(qDN8 x)+1<=(qDN7 c)/\∀(I:Ins),c[af (qDN8 x)]? =ae I->True/\((!Yb I)=ac->(decide ((qDN8 x)>=0)=ac->ac=b)/\(decide ((qDN8 x)>=0)=ab->ab=b))/\((!Yb I)=ab->∃(x':LX),R x'/\x'.2+1<=x.2/\ac=ac/\((c=c/\(ab=ac->ab=ac))/\(cF 82=cF 82/\True/\True)/\(qDN7 c)=(qDN7 c)/\wr ag ((qDN8 x)+1)=(qDN8 x')/\True)/\True))/\(decide ((qDN8 x)<(qDN7 c))=ab->ab=b)):=by kernel_rfl
theorem Zyn(y:Int) (U:0<=y) (h1:y<4294967296):PureC E 125 [.int ab .u64 1,.int ab .u64 y] (.tup [.int ab .u64 0,.int ab .u64 y]):=by
 refine Za E_ok (Zd E_ok Z1s 400) ?_;rw[Zym];delta qDN5 qDN6;have I:eO y (2^min (af 32) (fh bR))=0:=by
  show y.fdiv 4294967296=0;rw[Int.fdiv_eq_ediv_of_nonneg _ (by omega)];omega
 have J:eO 1 (2^min (af 32) (fh bR))=0:=by decide
 have e3:Zan .and .u64 1 4294967295=1:=Zhq (by omega) (by omega);have e4:=Zhq U h1;have R:eO 0 (2^min (af 32) (fh bR))=0:=by decide
 have e6:wr .u64 0=0:=by decide
 have e7:wr .u64 y=y:=Z1t U (by omega);have e8:Zan .and .u64 0 4294967295=0:=Zhq (by omega) (by omega);have d1:eO y ((2^min (af 32) (fh bR):Nat):Int)=0:=I;have d2:eO 1 ((2^min (af 32) (fh bR):Nat):Int)=0:=J;have d5:eO 0 ((2^min (af 32) (fh bR):Nat):Int)=0:=R;simp only[I,J,e3,e4,R,e6,e7,e8,d1,d2,d5,Int.zero_mul,Int.one_mul,Int.mul_zero,Int.zero_add,Int.add_zero,and_self]
theorem Zkn(c:List Ins) (hc:c.length<=4096):PureC E 81 [.psl .ins c ab,.fn (.func 82) [] []] (.bool ab (!c.all Yb)):=by
 refine Za E_ok (Zd E_ok Z1s 400) ?_;rw[Zkm];delta qDN7 qDN8;refine⟨λx=>x.k+x.r=c.length/\(c.take x.k).all Yb=ac,⟨⟨0,c.length,[],0⟩,by simp,by simp⟩,λx U=> ?_⟩;obtain⟨h1,J⟩:=U
 simp only[Yl,Ya,Wu,Wv,Ww,ij,iz,fV,gp,fO,fG,bm,bI,bj,bY,aq,cI,cz,bp,iR,Y2,Yv,ne_eq,and_true,true_and,aP,aN,false_or,or_false,jW,bZ,iU,jc,bB];refine⟨λa1=>⟨by omega,by omega,λy I=>⟨λR=>⟨λ_=> ?_,λh=>by omega⟩,λR=> ?_⟩⟩,λa0=> ?_⟩
 ·rw[bk] at I
  rw[Zot I R];rfl
 ·rw[bk] at I
  refine⟨⟨x.k+1,x.r-1,[],0⟩,⟨by show x.k+1+(x.r-1)=_;omega,by show(c.take (x.k+1)).all Yb=ac;rw[Zkl I,J,R];rfl⟩,by show x.r-1+1<=x.r;omega,?_⟩;rw[wr64 (by omega) (by omega)];simp
 ·rw[bh (by omega)] at J
  rw[J];rfl
noncomputable def dFnV(f:Nat):Dc E Unit where
 dec v:=match v with| .fn (.func g) [] []=>(match aO g f with|true=>ae ()|false=>au)|_=>au
 enc _:= .fn (.func f) [] []
 ok v a h:=by
  split at h
  ·split at h
   ·rename_i e
    rw[ax e]
    exact⟨rfl,rfl,λσ g u hd=>hd⟩
   ·cases h
  ·cases h
noncomputable def Zyo:Sum thy:=sumP (dL2V Ykn (dFnV 82)) (λx=>x.1.length<=4096) λx=> .bool ab (!x.1.all Yb)
noncomputable def Ykp:Sum thy:=sumP (dL2V (dInt .u64) (dInt .u64)) (λx=>x.1=1/\0<=x.2.1/\x.2.1<4294967296) λx=> .tup [.int ab .u64 0,.int ab .u64 x.2.1]
noncomputable def F4V:Fns thy:=addS (addS F3V 81 Zyo) 125 Ykp
theorem Ykq:FnsOk E F4V:=by
 refine Zb (Zb Z1s ?_) ?_
 ·exact Yo E_ok (Zc (f:=81) rfl) λx h=>Zkn x.1 h
 ·refine Yo E_ok (Zc (f:=125) rfl) λx h=> ?_
  obtain⟨x,y,u⟩:=x;obtain⟨rfl,I,J⟩:=h;exact Zyn y I J
abbrev Yu(c:List Ins):Prop:=
 (0:Nat)=(0:Nat)/\af (wr ag (wr bR (↑(aa c):Int)))=af (wr ag (wr bR (↑(aa c):Int)))/\af
 (wr ag (wr bR (↑(aa c):Int)))=af (wr ag (wr bR (↑(aa c):Int)))
abbrev Z3(J:Int) (I:Ins):=
 (wr ag (J-ak (eff (dV I)))+aD (eff (dV I)))
abbrev Zd5(I:Int) (x:LX) (Q:Bool->Prop) (c:List Ins) (J:LX) (U:Int) (R:Ins):Prop:=
 (decide (I<=(↑(dO x):Int))=ac->Q ac)/\(decide (I<=(↑(dO x):Int))=ab->(decide (I>=(↑(aa c):Int))=ac->Q ac)/\(decide (I>=
 (↑(aa c):Int))=ab->((0:Int)<=I/\I+(1:Int)<=(↑(af (wr ag (wr bR (↑(aa c):Int)))):Int))/\(0:Nat)+af
 I+(1:Nat)<=aa (fR J)/\∀(x:Int),(fR J)[(0:Nat)+af I]? =ae x->(decide (x>=(0:Int))=ac->((0:Int)<=I/\I+(1:Int)<=
 (↑(af (wr ag (wr bR (↑(aa c):Int)))):Int))/\(0:Nat)+af I+(1:Nat)<=aa (fR J)/\∀(x:Int),(fR J)[(0:
 Nat)+af I]? =ae x->((x !=wr ag (Z3 U R))=ac->Q ac)/\((x !=wr ag (Z3 U R))=ab->Q ab))/\(decide (x>=(0:
 Int))=ab->Q ab)))
abbrev X8(c:List Ins):=
 (af (wr ag (wr bR (↑(aa c):Int))))
abbrev Za0(c:List Ins) (x:LX) (I:Int) (J:Ins) (x':LX):Prop:=
 (c=c/\(ab=ac->ab=ac))/\mm2 ac (mm2 ac (kj x) I) (wr ag (Z3 I J))=kj x'/\(Yu c)/\(c=c/\(ab=ac->ab=
 ac))/\(↑(aa c):Int)=(↑(aa c):Int)/\wr ag ((↑(dO x):Int)+(1:Int))=(↑(dO x'):Int)/\True
abbrev Zhr(I:Ins) (x:LX):=
 (aa [fe I]+aa [wr ag ((↑(dO x):Int)+(1:Int))])
abbrev W9(x:LX):=
 (↑(aa [wr ag ((↑(dO x):Int)+(1:Int))]):Int)
abbrev Za1(c:List Ins) (x:LX):=
 (af (wr ag (wr bR (↑(aa c):Int)))-af (↑(dO x):Int))
abbrev Zhs(I:Ins) (Q:Bool->Prop):Prop:=
 ((dV I !=(14:Int))=ac->((dV I !=(15:Int))=ac->((dV I !=(16:Int))=ac->Q ac)/\((dV I !=(16:Int))=ab->Q ab))/\
 ((dV I !=(15:Int))=ab->Q ab))/\((dV I !=(14:Int))=ab->Q ab)
abbrev Zht(I:Ins) (x:LX):Prop:=
 aw (aa [fe I]) [fe I]++ [wr ag ((↑(dO x):Int)+(1:Int))]=aw (aa [fe I]) [fe I]++ [wr ag ((↑(dO
 x):Int)+(1:Int))]/\(0:Nat)=(0:Nat)
abbrev Zfm(I:Ins) (x:LX):Prop:=
 (0:Nat)=(0:Nat)/\aa [fe I]+aa [wr ag ((↑(dO x):Int)+(1:Int))]=aa [fe I]+aa [wr ag ((↑(dO x)
 :Int)+(1:Int))]/\True
abbrev Zfn(x:LX):Prop:=
 (0:Nat)=(0:Nat)/\aa [wr ag ((↑(dO x):Int)+(1:Int))]=aa [wr ag ((↑(dO x):Int)+(1:Int))]/\True
abbrev Zb5(R:LX) (U:Int) (J:Int) (I:Ins) (x':LX):Prop:=
 dx (fR R) ((0:Nat)+af U) (wr ag (Z3 J I))=fR x'/\(0:Nat)=(0:Nat)
abbrev Zfo(x:LX):Prop:=
 [wr ag ((↑(dO x):Int)+(1:Int))]= [wr ag ((↑(dO x):Int)+(1:Int))]/\(0:Nat)=(0:Nat)
abbrev Zb6(x:LX) (c:List Ins):Prop:=
 (0:Int)<=(↑(dO x):Int)/\(↑(dO x):Int)<=(↑(X8 c):Int)
abbrev qDN9(I:LX):=(↑(dO I):Int)
abbrev qDNa(I:List Ins):=(↑(aa I):Int)
abbrev qDNb(I:List Ins):=(I=I/\(ab=ac->ab=ac))
abbrev qDNc:=(0:Nat)
abbrev qDNd:=(0:Int)
abbrev qDNe(I:Int) (J:Ins):=(wr ag (Z3 I J))
abbrev qDNf(I:LX) (J:LX):=(fR I=fR J/\qDNc=qDNc)
abbrev qDNg(I:Ins):=(↑(aa [fe I]):Int)
abbrev qDNh(I:LX) (J:Int):=(mm2 ac (kj I) J)
abbrev qDNi:=(1:Int)
abbrev qDNj(I:List Ins):=(↑(X8 I):Int)
abbrev qDNk:=(1:Nat)
abbrev qDNl(I:Ins) (J:LX):=(↑(Zhr I J):Int)
abbrev qDNm(I:LX):=(aw (af (qDN9 I)) (fR I))
abbrev qDNn(I:LX):=((qDN9 I)+qDNi)
abbrev qDNo(I:List Ins):=(wr bR (qDNa I))
abbrev qDNp(I:Ins):=(qDNc=qDNc/\aa [fe I]=aa [fe I]/\True)
theorem Zou(c:List Ins) (p q:Int):Zk E F4V (vc E F4V 400) 43 [.psl .ins c ab] hp0 0 (λr=>ret E (patch hp0 0 r) r.v (.tup [.int ab .i64 p,.int ab .i64 q]))=(
 (decide ((qDNa c)>4096)=ac->qDNd=p/\2=q/\True)/\(decide ((qDNa c)>4096)=ab->(((qDNa c)==qDNd)=ac->qDNd=p/\200=q/\True)/\(((qDNa c)==qDNd)=ab->aa c<=4096/\((!lv c Yb)=ac->qDNd=p/\200=q/\True)/\((!lv c Yb)=ab->(decide ((qDNa c)<qDNd)=ac->False)/\(decide ((qDNa c)<qDNd)=ab->(qDNi=qDNi/\qDNd<=wr bR (qDNa c)/\wr bR (qDNa c)+qDNi<=4294967296)/\∃(Q:Bool->Prop),((decide (qDNd>qDNd)=ac->Q ac)/\(decide (qDNd>qDNd)=ab->(decide (wr bR (qDNa c)>9223372036854775807)=ac->Q ac)/\(decide (wr bR (qDNa c)>9223372036854775807)=ab->Q ab)))/\(Q ac->False)/\(Q ab->qDNd<=wr ag (qDNo c)/\wr ag (qDNo c)<=wr ag (qDNo c)/\(↑8:Int)*wr ag (qDNo c)<=281474976710656/\(qDNc<=qDNc/\qDNc+af (wr ag (qDNo c))<=aa (aR (X8 c) qDNd))/\∃(R:LX->Prop),(∃(x:LX),R x/\ac=ac/\((Yu c)/\(↑(min (aa [(-1:Int)]) (X8 c)):Int)=(qDN9 x)/\True)/\(aw qDNc (aR (X8 c) qDNd)++aw (X8 c) [(-1:Int)]++cx (qDNc+min (aa [(-1:Int)]) (X8 c)) (aR (X8 c) qDNd)=fR x/\qDNc=qDNc)/\True)/\∀(x:LX),R x->(decide ((qDN9 x)<(qDNj c))=ac->(Zb6 x c)/\(decide ((qDN9 x)<(qDNj c))=ac->(Zb6 x c)/\qDNc+af (qDN9 x)<=aa (fR x)/\(qDNc<=qDNc+af (qDN9 x)/\qDNc+af (qDN9 x)+(Za1 c x)<=aa (fR x))/\∃(x':LX),R x'/\x'.2+qDNk<=x.2/\ac=ac/\((Yu c)/\wr ag ((qDN9 x)+(↑(min (aa (qDNm x)) (Za1 c x)):Int))=(qDN9 x')/\True)/\(aw (qDNc+af (qDN9 x)) (fR x)++aw (Za1 c x) (qDNm x)++cx (qDNc+af (qDN9 x)+min (aa (qDNm x)) (Za1 c x)) (fR x)=fR x'/\qDNc=qDNc)/\True)/\(decide ((qDN9 x)<(qDNj c))=ab->(Zb6 x c)/\False))/\(decide ((qDN9 x)<(qDNj c))=ab->(qDNd<=qDNd/\qDNd+qDNi<=(qDNj c))/\qDNc<=qDNc+af qDNd/\qDNc+af qDNd+qDNk<=aa (fR x)/\∀(a3:Int),(fR x)[qDNc+af qDNd]? =ae a3->∃(R:LX->Prop),(∃(I:LX),R I/\ac=ac/\((qDNb c)/\qDNd=kj I/\(Yu c)/\(qDNb c)/\(qDNa c)=(qDNa c)/\qDNd=(qDN9 I)/\True)/\(dx (fR x) (qDNc+af qDNd) qDNd=fR I/\qDNc=qDNc)/\True)/\∀(x:LX),R x->(decide ((qDN9 x)<(qDNa c))=ac->qDNd<=(qDN9 x)/\(qDN9 x)+qDNi<=(qDNa c)/\∀(I:Ins),c[af (qDN9 x)]? =ae I->(qDNd<=(qDN9 x)/\(qDN9 x)+qDNi<=(qDNj c))/\qDNc+af (qDN9 x)+qDNk<=aa (fR x)/\∀(U:Int),(fR x)[qDNc+af (qDN9 x)]? =ae U->(decide (U<qDNd)=ac->∃(x':LX),R x'/\x'.2+qDNk<=x.2/\ac=ac/\((qDNb c)/\kj x=kj x'/\(Yu c)/\(qDNb c)/\(qDNa c)=(qDNa c)/\wr ag (qDNn x)=(qDN9 x')/\True)/\(qDNf x x')/\True)/\(decide (U<qDNd)=ab->True/\∃(Q:Bool->Prop),((decide (U<ak (eff (dV I)))=ac->Q ac)/\(decide (U<ak (eff (dV I)))=ab->((dV I==15)=ac->((U !=qDNi)=ac->Q ac)/\((U !=qDNi)=ab->((dV I==16)=ac->((U !=qDNd)=ac->Q ac)/\((U !=qDNd)=ab->Q ab))/\((dV I==16)=ab->Q ab)))/\((dV I==15)=ab->((dV I==16)=ac->((U !=qDNd)=ac->Q ac)/\((U !=qDNd)=ab->Q ab))/\((dV I==16)=ab->Q ab))))/\(Q ac->qDNd=p/\200=q/\True)/\(Q ab->∃(Q:Bool->Prop),(((dV I==13)=
ac->Q ac)/\((dV I==13)=ab->((dV I==14)=ac->Q ac)/\((dV I==14)=ab->Q ab)))/\(Q ac->∃(Q:Bool->Prop),(Zhs I Q)/\(Q ac->(aa [fe I]<=aa [fe I]/\qDNc<=aa [fe I]/\(Zhr I x)*8<=140737488355328)/\∃(a1:LX->Prop),(∃(J:LX),a1 J/\ac=ac/\((qDNb c)/\mm2 ac (qDNh x U) (qDNe U I)=mm2 ac (qDNh x U) (qDNe U I)/\(Yu c)/\(qDN9 x)=(qDN9 x)/\wr ag (Z3 U I)=wr ag (Z3 U I)/\(qDNb c)/\(qDNa c)=(qDNa c)/\(qDN9 x)=(qDN9 x)/\(Zfm I x)/\(qDNl I x)=(qDNl I x)/\qDNd=(qDN9 J)/\True)/\(qDNf x J)/\(Zht I x)/\True)/\∀(J:LX),a1 J->(decide ((qDN9 J)<(qDNl I x))=ac->(qDNd<=(qDN9 J)/\(qDN9 J)+qDNi<=(qDNl I x))/\qDNc+af (qDN9 J)+qDNk<=aa (aw (aa [fe I]) [fe I]++ [wr ag (qDNn x)])/\∀(a0:Int),(aw (aa [fe I]) [fe I]++ [wr ag (qDNn x)])[qDNc+af (qDN9 J)]? =ae a0->∃(Q:Bool->Prop),(Zd5 a0 x Q c J U I)/\(Q ac->qDNd=p/\200=q/\True)/\(Q ab->(qDNd<=a0/\a0+qDNi<=(qDNj c))/\qDNc<=qDNc+af a0/\qDNc+af a0+qDNk<=aa (fR J)/\∀(a2:Int),(fR J)[qDNc+af a0]? =ae a2->∃(x':LX),a1 x'/\x'.2+qDNk<=J.2/\ac=ac/\((qDNb c)/\mm2 ac (qDNh x U) (qDNe U I)=mm2 ac (qDNh x U) (qDNe U I)/\(Yu c)/\(qDN9 x)=(qDN9 x)/\wr ag (Z3 U I)=wr ag (Z3 U I)/\(qDNb c)/\(qDNa c)=(qDNa c)/\(qDN9 x)=(qDN9 x)/\(Zfm I x)/\(qDNl I x)=(qDNl I x)/\wr ag (qDNn J)=(qDN9 x')/\True)/\(Zb5 J a0 U I x')/\(Zht I x)/\True))/\(decide ((qDN9 J)<(qDNl I x))=ab->∃(x':LX),R x'/\x'.2+qDNk<=x.2/\ac=ac/\(Za0 c x U I x')/\(qDNf J x')/\True))/\(Q ab->∃(a1:LX->Prop),(∃(J:LX),a1 J/\ac=ac/\((qDNb c)/\mm2 ac (qDNh x U) (qDNe U I)=mm2 ac (qDNh x U) (qDNe U I)/\(Yu c)/\(qDN9 x)=(qDN9 x)/\wr ag (Z3 U I)=wr ag (Z3 U I)/\(qDNb c)/\(qDNa c)=(qDNa c)/\(qDN9 x)=(qDN9 x)/\(qDNp I)/\(qDNg I)=(qDNg I)/\qDNd=(qDN9 J)/\True)/\(qDNf x J)/\([fe I]= [fe I]/\qDNc=qDNc)/\True)/\∀(J:LX),a1 J->(decide ((qDN9 J)<(qDNg I))=ac->(qDNd<=(qDN9 J)/\(qDN9 J)+qDNi<=(qDNg I))/\qDNc+af (qDN9 J)+qDNk<=aa [fe I]/\∀(a0:Int),[fe I][qDNc+af (qDN9 J)]? =ae a0->∃(Q:Bool->Prop),(Zd5 a0 x Q c J U I)/\(Q ac->qDNd=p/\200=q/\True)/\(Q ab->(qDNd<=a0/\a0+qDNi<=(qDNj c))/\qDNc<=qDNc+af a0/\qDNc+af a0+qDNk<=aa (fR J)/\∀(a2:Int),(fR J)[qDNc+af a0]? =ae a2->∃(x':LX),a1 x'/\x'.2+qDNk<=J.2/\ac=ac/\((qDNb c)/\mm2 ac (qDNh x U) (qDNe U I)=mm2 ac (qDNh x U) (qDNe U I)/\(Yu c)/\(qDN9 x)=(qDN9 x)/\wr ag (Z3 U I)=wr ag (Z3 U I)/\(qDNb c)/\(qDNa c)=(qDNa c)/\(qDN9 x)=(qDN9 x)/\(qDNp I)/\(qDNg I)=(qDNg I)/\wr ag (qDNn J)=(qDN9 x')/\True)/\(Zb5 J a0 U I x')/\([fe I]= [fe I]/\qDNc=qDNc)/\True))/\(decide ((qDN9 J)<(qDNg I))=ab->∃(x':LX),R x'/\x'.2+qDNk<=x.2/\ac=ac/\(Za0 c x U I x')/\(qDNf J x')/\True)))/\(Q ab->∃(Q:Bool->Prop),(Zhs I Q)/\(Q ac->∃(a1:LX->Prop),(∃(J:LX),a1 J/\ac=ac/\((qDNb c)/\mm2 ac (qDNh x U) (qDNe U I)=mm2 ac (qDNh x U) (qDNe U I)/\
(Yu c)/\(qDN9 x)=(qDN9 x)/\wr ag (Z3 U I)=wr ag (Z3 U I)/\(qDNb c)/\(qDNa c)=(qDNa c)/\(qDN9 x)=(qDN9 x)/\(Zfn x)/\(W9 x)=(W9 x)/\qDNd=(qDN9 J)/\True)/\(qDNf x J)/\(Zfo x)/\True)/\∀(J:LX),a1 J->(decide ((qDN9 J)<(W9 x))=ac->(qDNd<=(qDN9 J)/\(qDN9 J)+qDNi<=(W9 x))/\qDNc+af (qDN9 J)+qDNk<=aa [wr ag (qDNn x)]/\∀(a0:Int),[wr ag (qDNn x)][qDNc+af (qDN9 J)]? =ae a0->∃(Q:Bool->Prop),(Zd5 a0 x Q c J U I)/\(Q ac->qDNd=p/\200=q/\True)/\(Q ab->(qDNd<=a0/\a0+qDNi<=(qDNj c))/\qDNc<=qDNc+af a0/\qDNc+af a0+qDNk<=aa (fR J)/\∀(a2:Int),(fR J)[qDNc+af a0]? =ae a2->∃(x':LX),a1 x'/\x'.2+qDNk<=J.2/\ac=ac/\((qDNb c)/\mm2 ac (qDNh x U) (qDNe U I)=mm2 ac (qDNh x U) (qDNe U I)/\(Yu c)/\(qDN9 x)=(qDN9 x)/\wr ag (Z3 U I)=wr ag (Z3 U I)/\(qDNb c)/\(qDNa c)=(qDNa c)/\(qDN9 x)=(qDN9 x)/\(Zfn x)/\(W9 x)=(W9 x)/\wr ag (qDNn J)=(qDN9 x')/\True)/\(Zb5 J a0 U I x')/\(Zfo x)/\True))/\(decide ((qDN9 J)<(W9 x))=ab->∃(x':LX),R x'/\x'.2+qDNk<=x.2/\ac=ac/\(Za0 c x U I x')/\(qDNf J x')/\True))/\(Q ab->∃(a1:LX->Prop),(∃(J:LX),a1 J/\ac=ac/\((qDNb c)/\mm2 ac (qDNh x U) (qDNe U I)=mm2 ac (qDNh x U) (qDNe U I)/\(Yu c)/\(qDN9 x)=(qDN9 x)/\wr ag (Z3 U I)=wr ag (Z3 U I)/\(qDNb c)/\(qDNa c)=(qDNa c)/\(qDN9 x)=(qDN9 x)/\aG au qDNc qDNc=aG au qDNc qDNc/\qDNd=qDNd/\qDNd=(qDN9 J)/\True)/\(qDNf x J)/\True)/\∀(J:LX),a1 J->(decide ((qDN9 J)<qDNd)=ac->False)/\(decide ((qDN9 J)<qDNd)=ab->∃(x':LX),R x'/\x'.2+qDNk<=x.2/\ac=ac/\(Za0 c x U I x')/\(qDNf J x')/\True))))))/\(decide ((qDN9 x)<(qDNa c))=ab->(decide (kj x>64)=ac->qDNd=p/\2=q/\True)/\(decide (kj x>64)=ab->kj x=p/\qDNd=q/\True))))))))):=by kernel_rfl
theorem Z1u{n k:Nat} (U:1<=k) (h2:k<n) {D:List Int} (R:D=aR k (-1)++aR (n-k) 0):
 aw k D++aw (n-k) (aw k D)++cx (k+min (aw k D).length (n-k)) D=aR (k+min k (n-k)) (-1)++aR (n-(k+min k (n-k))) 0:=by
 subst R
 have I:aw k (aR k (-1:Int)++aR (n-k) 0)=aR k (-1):=List.take_left' (by simp)
 rw[I,gQ,List.take_replicate]
 have J:cx (k+min k (n-k)) (aR k (-1:Int)++aR (n-k) 0)=cx (min k (n-k)) (aR (n-k) 0):=by
  rw[List.drop_append,gQ,bL (by simp),show k+min k (n-k)-k=min k (n-k) by omega,dX]
 rw[J,List.drop_replicate,List.replicate_append_replicate,Nat.min_comm (n-k) k,show n-k-min k (n-k)=n-(k+min k (n-k)) by omega]
structure RVV(c:List Ins) (x:LX):Prop where
 kr:x.k+x.r=c.length
 len:x.D.length=c.length
 lo:∀d∈x.D,-1<=d/\d<=x.k
 run:fromF c.length (c.drop x.k) x.k x.D x.m=fromF c.length c 0 (deps c) 0
structure RNV(c:List Ins) (x:LX) (after:Int) (ns:List Int) (y:LX):Prop where
 kr:y.k+y.r=ns.length
 len:y.D.length=c.length
 lo:∀d∈y.D,-1<=d/\d<=x.k+1
 run:setF c.length x.k after (ns.drop y.k) y.D=setF c.length x.k after ns x.D
theorem Yfa(op:Int):0<=(eff op).1/\(eff op).1<=2/\0<=(eff op).2/\(eff op).2<=1:=by
 unfold eff
 repeat' split
 all_goals simp
theorem Zc7{D:List Int} {j:Nat} {a lo hi:Int} (h:∀d∈D,lo<=d/\d<=hi) (J:lo<=a/\a<=hi):∀d∈D.set j a,lo<=d/\d<=hi:=by
 intro d hd;rcases iV hd with I|I
 ·exact h d I
 ·subst I;exact J
theorem Zov(c:List Ins):PureC E 43 [.psl .ins c ab] (.tup [.int ab .i64 (verF c).1,.int ab .i64 (verF c).2]):=by
 refine Za E_ok (Zd E_ok Ykq 400) ?_;rw[Zou];delta qDN9 qDNa qDNb qDNc qDNd qDNe qDNf qDNg qDNh qDNi qDNj qDNk qDNl qDNm qDNn qDNo qDNp;unfold Zb6 Zfo Zb5 Zfn Zfm Zht Zhs Za1 W9 Zhr Za0 X8 Zd5 Z3 Yu;have s1:4096<c.length->verF c=(0,2):=λh=>by unfold verF;rw[jM h]
 have s2:c.length=0->verF c=(0,200):=λh=>by unfold verF;rw[jJ (by omega),jM (.inl h)]
 have s3:c.length<=4096->c.all Yb=ab->verF c=(0,200):=λh h2=>by unfold verF;rw[jJ (by omega),jM (.inr h2)]
 have s4:c.length<=4096->c.length≠0->c.all Yb=ac->verF c=endF (fromF c.length c 0 (deps c) 0):=λh h2 h3=>by unfold verF;rw[jJ (by omega),jJ (by simp[h2,h3])]
 generalize verF c=V at*;simp only[Yl,Ya,Wu,Wv,Ww,ij,iz,fV,gp,fO,fG,bm,bI,bj,bY,aq,cI,cz,bp,iR,Y2,Yv,ne_eq,and_true,true_and,aP,aN,false_or,or_false,jW,bZ,iU,jc,bB,gt_iff_lt,ge_iff_le]
 refine⟨λh=> ?_,λh=>⟨λh2=> ?_,λh2=>⟨by omega,λh3=> ?_,λh3=>⟨λh4=>by omega,λh4=> ?_⟩⟩⟩⟩
 ·rw[s1 (by omega)];simp
 ·rw[s2 (by omega)];simp
 ·rw[s3 (by omega) (by simpa using h3)];simp
 have hn:c.length<=4096:=by omega
 rw[s4 hn (by omega) h3];clear s1 s2 s3 s4 V h4 h;have eU:wr .u64 (c.length:Int)=c.length:=Z1t (by omega) (by omega);have eI:wr .i64 (c.length:Int)=c.length:=wr64 (by omega) (by omega);simp only[eU,eI,bk,bq,Int.toNat_zero];refine⟨by omega,?_⟩;refine⟨λb=>b=ab,⟨λh=>by omega,λ_=>⟨λh=>by omega,λ_=>rfl⟩⟩,λh=>by simp at h,λ_=> ?_⟩;refine⟨by omega,cj _,by omega,by simp,?_⟩
 refine⟨λx=>1<=x.k/\x.k+x.r=c.length/\x.D=aR x.k (-1)++aR (c.length-x.k) 0,⟨⟨1,c.length-1,aR 1 (-1)++aR (c.length-1) 0,0⟩,⟨av _,by show 1+(c.length-1)=_;omega,rfl⟩,?_⟩,λx hx=> ?_⟩
 ·have e:min ([-1]:List Int).length c.length=1:=by simp;omega
  rw[e];refine⟨by simp,?_⟩;have e2:aw c.length [(-1:Int)]= [-1]:=bh (by simp;omega);rw[e2];simp
 obtain⟨b4,b6,hD⟩:=hx;have c0:x.D.length=c.length:=by rw[hD];simp;omega
 refine⟨λb1=>⟨by omega,λ_=>⟨by omega,by omega,by omega,?_⟩,λh=>ka b1 h⟩,λb0=> ?_⟩
 ·have e:=Z1u b4 (by omega:x.k<c.length) hD
  have e3:(aw x.k x.D).length=x.k:=by rw[bi];omega
  rw[e3] at e⊢;refine⟨⟨x.k+min x.k (c.length-x.k),c.length-(x.k+min x.k (c.length-x.k)),_,0⟩,⟨by show 1<=x.k+_;omega,by show x.k+min x.k (c.length-x.k)+(c.length-(x.k+min x.k (c.length-x.k)))=_;omega,rfl⟩,by show c.length-(x.k+min x.k (c.length-x.k))+1<=x.r;omega,?_,e⟩;rw[wr64 (by omega) (by omega)];show _=((x.k+min x.k (c.length-x.k):Nat):Int);omega
 have b5:x.k=c.length:=by omega
 have hD:x.D=aR c.length (-1):=by rw[hD,b5,eB];simp
 clear b4 b6 b0;refine⟨by omega,by omega,by omega,λz hz=> ?_⟩;rw[hD] at c0⊢;clear hz hD b5;refine⟨RVV c,⟨⟨0,c.length,deps c,0⟩,⟨by show 0+c.length=_;omega,by simp[deps],?_,by simp⟩,by simp[deps]⟩,λx hR=> ?_⟩
 ·intro d hd
  rcases iV hd with h|h
  ·rw[List.mem_replicate] at h;show-1<=d/\d<=0;omega
  ·show-1<=d/\d<=0;omega
 have b7:=hR.len;refine⟨λb1=>⟨by omega,by omega,λI b8=>⟨by omega,by omega,λx3 b9=> ?_⟩⟩,λb0=> ?_⟩
 ·have hb:=hR.lo x3 (aL b9)
  have he:=Yfa I.op;have b6:=hR.kr;have a4:x.D.getD x.k 0=x3:=by simp[bN,b9]
  have c1:c.drop x.k=I::c.drop (x.k+1):=by
   obtain⟨h1,rfl⟩:=ai.1 b8;exact cy h1
  have a0:=hR.run;rw[c1] at a0;simp only[fromF] at a0;have c2:Yb I=true:=fL.1 h3 I (aL b8);have eK:wr .i64 ((x.k:Int)+1)=x.k+1:=wr64 (by omega) (by omega);have eA:wr .i64 (wr .i64 (x3-(eff I.op).1)+(eff I.op).2)=x3-(eff I.op).1+(eff I.op).2:=by
   have e0:wr .i64 (x3-(eff I.op).1)=x3-(eff I.op).1:=wr64 (by omega) (by omega);rw[e0];exact wr64 (by omega) (by omega)
  simp only[eK,eA,Y2];refine⟨λa2=> ?_,λa2=> ?_⟩
  ·have a5:rndF c.length x.k I x.D x.m=ae (x.D,x.m):=by unfold rndF;rw[a4,jM a2]
   rw[a5] at a0;exact⟨⟨x.k+1,x.r-1,x.D,x.m⟩,⟨by show x.k+1+(x.r-1)=_;omega,b7,λd hd=>by have:=hR.lo d hd;show-1<=d/\d<=((x.k+1:Nat):Int);omega,a0⟩,by show x.r-1+1<=x.r;omega,by simp⟩
  refine⟨λb=>(b=ac↔(x3<(eff I.op).1\/(I.op=15/\x3≠1)\/(I.op=16/\x3≠0))),?_,λJ=> ?_,λJ=> ?_⟩
  ·repeat' (first|(refine aC ?_ ?_)|(intro h))
   all_goals simp
   all_goals omega
  ·have J:=J.1 rfl
   have a9:rndF c.length x.k I x.D x.m=none:=by unfold rndF;rw[a4,jJ a2,jM J]
   rw[a9] at a0;rw[<-a0];simp[endF]
  ·have a8:¬(x3<(eff I.op).1\/(I.op=15/\x3≠1)\/(I.op=16/\x3≠0)):=λh=>ka (J.2 h) (by simp)
   clear J;refine⟨λb=>(b=ac↔(I.op=13\/I.op=14)),?_,λJ=> ?_,λJ=> ?_⟩
   ·repeat' (first|(refine aC ?_ ?_)|(intro h))
    all_goals simp
    all_goals omega
   ·have J:=J.1 rfl
    refine⟨λb=>(b=ac↔(I.op≠14/\I.op≠15/\I.op≠16)),?_,λa1=> ?_,λa1=> ?_⟩
    ·repeat' (first|(refine aC ?_ ?_)|(intro h))
     all_goals simp
     all_goals omega
    ·have a1:=a1.1 rfl
     have a3:Zer x.k I= [I.n,(x.k:Int)+1]:=by unfold Zer;rw[jJ (by omega),jJ (by omega),jM (by omega)]
     simp only[aE,bn,bq,List.take_succ_cons,iP,cd,dX];refine⟨by omega,?_⟩;refine⟨RNV c x (x3-(eff I.op).1+(eff I.op).2) [I.n,(x.k:Int)+1],⟨⟨0,2,x.D,0⟩,⟨rfl,hR.len,λd hd=>⟨(hR.lo d hd).1,by have:=(hR.lo d hd).2;omega⟩,rfl⟩,by simp⟩,λy U=>⟨λb1=> ?_,λb0=> ?_⟩⟩
     ·have a6:y.k<([I.n,(x.k:Int)+1]).length:=by simp only[aE,bn];omega
      refine⟨by omega,by first|omega|(simp only[aE,bn];omega),λn b3=> ?_⟩;have b2:([I.n,(x.k:Int)+1]).drop y.k=n::([I.n,(x.k:Int)+1]).drop (y.k+1):=by
       obtain⟨h1,rfl⟩:=ai.1 b3;exact cy h1
      have R:=U.run;rw[b2] at R;generalize hS:setF c.length x.k (x3-(eff I.op).1+(eff I.op).2) [I.n,(x.k:Int)+1] x.D=SF at R;simp only[setF] at R;refine⟨λb=>(b=ac↔(n<=x.k\/(c.length:Int)<=n\/(0<=y.D.getD n.toNat 0/\y.D.getD n.toNat 0≠x3-(eff I.op).1+(eff I.op).2))),?_,λJ=> ?_,λJ=> ?_⟩
      ·refine⟨λh=>by simp[h],λh=>⟨λh'=>by simp[h'],λh'=>⟨by omega,by rw[U.len];omega,λz hz=> ?_⟩⟩⟩
       have hg:y.D.getD n.toNat 0=z:=by simp[bN,hz]
       rw[hg];refine⟨λh0=>⟨by omega,by rw[U.len];omega,λz2 a7=> ?_⟩,λh0=>by simp;omega⟩;rw[hz] at a7;cases a7;exact⟨λh1=>by simp;omega,λh1=>by simp;omega⟩
      ·have J:=J.1 rfl
       rw[jM J] at R;have a9:rndF c.length x.k I x.D x.m=none:=by
        unfold rndF;rw[a4,jJ a2,jJ a8,a3,hS,<-R]
       rw[a9] at a0;rw[<-a0];simp[endF]
      ·have J:¬(n<=x.k\/(c.length:Int)<=n\/(0<=y.D.getD n.toNat 0/\y.D.getD n.toNat 0≠x3-(eff I.op).1+(eff I.op).2)):=λh=>by simp at J;exact ka h (by simpa using J)
       rw[jJ J] at R;refine⟨by omega,aW _,by rw[U.len];omega,λz hz=> ?_⟩;refine⟨⟨y.k+1,y.r-1,y.D.set n.toNat (x3-(eff I.op).1+(eff I.op).2),0⟩,⟨by have:=U.kr;show y.k+1+(y.r-1)=_;omega,by simp[U.len],Zc7 U.lo (by omega),R.trans hS.symm⟩,by have:=U.kr;show y.r-1+1<=y.r;omega,?_⟩;rw[wr64 (by omega) (by omega)];simp
     ·have a6:([I.n,(x.k:Int)+1]).drop y.k= []:=bL (by simp only[aE,bn];omega)
      have R:=U.run;rw[a6] at R;generalize hS:setF c.length x.k (x3-(eff I.op).1+(eff I.op).2) [I.n,(x.k:Int)+1] x.D=SF at R;simp only[setF] at R;have a5:rndF c.length x.k I x.D x.m=ae (y.D,max (max x.m x3) (x3-(eff I.op).1+(eff I.op).2)):=by
       unfold rndF;rw[a4,jJ a2,jJ a8,a3,hS,<-R]
      rw[a5] at a0;refine⟨⟨x.k+1,x.r-1,y.D,_⟩,⟨by have:=hR.kr;show x.k+1+(x.r-1)=_;omega,U.len,λd hd=>by have:=U.lo d hd;show-1<=d/\d<=((x.k+1:Nat):Int);omega,a0⟩,by have:=hR.kr;show x.r-1+1<=x.r;omega,?_⟩;simp
    ·have a1:¬(I.op≠14/\I.op≠15/\I.op≠16):=λh=>ka (a1.2 h) (by simp)
     have a3:Zer x.k I= [I.n]:=by unfold Zer;rw[jJ (by omega),jM (by omega)]
     simp only[aE,bn,bq];refine⟨RNV c x (x3-(eff I.op).1+(eff I.op).2) [I.n],⟨⟨0,1,x.D,0⟩,⟨rfl,hR.len,λd hd=>⟨(hR.lo d hd).1,by have:=(hR.lo d hd).2;omega⟩,rfl⟩,by simp⟩,λy U=>⟨λb1=> ?_,λb0=> ?_⟩⟩
     ·have a6:y.k<([I.n]).length:=by simp only[aE,bn];omega
      refine⟨by omega,by first|omega|(simp only[aE,bn];omega),λn b3=> ?_⟩;have b2:([I.n]).drop y.k=n::([I.n]).drop (y.k+1):=by
       obtain⟨h1,rfl⟩:=ai.1 b3;exact cy h1
      have R:=U.run;rw[b2] at R;generalize hS:setF c.length x.k (x3-(eff I.op).1+(eff I.op).2) [I.n] x.D=SF at R;simp only[setF] at R;refine⟨λb=>(b=ac↔(n<=x.k\/(c.length:Int)<=n\/(0<=y.D.getD n.toNat 0/\y.D.getD n.toNat 0≠x3-(eff I.op).1+(eff I.op).2))),?_,λJ=> ?_,λJ=> ?_⟩
      ·refine⟨λh=>by simp[h],λh=>⟨λh'=>by simp[h'],λh'=>⟨by omega,by rw[U.len];omega,λz hz=> ?_⟩⟩⟩
       have hg:y.D.getD n.toNat 0=z:=by simp[bN,hz]
       rw[hg];refine⟨λh0=>⟨by omega,by rw[U.len];omega,λz2 a7=> ?_⟩,λh0=>by simp;omega⟩;rw[hz] at a7;cases a7;exact⟨λh1=>by simp;omega,λh1=>by simp;omega⟩
      ·have J:=J.1 rfl
       rw[jM J] at R;have a9:rndF c.length x.k I x.D x.m=none:=by
        unfold rndF;rw[a4,jJ a2,jJ a8,a3,hS,<-R]
       rw[a9] at a0;rw[<-a0];simp[endF]
      ·have J:¬(n<=x.k\/(c.length:Int)<=n\/(0<=y.D.getD n.toNat 0/\y.D.getD n.toNat 0≠x3-(eff I.op).1+(eff I.op).2)):=λh=>by simp at J;exact ka h (by simpa using J)
       rw[jJ J] at R;refine⟨by omega,aW _,by rw[U.len];omega,λz hz=> ?_⟩;refine⟨⟨y.k+1,y.r-1,y.D.set n.toNat (x3-(eff I.op).1+(eff I.op).2),0⟩,⟨by have:=U.kr;show y.k+1+(y.r-1)=_;omega,by simp[U.len],Zc7 U.lo (by omega),R.trans hS.symm⟩,by have:=U.kr;show y.r-1+1<=y.r;omega,?_⟩;rw[wr64 (by omega) (by omega)];simp
     ·have a6:([I.n]).drop y.k= []:=bL (by simp only[aE,bn];omega)
      have R:=U.run;rw[a6] at R;generalize hS:setF c.length x.k (x3-(eff I.op).1+(eff I.op).2) [I.n] x.D=SF at R;simp only[setF] at R;have a5:rndF c.length x.k I x.D x.m=ae (y.D,max (max x.m x3) (x3-(eff I.op).1+(eff I.op).2)):=by
       unfold rndF;rw[a4,jJ a2,jJ a8,a3,hS,<-R]
      rw[a5] at a0;refine⟨⟨x.k+1,x.r-1,y.D,_⟩,⟨by have:=hR.kr;show x.k+1+(x.r-1)=_;omega,U.len,λd hd=>by have:=U.lo d hd;show-1<=d/\d<=((x.k+1:Nat):Int);omega,a0⟩,by have:=hR.kr;show x.r-1+1<=x.r;omega,?_⟩;simp
   ·have J:¬(I.op=13\/I.op=14):=λh=>ka (J.2 h) (by simp)
    refine⟨λb=>(b=ac↔(I.op≠14/\I.op≠15/\I.op≠16)),?_,λa1=> ?_,λa1=> ?_⟩
    ·repeat' (first|(refine aC ?_ ?_)|(intro h))
     all_goals simp
     all_goals omega
    ·have a1:=a1.1 rfl
     have a3:Zer x.k I= [(x.k:Int)+1]:=by unfold Zer;rw[jJ (by omega),jJ (by omega),jJ (by omega)]
     simp only[aE,bn,bq];refine⟨RNV c x (x3-(eff I.op).1+(eff I.op).2) [(x.k:Int)+1],⟨⟨0,1,x.D,0⟩,⟨rfl,hR.len,λd hd=>⟨(hR.lo d hd).1,by have:=(hR.lo d hd).2;omega⟩,rfl⟩,by simp⟩,λy U=>⟨λb1=> ?_,λb0=> ?_⟩⟩
     ·have a6:y.k<([(x.k:Int)+1]).length:=by simp only[aE,bn];omega
      refine⟨by omega,by first|omega|(simp only[aE,bn];omega),λn b3=> ?_⟩;have b2:([(x.k:Int)+1]).drop y.k=n::([(x.k:Int)+1]).drop (y.k+1):=by
       obtain⟨h1,rfl⟩:=ai.1 b3;exact cy h1
      have R:=U.run;rw[b2] at R;generalize hS:setF c.length x.k (x3-(eff I.op).1+(eff I.op).2) [(x.k:Int)+1] x.D=SF at R;simp only[setF] at R;refine⟨λb=>(b=ac↔(n<=x.k\/(c.length:Int)<=n\/(0<=y.D.getD n.toNat 0/\y.D.getD n.toNat 0≠x3-(eff I.op).1+(eff I.op).2))),?_,λJ=> ?_,λJ=> ?_⟩
      ·refine⟨λh=>by simp[h],λh=>⟨λh'=>by simp[h'],λh'=>⟨by omega,by rw[U.len];omega,λz hz=> ?_⟩⟩⟩
       have hg:y.D.getD n.toNat 0=z:=by simp[bN,hz]
       rw[hg];refine⟨λh0=>⟨by omega,by rw[U.len];omega,λz2 a7=> ?_⟩,λh0=>by simp;omega⟩;rw[hz] at a7;cases a7;exact⟨λh1=>by simp;omega,λh1=>by simp;omega⟩
      ·have J:=J.1 rfl
       rw[jM J] at R;have a9:rndF c.length x.k I x.D x.m=none:=by
        unfold rndF;rw[a4,jJ a2,jJ a8,a3,hS,<-R]
       rw[a9] at a0;rw[<-a0];simp[endF]
      ·have J:¬(n<=x.k\/(c.length:Int)<=n\/(0<=y.D.getD n.toNat 0/\y.D.getD n.toNat 0≠x3-(eff I.op).1+(eff I.op).2)):=λh=>by simp at J;exact ka h (by simpa using J)
       rw[jJ J] at R;refine⟨by omega,aW _,by rw[U.len];omega,λz hz=> ?_⟩;refine⟨⟨y.k+1,y.r-1,y.D.set n.toNat (x3-(eff I.op).1+(eff I.op).2),0⟩,⟨by have:=U.kr;show y.k+1+(y.r-1)=_;omega,by simp[U.len],Zc7 U.lo (by omega),R.trans hS.symm⟩,by have:=U.kr;show y.r-1+1<=y.r;omega,?_⟩;rw[wr64 (by omega) (by omega)];simp
     ·have a6:([(x.k:Int)+1]).drop y.k= []:=bL (by simp only[aE,bn];omega)
      have R:=U.run;rw[a6] at R;generalize hS:setF c.length x.k (x3-(eff I.op).1+(eff I.op).2) [(x.k:Int)+1] x.D=SF at R;simp only[setF] at R;have a5:rndF c.length x.k I x.D x.m=ae (y.D,max (max x.m x3) (x3-(eff I.op).1+(eff I.op).2)):=by
       unfold rndF;rw[a4,jJ a2,jJ a8,a3,hS,<-R]
      rw[a5] at a0;refine⟨⟨x.k+1,x.r-1,y.D,_⟩,⟨by have:=hR.kr;show x.k+1+(x.r-1)=_;omega,U.len,λd hd=>by have:=U.lo d hd;show-1<=d/\d<=((x.k+1:Nat):Int);omega,a0⟩,by have:=hR.kr;show x.r-1+1<=x.r;omega,?_⟩;simp
    ·have a1:¬(I.op≠14/\I.op≠15/\I.op≠16):=λh=>ka (a1.2 h) (by simp)
     have a3:Zer x.k I= []:=by unfold Zer;rw[jM (by omega)]
     have a5:rndF c.length x.k I x.D x.m=ae (x.D,max (max x.m x3) (x3-(eff I.op).1+(eff I.op).2)):=by
      unfold rndF;rw[a4,jJ a2,jJ a8,a3];rfl
     rw[a5] at a0;refine⟨λy=>y.D=x.D,⟨⟨0,0,x.D,0⟩,rfl,by simp⟩,λy U=>⟨λh=>by omega,λ_=> ?_⟩⟩;refine⟨⟨x.k+1,x.r-1,x.D,_⟩,⟨by show x.k+1+(x.r-1)=_;omega,b7,λd hd=>by have:=hR.lo d hd;show-1<=d/\d<=((x.k+1:Nat):Int);omega,a0⟩,by show x.r-1+1<=x.r;omega,?_⟩;simp[U]
 ·have a0:=hR.run
  rw[bL (by omega)] at a0;simp only[fromF] at a0;rw[<-a0];refine⟨λh=> ?_,λh=> ?_⟩
  ·simp[endF,h]
  ·simp[endF,h]
end
section
open Go
noncomputable def dClk:DcL E (Cls×Int×Unit):= .cons (dR .clauses:Dc E (thy.dom bA)) (.cons (dInt .i64) .nil)
noncomputable def Scl:Sum thy:=sumB E dF dClk (λ(l:List Ins) x=>ClP x.1 x.2.1.toNat l/\0<=x.2.1) λ(l:List Ins) x=>l++cdC x.1 x.2.1.toNat l.length
theorem Ynb:SumOk E 41 Scl:=Zfv E_ok (Zc rfl) λx=>by
 have h:=Ymz x.1 x.2.1.toNat;refine⟨λl fz J I=> ?_,λI=> ?_⟩
 ·have:=h.1 l fz J I.1
  rw[jN I.2] at this;exact this
 ·have:=h.2 I.1
  rw[jN I.2] at this;exact this
noncomputable def Ync:Dc E (List Ins):=(Zfr (E:=E) dF:Dc E (List (thy.dom dF)))
noncomputable def Ynd:Sum thy:=Zq4 E (λ_=>au) 10 (sumP (dA1 Ync) (λ_=>True) λx=> .tup [.int ab .i64 (verF x.1).1,.int ab .i64 (verF x.1).2])
theorem Ycc:SumOk E 43 Ynd:=Zjv E_ok (Yo E_ok (Zc (f:=43) rfl) λx _=>Zov x.1)
structure CpX where
 k:Nat
 r:Nat
 L:List Ins
noncomputable def Acp:Fr thy->Hp thy->Nat->Ann thy:=λT h i=>{X:=Bool×CpX,fr:=λx=> [(4,T 4),(13,T 13),(14,T 14),(15,.int ab .i64 x.2.k)],bl:=λx=>(bOf (T 4),.raw [match x.1 with|true=> .sl i 0 x.2.L.length 3 au|false=> .val (.slice au 0 0)] 0 au)::(match x.1 with|true=> [(i,.rows dF x.2.L 0)]|false=> []),src:=λx=>(match x.1 with|true=> [(i,1004)]|false=> []),md:= [bOf (T 4)],ih:=i+1,M:=i+60,meas:=λx=>x.2.r,ex:=ex2,al:=al2,exOk:=Zgg,alOk:=Zgh}
def Znt(F:Fns thy):Fns thy:={F with defs:=λ_=>ab}
theorem Zf5{E':Eng thy} {F:Fns thy} (h:FnsOk E' F):FnsOk E' (Znt F):=⟨h.sumG,h.fnG,h.sum,h.fn,h.loop⟩
noncomputable def Fcp:Fns thy:=Znt (addL (addS (addS (addS F0 41 Scl) 34 Z67) 43 Ynd) 11 6 Acp E)
abbrev qDO1(I:Cls):=(bV (aM (ay I)) (bX (ay I)) (bD (ay I)) (bE (ay I)) (bF (ay I)) (bG (ay I)) (bw (ay I)))
abbrev qDO3(I:Tar):=(↑(aa (ar I)):Int)
abbrev qDO4(I:CpX):=(↑(CpX.k I):Int)
abbrev qDO5:=(0:Nat)
abbrev qDO2(I:Tar) (J:CpX) (R:CpX):=(qDO5=qDO5/\(ar I=ar I/\(ab=ac->ab=ac))/\(qDO3 I)=(qDO3 I)/\wr ag ((qDO4 J)+(1:Int))=(qDO4 R)/\True)
abbrev qDOa:=(1:Nat)
abbrev qDO6(I:CpX):=(aa (CpX.L I)+qDOa)
abbrev qDO9:=(0:Int)
abbrev qDO7:=(aD (verF (aw qDOa (cx qDO5 [dy (16:Int) qDO9 qDO9]))) !=qDO9)
abbrev qDO8(I:Cls):=(eF (aK I) (aT I) (qDO1 I))
theorem Zq2(t:Tar) (l:List Ins) (e:Int):Zk E Fcp (vc E Fcp 400) 11 [.agg (encF ab .tariffs t)] hp0 0 (λr=>ret E (patch hp0 0 r) r.v (.tup [.psl dF l ab,.int ab .i64 e]))=(
 ((∀(c:Cls),c∈ar t->cW (ay c)+qDOa<=1000000000000/\aa (aT c)+qDOa<=1000000000000)/\aa (ar t)+qDOa<=1000000000000)/\((Z8 t !=qDO9)=ac->l= []/\Z8 t=e/\True)/\((Z8 t !=qDO9)=ab->∃(R:Bool×CpX->Prop),((∃(y:CpX),R (ab,y)/\ac=ac/\(qDO5=qDO5/\(ar t=ar t/\(ab=ac->ab=ac))/\(qDO3 t)=(qDO3 t)/\qDO9=(qDO4 y)/\True)/\(aG au qDO5 qDO5=aG au qDO5 qDO5/\True)/\True)\/∃(y:CpX),R (ac,y)/\ac=ac/\False)/\(∀(y:CpX),R (ab,y)->(decide ((qDO4 y)<(qDO3 t))=ac->qDO9<=(qDO4 y)/\(qDO4 y)+1<=(qDO3 t)/\∀(x:Cls),(ar t)[af (qDO4 y)]? =ae x->((cW (qDO1 x)+qDOa<=1000000000/\Zn (qDO1 x)=ac/\qDO5+aa (cdC (qDO8 x) (af (qDO4 y)) qDO5)<=1000000000/\aa (aT x)<=8)/\qDO9<=(qDO4 y))/\∀(J:List Ins),J= []++cdC (qDO8 x) (af (qDO4 y)) qDO5->(∃(I:CpX),R (ab,I)/\I.2+qDOa<=y.2/\ac=ac/\(qDO2 t y I)/\(False/\True)/\True)\/∃(I:CpX),R (ac,I)/\I.2+qDOa<=y.2/\ac=ac/\(qDO2 t y I)/\((qDO5=qDO5/\aa J=aa (CpX.L I)/\True)/\True)/\(J=CpX.L I/\fzO (au:Option (List Ins×Nat))=qDO5)/\True)/\(decide ((qDO4 y)<(qDO3 t))=ab->qDO5+qDOa<=qDOa/\True/\(qDO7=ac->l= []/\2=e/\True)/\(qDO7=ab->(qDO5+qDOa<=qDOa/\aw qDOa [dy 16 qDO9 qDO9]=l)/\qDO9=e/\True)))/\∀(y:CpX),R (ac,y)->(decide ((qDO4 y)<(qDO3 t))=ac->qDO9<=(qDO4 y)/\(qDO4 y)+1<=(qDO3 t)/\∀(x:Cls),(ar t)[af (qDO4 y)]? =ae x->(aa (CpX.L y)=aa (CpX.L y)/\qDO5<=aa (CpX.L y)/\(cW (qDO1 x)+qDOa<=1000000000/\Zn (qDO1 x)=ac/\aa (CpX.L y)+aa (cdC (qDO8 x) (af (qDO4 y)) (aa (CpX.L y)))<=1000000000/\aa (aT x)<=8)/\qDO9<=(qDO4 y))/\∀(J:List Ins),J=CpX.L y++cdC (qDO8 x) (af (qDO4 y)) (aa (CpX.L y))->(∃(I:CpX),R (ab,I)/\I.2+qDOa<=y.2/\ac=ac/\(qDO2 t y I)/\(False/\True)/\True)\/∃(I:CpX),R (ac,I)/\I.2+qDOa<=y.2/\ac=ac/\(qDO2 t y I)/\((qDO5=qDO5/\aa J=aa (CpX.L I)/\True)/\True)/\(J=CpX.L I/\fzO (ae (CpX.L y,qDO5))=qDO5)/\True)/\(decide ((qDO4 y)<(qDO3 t))=ab->(aa (CpX.L y)<=aa (CpX.L y)/\qDO5<=aa (CpX.L y)/\(qDO6 y)*24<=140737488355328)/\∀(J:List Ins),J=aw (aa (CpX.L y)) (CpX.L y)++ [dy 16 qDO9 qDO9]->qDO5+(qDO6 y)<=aa J/\True/\((aD (verF (aw (qDO6 y) (cx qDO5 J))) !=qDO9)=ac->l= []/\2=e/\True)/\((aD (verF (aw (qDO6 y) (cx qDO5 J))) !=qDO9)=ab->(qDO5+(qDO6 y)<=aa J/\aw (qDO6 y) J=l)/\qDO9=e/\True)))):=by kernel_rfl
theorem Yne:FnsOk E Fcp:=Zf5 (Zm E_ok (Zb (Zb (Zb F0_ok Ynb) Zq5) Ycc) _ _ _)
theorem Zq3(t:Tar) (h:SmK t):PureC E 11 [.agg (encF ab .tariffs t)] (.tup [.psl dF (Yg t).1 ab,.int ab .i64 (Yg t).2]):=by
 refine Za E_ok (Zd E_ok Yne 400) ?_;rw[Zq2];delta qDO1 qDO3 qDO4 qDO5 qDO2 qDOa qDO6 qDO9 qDO7 qDO8;obtain⟨h1,h2⟩:=h;simp only[Cls.eta,gF];refine⟨⟨λc I=>⟨by have:=(h1 c I).1;omega,by have:=(h1 c I).2;omega⟩,by omega⟩,λhn=> ?_,λhz=> ?_⟩
 ·have hn:Z8 t≠0:=by simpa using hn
  unfold Yg;rw[jJ hn];exact⟨rfl,rfl,jX⟩
 ·have hz:Z8 t=0:=by simpa using hz
  obtain⟨c1,c2,c3⟩:=Yi0 hz;have a0:∀c∈t.clauses,Zn c.pay=ac/\c.pay.sz<=10000/\c.when_.length<=8:=λc I=>⟨(c1 c I).1,(h1 c I).1,c3 c I⟩;have a1:∀k,(cdCs (t.clauses.take k) 0 0).length<=30025*64:=λk=>by
   have a:=Zw6 (k:=0) (o:=0) (λc I=>a0 c (List.mem_of_mem_take I):∀c∈t.clauses.take k,_);have b:(t.clauses.take k).length<=64:=by rw[bi];omega
   have e:(3*10000+25)*(t.clauses.take k).length<=(3*10000+25)*64:=Nat.mul_le_mul_left _ b;omega
  have a2:∀k c,t.clauses[k]? =ae c->cdCs (t.clauses.take (k+1)) 0 0=cdCs (t.clauses.take k) 0 0++cdC c k (cdCs (t.clauses.take k) 0 0).length:=λk c I=>by
   have ek:t.clauses.take (k+1)=t.clauses.take k++ [c]:=by rw[cA,I];rfl
   have hk:k<t.clauses.length:=(ai.1 I).1;have el:0+(t.clauses.take k).length=k:=by rw[bi];omega
   rw[ek,Zva,el,bq]
  have vr:=Ydd c1 c2;have f1:((verF (cdT t)).2 !=0)=ac->(Yg t).1= []/\2=(Yg t).2/\True:=by
   intro q;rw[vr] at q;unfold Yg;rw[jM hz];by_cases g:4096<(cdT t).length\/64<dCs t.clauses
   ·rw[jM g];exact⟨rfl,rfl,jX⟩
   ·rw[jJ g] at q;simp at q
  have f2:((verF (cdT t)).2 !=0)=ab->cdT t=(Yg t).1/\0=(Yg t).2:=by
   intro q;rw[vr] at q;unfold Yg;rw[jM hz];by_cases g:4096<(cdT t).length\/64<dCs t.clauses
   ·rw[jM g] at q;simp at q
   ·rw[jJ g];exact⟨rfl,rfl⟩
  refine⟨λy=>y.2.k<=t.clauses.length/\y.2.L=cdCs (t.clauses.take y.2.k) 0 0/\y.2.r=t.clauses.length-y.2.k/\(y.1=ab->y.2.k=0),.inl ⟨⟨0,t.clauses.length,[]⟩,⟨aW _,rfl,rfl,λ_=>rfl⟩,by simp⟩,?_,?_⟩
  ·rintro⟨k,r,L⟩ ⟨k1,U,k3,k4⟩
   simp only at k1 U k3 k4⊢;obtain rfl:=k4 jX;refine⟨λq=>⟨by omega,by have:=jk q;omega,λc I=> ?_⟩,λq=> ?_⟩
   ·have q:=jk q
    have I:t.clauses[0]? =ae c:=I;have hm:=a0 c (aL I);have R:=a2 0 c I;have hl:=a1 (0+1);rw[R] at hl;have e0:cdCs (t.clauses.take 0) 0 0= []:=rfl;rw[e0] at R hl;have hl:(cdC c 0 0).length<=30025*64:=by simpa using hl
    refine⟨⟨⟨by omega,hm.1,?_,hm.2.2⟩,by omega⟩,λJ el=> .inr ⟨⟨1,t.clauses.length-1,J⟩,⟨by dsimp only;omega,by rw[el];exact R.symm,rfl,λe=>by cases e⟩,(by show t.clauses.length-1+1<=r;omega),?_⟩⟩
    ·show 0+(cdC c 0 0).length<=1000000000
     omega
    ·have w1:wr .i64 1=1:=by decide
     simp[w1,fzO]
   ·have q:=jm q
    have n0:t.clauses= []:=iZ.1 (by omega);have e:aw 1 (cx 0 [dy 16 0 0])=cdT t:=by unfold cdT;rw[n0];rfl
    have e':aw 1 [dy 16 0 0]=cdT t:=e;rw[e,e'];exact⟨by omega,jX,f1,λq=>⟨⟨by omega,(f2 q).1⟩,(f2 q).2,jX⟩⟩
  ·rintro⟨k,r,L⟩ ⟨k1,U,k3,k4⟩
   simp only at k1 U k3 k4⊢;have a3:=a1 k;rw[<-U] at a3;refine⟨λq=>⟨by omega,by have:=jk q;omega,λc I=> ?_⟩,λq=> ?_⟩
   ·have q:=jk q
    have I:t.clauses[k]? =ae c:=I;have hm:=a0 c (aL I);have R:=a2 k c I;have hl:=a1 (k+1);rw[R,<-U,az] at hl;rw[<-U] at R;have tk:af (↑k:Int)=k:=by omega
    rw[tk];refine⟨⟨by simp,aW _,⟨by omega,hm.1,by omega,hm.2.2⟩,by omega⟩,λJ el=> .inr ⟨⟨k+1,t.clauses.length-(k+1),J⟩,⟨by dsimp only;omega,by rw[el];exact R.symm,rfl,λe=>by cases e⟩,(by show t.clauses.length-(k+1)+1<=r;omega),?_⟩⟩;have w1:wr .i64 ((↑k:Int)+1)=↑(k+1):=(wr64 (by omega) (by omega)).trans (by omega);simp[w1,fzO]
   ·have q:=jm q
    obtain rfl:k=t.clauses.length:=by omega
    refine⟨⟨av _,aW _,by omega⟩,λJ el=> ?_⟩;rw[aV] at el;have e:J=cdT t:=by rw[el,U,aV];rfl
    have nl:J.length=L.length+1:=by rw[el];simp
    have e2:aw (L.length+1) (cx 0 J)=cdT t:=by rw[dW,<-nl,aV,e]
    have e3:aw (L.length+1) J=cdT t:=e2;rw[e2,e3];exact⟨by omega,jX,f1,λq=>⟨⟨by omega,(f2 q).1⟩,(f2 q).2,jX⟩⟩
end
section
open Go
theorem Yfp{nm:List Nat} {ts:List Tst} {l:List Tok} {e:Int} {c:Cls} {x:PX} (h:pPay nm ts l e= .ok (c,x)):c.pay.sz<=2*l.length:=by
 unfold pPay at h;split at h
 ·rename_i I
  have R:=Zw I;split at h
  ·cases h
  ·rename_i y z J
   have:=Zpk _ _ _ _ J;split at h
   ·cases h
   ·split at h
    ·cases h
     show y.sz<=_;omega
    ·cases h
 ·cases h
theorem Z2t:∀{k:Nat} {more:Bool} {ts I:List Tst} {l:List Tok} {e:Int} {x:PX},pTs k more ts l e= .ok (I,x)->I.length<=ts.length+k
 |0,more,ts,I,l,e,x,h=>by cases h;exact av _
 |k+1,more,ts,I,l,e,x,h=>by
  unfold pTs at h
  split at h
  ·split at h
   ·cases h
   ·have:=Z2t h
    rw[az] at this
    exact bS this (by simp;omega)
  ·cases h;omega
theorem Yfq{nm:List Nat} {ts:List Tst} {l:List Tok} {e:Int} {c:Cls} {x:PX} (h:pPay nm ts l e= .ok (c,x)):c.when_=ts:=by
 unfold pPay at h;split at h
 ·split at h
  ·cases h
  ·split at h
   ·cases h
   ·split at h
    ·cases h;rfl
    ·cases h
 ·cases h
theorem Zy0{bs:List Cls} {l:List Tok} {e:Int} {c:Cls} {x:PX} (h:Yj bs l e= .ok (c,x)):c.pay.sz<=2*l.length/\c.when_.length<=10:=by
 unfold Yj at h;split at h
 ·cases h
 ·rename_i nm y R
  have U:=U3 R;split at h
  ·cases h
  ·unfold pAft at h
   split at h
   ·cases h
   ·rename_i ts z I
    have h2:=Ztq I;have h3:=Yfp h;have h4:=Zwn (s:= [119,104,101,110]) (l:=y.1);have J:=Z2t I;rw[Yfq h];exact⟨by omega,by simpa using J⟩
theorem Z2u{M:Nat}:∀{k:Nat} {cs I:List Cls} {l:List Tok} {e:Int} {x:PX},(∀c∈cs,c.pay.sz<=2*M/\c.when_.length<=10)->cs.length<=64->l.length<=M->pCls k cs l e= .ok (I,x)->(∀c∈I,c.pay.sz<=2*M/\c.when_.length<=10)/\I.length<=64
 |0,cs,I,l,e,x,J,R,_,h=>by cases h;exact⟨J,R⟩
 |k+1,cs,I,l,e,x,J,R,hl,h=>by
  unfold pCls at h
  split at h
  ·rename_i hw
   have a0:=Zw hw
   split at h
   ·cases h
   ·rename_i hn
    split at h
    ·cases h
    ·rename_i c y U
     have h1:=Zy0 U
     have h2:=Zad U
     refine Z2u (cs:=cs++ [c]) (λd hd=> ?_) (by rw[az];simp;omega) (by omega) h
     rcases cf.1 hd with hd|hd
     ·exact J d hd
     ·rw[ct.1 hd];omega
  ·cases h;exact⟨J,R⟩
theorem Yfr{l:List Tok} {e:Int} {t:Tar} {x:PX} (h:pTar l e= .ok (t,x)):(∀c∈t.clauses,c.pay.sz<=2*l.length/\c.when_.length<=10)/\t.clauses.length<=64:=by
 unfold pTar at h;split at h
 ·rename_i hw
  have h1:=Zw hw;split at h
  ·cases h
  ·rename_i nm y hn
   have h2:=U3 hn;split at h
   ·rename_i a0
    have h3:=Zw a0;split at h
    ·cases h
    ·rename_i k z U
     have I:=U8 U;split at h
     ·rename_i a1
      have h5:=Zw a1;unfold pEnd at h;split at h
      ·cases h
      ·rename_i cs w R
       split at h
       ·split at h
        ·cases h
        ·cases h
         have h6:z.1.length<=y.1.length:=by rw[I.2.2];simp;omega
         exact Z2u (M:=l.length) (λc J=>by cases J) (aW _) (by omega) R
       ·cases h
     ·cases h
   ·cases h
 ·cases h
theorem Zvt(s:List Nat):SmT (Xk s).1:=by
 have I:SmT zT:=by
  refine aC (λc U=> ?_) ?_
  ·cases U
  ·decide
 unfold Xk;split
 ·exact I
 ·have hl:=Zi2 s
  cases h:pTar (Xf s).1 (s.length:Int) with
  |error er=>exact I
  |ok y=>
   obtain⟨t,x⟩:=y;obtain⟨J,h2⟩:=Yfr h;exact⟨λc R=>⟨by have:=(J c R).1;omega,by have:=(J c R).2;omega⟩,by show t.clauses.length<_;omega⟩
end
section
open Go
noncomputable def Z6s:DcL E (Tar×Unit):= .cons (dR .tariffs) .nil
def SmE(t:Tar):Prop:=(∀c∈t.clauses,c.pay.sz<=10000/\c.when_.length<1000000000)/\t.clauses.length<1000000000
noncomputable def SprE:Sum thy:=Zat E (λ_=>au) 10 Z6s (λx=>SmE x.1) (λx=>X9 x.1) λy=> .tup [.str ab y.1,.int ab .i64 y.2]
theorem Z6t:SumOk E 9 SprE:=Ys E_ok (Zc (f:=9) rfl) λx h=>Z1l x.1 h
noncomputable def StyE:Sum thy:=Zat E (λ_=>au) 10 Z6s (λx=>SmE x.1) (λx=>chkP x.1) intV
theorem Yiw:SumOk E 10 StyE:=Ys E_ok (Zc (f:=10) rfl) λx h=>Z9k x.1 ⟨λc I=>⟨by have:=(h.1 c I).1;omega,by have:=(h.1 c I).2;omega⟩,by have:=h.2;omega⟩
noncomputable def SbxE:Sum thy:=Zat E (λ_=>au) 10 Z6s (λx=>SmE x.1) (λx=>chkB x.1) λy=> .int ab .i64 y
theorem Yix:SumOk E 12 SbxE:=Ys E_ok (Zc (f:=12) rfl) λx h=>Ya4 x.1 (λc I=>(h.1 c I).2) h.2
noncomputable def ScpE:Sum thy:=Zat E (λ_=>au) 10 Z6s (λx=>SmE x.1) (λx=>Yg x.1) λy=> .tup [.psl dF y.1 ab,.int ab .i64 y.2]
theorem Z6u:SumOk E 11 ScpE:=Ys E_ok (Zc (f:=11) rfl) λx h=>Zq3 x.1 h
noncomputable def FckE:Fns thy:=addS (addS (addS (addS F0 9 SprE) 10 StyE) 12 SbxE) 11 ScpE
theorem Yiy:FnsOk E FckE:=Zb (Zb (Zb (Zb F0_ok Z6t) Yiw) Yix) Z6u
theorem Yb6(t:Tar) (e:Int):Zk E FckE (vc E FckE 400) 23 [.agg (encF ab .tariffs t)] hp0 0 (λr=>ret E (patch hp0 0 r) r.v (.int ab .i64 e))=(
((∀(c:Cls),c∈ar t->cW (ay c)<=10000/\aa (aT c)+1<=1000000000)/\aa (ar t)+1<=1000000000)/\∀(y:List Nat×Int),y=X9 t->((aD y !=0)=ac->aD y=e)/\((aD y !=0)=ab->((∀(c:Cls),c∈ar t->cW (ay c)<=10000/\aa (aT c)+1<=1000000000)/\aa (ar t)+1<=1000000000)/\∀(y:Int×Int),y=chkP t->((aD y !=0)=ac->aD y=e)/\((aD y !=0)=ab->((∀(c:Cls),c∈ar t->cW (ay c)<=10000/\aa (aT c)+1<=1000000000)/\aa (ar t)+1<=1000000000)/\∀(y:Int),y=chkB t->((y !=0)=ac->y=e)/\((y !=0)=ab->((∀(c:Cls),c∈ar t->cW (ay c)<=10000/\aa (aT c)+1<=1000000000)/\aa (ar t)+1<=1000000000)/\∀(y:List Ins×Int),y=Yg t->((aD y !=0)=ac->aD y=e)/\((aD y !=0)=ab->0=e))))):=by kernel_rfl
noncomputable def eckF(t:Tar):Int:=if(X9 t).2≠0 then(X9 t).2 else if(chkP t).2≠0 then(chkP t).2 else if chkB t≠0 then chkB t else(Yg t).2
theorem Yb7(t:Tar) (h:SmE t):PureC E 23 [.agg (encF ab .tariffs t)] (.int ab .i64 (eckF t)):=by
 refine Za E_ok (Zd E_ok Yiy 400) ?_;rw[Yb6];simp only[iz,gp];have U:(∀c:Cls,c∈t.clauses->c.pay.sz<=10000/\c.when_.length+1<=1000000000)/\t.clauses.length+1<=1000000000:=h;unfold eckF;refine⟨U,λy R=>aC (λI=> ?_) (λI=>⟨U,λy2 a0=>aC (λJ=> ?_) (λJ=>⟨U,λy3 a1=>aC (λh3=> ?_) (λh3=>⟨U,λy4 a2=>aC (λh4=> ?_) (λh4=> ?_)⟩)⟩)⟩)⟩
 ·rw[<-R,jM I]
 ·rw[<-R,jJ (λh=>h I),<-a0,jM J]
 ·rw[<-R,jJ (λh=>h I),<-a0,jJ (λh=>h J),<-a1,jM h3]
 ·rw[<-R,jJ (λh=>h I),<-a0,jJ (λh=>h J),<-a1,jJ (λh=>h h3),<-a2]
 ·rw[<-R,jJ (λh=>h I),<-a0,jJ (λh=>h J),<-a1,jJ (λh=>h h3),<-a2,h4]
noncomputable def SekE:Sum thy:=Zat E (λ_=>au) 10 Z6s (λx=>SmE x.1) (λx=>eckF x.1) λy=> .int ab .i64 y
theorem Z6v:SumOk E 23 SekE:=Ys E_ok (Zc (f:=23) rfl) λx h=>Yb7 x.1 h
def tarE(t:Tar):SV thy:= .agg [.str ab t.name,.int ab .i64 t.for_,.psl bA t.clauses ab]
noncomputable def SpaE:Sum thy:=Ws (dA1 dS) (λ_=>True) (λx=>Xk x.1) λy=> .tup [tarE y.1,.int ab .i64 y.2.1,.int ab .i64 y.2.2]
theorem Yiz:SumOk E 7 SpaE:=Z1 E_ok (Zc (f:=7) rfl) λx _=>Zzr x.1
noncomputable def Fgo:Fns thy:=Znt (addS (addS F0 23 SekE) 7 SpaE)
theorem Ym8:FnsOk E Fgo:=Zf5 (Zb (Zb F0_ok Z6v) Yiz)
abbrev qDQ1(I:Tar):=([]=ba I/\0=aZ I/\ar I= []/\True)
abbrev qDQ2(I:Tar×Int×Int) (J:Tar):=(ba (ak I)=ba J/\aZ (ak I)=aZ J/\(ar (ak I)=ar J/\(ab=ac->ab=ac))/\True)
abbrev qDQ3(I:Tar×Int×Int):=(aD (aD I)==0)
theorem Z6w(s:List Nat) (k:Int) (t:Tar) (e:Int):Zk E Fgo (vc E Fgo 400) 6 [.str ab s,.int ab .i64 k] hp0 0 (λr=>ret E (patch hp0 0 r) r.v (.tup [tarE t,.int ab .i64 e]))=(
 ∃(Q:Bool->Prop),((decide (k<1)=ac->Q ac)/\(decide (k<1)=ab->(decide (k>6)=ac->Q ac)/\(decide (k>6)=ab->Q ab)))/\(Q ac->(qDQ1 t)/\1=e/\True)/\(Q ab->True/\∀(y:Tar×Int×Int),y=Xk s->∃(Q:Bool->Prop),(((qDQ3 y)=ac->((aZ (ak y) !=k)=ac->Q ac)/\((aZ (ak y) !=k)=ab->Q ab))/\((qDQ3 y)=ab->Q ab))/\(Q ac->(qDQ1 t)/\220=e/\True)/\(Q ab->((qDQ3 y)=ac->((∀(c:Cls),c∈ar (ak y)->cW (ay c)<=10000/\aa (aT c)+1<=1000000000)/\aa (ar (ak y))+1<=1000000000)/\∀(I:Int),I=eckF (ak y)->((I !=0)=ac->(qDQ1 t)/\I=e/\True)/\((I !=0)=ab->(qDQ2 y t)/\0=e/\True))/\((qDQ3 y)=ab->((aD (aD y) !=0)=ac->(qDQ1 t)/\aD (aD y)=e/\True)/\((aD (aD y) !=0)=ab->(qDQ2 y t)/\0=e/\True))))):=by kernel_rfl
noncomputable def Z0(s:List Nat) (k:Int):Tar×Int:=
 if k<1\/6<k then(zTE,1) else
 if(Xk s).2.2≠0 then(zTE,(Xk s).2.2) else
 if(Xk s).1.for_≠k then(zTE,220) else
 if eckF (Xk s).1≠0 then(zTE,eckF (Xk s).1) else((Xk s).1,0)
theorem Z6x(s:List Nat) (k:Int):PureC E 6 [.str ab s,.int ab .i64 k] (.tup [tarE (Z0 s k).1,.int ab .i64 (Z0 s k).2]):=by
 refine Za E_ok (Zd E_ok Ym8 400) ?_;rw[Z6w];delta qDQ1 qDQ2 qDQ3;simp only[iz,gp,ij,fV,fO,fG,ne_eq];have U:∀(x:Tar×Int) (e:Int),x=(zTE,e)->([]=x.1.name/\0=x.1.for_/\x.1.clauses= []/\True)/\e=x.2/\True:=λx e h=>by rw[h];exact⟨⟨rfl,rfl,rfl,jX⟩,rfl,jX⟩
 have gr:∀(x:Tar×Int) (t:Tar),x=(t,0)->(t.name=x.1.name/\t.for_=x.1.for_/\(t.clauses=x.1.clauses/\(ab=ac->ab=ac))/\True)/\0=x.2/\True:=λx e h=>by rw[h];exact⟨⟨rfl,rfl,⟨rfl,id⟩,jX⟩,rfl,jX⟩
 unfold Z0;refine⟨λb=>b=ac↔(k<1\/6<k),⟨λh=>⟨λ_=>Or.inl h,λ_=>rfl⟩,λh=>⟨λJ=>⟨λ_=>Or.inr J,λ_=>rfl⟩,λJ=>⟨(λe=>by cases e),λe=>by omega⟩⟩⟩,λI=>U _ _ (by rw[jM (I.1 rfl)]),λI=>⟨jX,λy hy=> ?_⟩⟩;rw[jJ (λh=>by have:=I.2 h;cases this),<-hy];have a0:SmE y.1:=by rw[hy];exact Zvt s
 refine⟨λb=>b=ac↔(y.2.2=0/\y.1.for_≠k),⟨λh=>⟨λJ=>⟨λ_=>⟨h,J⟩,λ_=>rfl⟩,λJ=>⟨(λe=>by cases e),λe=>ka J e.2⟩⟩,λh=>⟨(λe=>by cases e),λe=>ka e.1 h⟩⟩,λI=> ?_,λI=> ?_⟩
 ·have h:=I.1 rfl
  exact U _ _ (by rw[jJ (λx=>x h.1),jM h.2])
 ·have hn:¬(y.2.2=0/\y.1.for_≠k):=λh=>by have:=I.2 h;cases this
  refine aC (λh=>⟨a0,λz hz=>aC (λR=> ?_) (λR=> ?_)⟩) (λh=>aC (λR=> ?_) (λR=>ka R h))
  ·have hf:y.1.for_=k:=bB.1 λx=>hn ⟨h,x⟩
   exact U _ _ (by rw[jJ (λx=>x h),jJ (λx=>x hf),<-hz,jM R])
  ·have hf:y.1.for_=k:=bB.1 λx=>hn ⟨h,x⟩
   exact gr _ _ (by rw[jJ (λx=>x h),jJ (λx=>x hf),<-hz,jJ (λx=>x R)])
  ·exact U _ _ (by rw[jM h])
noncomputable def SgoE:Sum thy:=Ws (.cons dS (.cons (dInt (E:=E) .i64) .nil)) (λ_=>True) (λx=>Z0 x.1 x.2.1) λy=> .tup [tarE y.1,.int ab .i64 y.2]
theorem Zt5:SumOk E 6 SgoE:=Z1 E_ok (Zc (f:=6) rfl) λx _=>Z6x x.1 x.2.1
theorem Zbn:SmE zTE:=⟨(λc I=>by cases I),by decide⟩
theorem Zjt(s:List Nat) (k:Int):SmE (Z0 s k).1:=by
 unfold Z0;split
 ·exact Zbn
 ·split
  ·exact Zbn
  ·split
   ·exact Zbn
   ·split
    ·exact Zbn
    ·exact Zvt s
end
section
open Go Go.RowKit
section
variable {Y:Thy} {E:Eng Y}
def oneR(th:Y.Th) (l:List (Y.dom th)):Hp Y:=λb=>match aO b 0 with|true=>ae (.rows th l 0)|false=>au
def FreshC(E:Eng Y) (f:FuncId) (args:List (SV Y)) (th:Y.Th) (wd:Nat) (l:List (Y.dom th)):Prop:=
 ∀(g:GH) (w:World) (R:Array Value),Inv E w.heap.size σ0 hp0 g w->DenL E σ0 g args R.toList->
  Calls E.P f R w λen U=>∃u,en= .returned u/\∃I J z,Stp 0 0 [] σ0 g w σ0 I U/\Inv E w.heap.size (σ1 (J,z)) (oneR th l) I U/\Den E (σ1 (J,z)) I (.sl 0 0 l.length wd au) u
def Zrl(i:Nat) (th:Y.Th) (I:Nat) (l:List (Y.dom th)):Res Y:=⟨.sl i 0 l.length I au,1,[],at1 i (ae (.rows th l 0)),au⟩
def Zxu(E:Eng Y) (th:Y.Th) (U:Nat) (l:List (Y.dom th)) (r:Res Y):Prop:=
 match r.v with
 | .sl b 0 n a0 _=>aO a0 U=ac/\(match patch hp0 0 r b with
  |some (.rows J R 0)=>U6 (th:=th) R λI=>n=I.length/\I=l
  |some (.raw cs 0 (ae J))=>(match E.dec J cs with
   |some x=>U6 (th:=th) [x] λI=>n=1/\I=l
   |none=>False)
  |_=>False)
 |_=>False
theorem Zfc{th:Y.Th} {l:List (Y.dom th)} {b:Nat} {x:Blk Y} (h:oneR th l b=ae x):b=0/\x= .rows th l 0:=by
 unfold oneR at h;split at h
 ·rename_i e
  cases h;exact⟨ax e,rfl⟩
 ·cases h
theorem Zxv(hE:EngOk E) {σ σ':Pl} {g:GH} {w:World} {r z:Nat} {th:Y.Th} {l:List (Y.dom th)} {fz:Nat} (hn:∀x∈l,nidL 0 (E.enc th x)=ac) (h:BlkOk E σ g w r z (.rows th l fz)):BlkOk E σ' g w r z (.rows th l fz):=by
 obtain⟨arr,e,R,U,h3,h4,h5⟩:=h;refine⟨arr,e,R,U,h3,λj J I=> ?_,h5⟩;obtain⟨v,h6,h7⟩:=h4 j J I;refine⟨v,h6,Zy hE (i:=0) h7 (λb p hb=>by omega) ?_⟩;have hm:J∈l.flatMap (E.enc th):=aL I;obtain⟨x,hx,hs⟩:=List.mem_flatMap.1 hm;obtain⟨k,hk⟩:=List.getElem?_of_mem hs;exact Zs (hn x hx) hk
theorem Yc8(hE:EngOk E) {σ:Pl} {g:GH} {w:World} {r z:Nat} {th:Y.Th} {cs:List (SV Y)} {x:Y.dom th} (hx:E.dec th cs=ae x) (hl:(E.enc th x).length=E.w th) (h:BlkOk E σ g w r z (.raw cs 0 (ae th))):BlkOk E σ g w r z (.rows th [x] 0):=by
 obtain⟨arr,e,h1,h2,R,h4,h5⟩:=h;obtain⟨k1,k2⟩:=hE.dec th cs x hx;have J:(Blk.rows th [x] 0).cells E=E.enc th x:=by
  show[x].flatMap (E.enc th)=_;simp
 have R:cs.length<=z:=R;refine⟨arr,e,h1,h2,by rw[J];omega,λj sv I=> ?_,h5⟩;rw[J] at I;have a0:=(ai.1 I).1;have U:cs[j]? =ae (cs[j]'(by omega)):=ao _;obtain⟨v,h6,h7⟩:=h4 j _ U;exact⟨v,h6,k2 σ g j _ sv v U I h7⟩
theorem Z04(hE:EngOk E) {th:Y.Th} {wd:Nat} {l:List (Y.dom th)} {r:Res Y} (hl:∀x∈l,(E.enc th x).length=E.w th) (I:Zxu E th wd l r):∃b cap x,r.v= .sl b 0 l.length wd cap/\patch hp0 0 r b=ae x/\x.fzc E=0/\∀σ g w q z,BlkOk E σ g w q z x->BlkOk E σ g w q z (.rows th l 0):=by
 unfold Zxu at I;split at I
 case h_2=>exact I.elim
 rename_i b n a1 cap hv;obtain⟨hw,I⟩:=I;have hw:=ax hw;subst hw;split at I
 case h_3=>exact I.elim
 ·rename_i a0 l' U
  obtain⟨e,J,R⟩:=Y6 I;subst e;have R:l'=l:=R;have J:n=l'.length:=J;subst R;subst J;exact⟨b,cap,_,hv,U,by show 0*E.w a0=0;omega,λ_ _ _ _ _ h=>h⟩
 ·rename_i cs a0 U
  split at I
  case h_2=>exact I.elim
  rename_i x hx;obtain⟨e,J,R⟩:=Y6 I;subst e;have R: [x]=l:=R;have J:n=1:=J;subst R;subst J;exact⟨b,cap,_,hv,U,rfl,λ_ _ _ _ _ h=>Yc8 hE hx (hl x (by simp)) h⟩
theorem Zn7(hE:EngOk E) {call:Nat->List (SV Y)->Hp Y->Nat->(Res Y->Prop)->Prop} (a4:Vb E call) {f:Nat} {args:List (SV Y)} {th:Y.Th} {wd:Nat} {l:List (Y.dom th)} (hn:∀x∈l,nidL 0 (E.enc th x)=ac) (hl:∀x∈l,(E.enc th x).length=E.w th) (hk:call f args hp0 0 (Zxu E th wd l)):FreshC E f args th wd l:=by
 obtain⟨r,hr,hR,a7⟩:=a4 f args hp0 0 _ (λb hb=>ka rfl hb) hk;obtain⟨b,cap,blk,hv,hb,a6,a5⟩:=Z04 hE hl hr;have a8:=a7.tri (by rw[hv];rfl);intro g w a9 hI hd;refine(a8 w.heap.size σ0 g w a9 hp0 (λ_ _=>rfl) hI (av _) (λ_ _ _=>rfl) hd).mono ?_;rintro en w' ⟨u,he,σ',g',J,U,a0⟩;rw[hv] at a0;obtain⟨rr,z,R,h2⟩:=U.blk b _ hb;obtain⟨b0,z2,c,hu,h3,h4,h5,h6,h7⟩:=Vc a0;rw[R] at h3;cases h3;have a3:=U.base b rr z R
 refine⟨u,he,g',rr,z,⟨.refl _,λb p h=> .inl h,J.gle,λq o v hv=> ?_,J.gmnew,λq hq _=>J.heap q hq (λb hb z h=>by cases h),J.size,J.os,J.tape,J.output,λb q z R h2=>by cases h2⟩,⟨U.gc,U.gm,λb' x I=> ?_,λb1 b2 r z z' R h2 _ _=> ?_,λb' r z' hs=> ?_,λb' x r z' o v I hs hg=> ?_,λb' x r z' I hs=> ?_,U.glob⟩,?_⟩
 ·rcases J.gcnew q o v hv with h|h|⟨b',h,z',h'⟩
  ·exact .inl h
  ·exact .inr (.inl h)
  ·cases h'
 ·obtain⟨rfl,rfl⟩:=Zfc I
  exact⟨rr,z,rfl,Zxv hE hn (a5 _ _ _ _ _ h2)⟩
 ·have a1:b1=0:=by
   cases I:oneR th l b1 with
   |none=>exact ka I R
   |some x=>exact(Zfc I).1
  have a2:b2=0:=by
   cases I:oneR th l b2 with
   |none=>exact ka I h2
   |some x=>exact(Zfc I).1
  rw[a1,a2]
 ·obtain⟨_,e⟩:=σ1_some hs
  cases e;exact a3
 ·obtain⟨_,e⟩:=σ1_some hs
  cases e;obtain⟨_,rfl⟩:=Zfc I;have:=U.fz b _ rr z o v hb R hg;rw[a6] at this;exact ka this (Nat.not_lt_zero _)
 ·obtain⟨_,e⟩:=σ1_some hs
  cases e;exact U.fm b _ rr z hb R
 ·rw[hu]
  exact .sl rfl h4 h5 h6 (λm h=>by cases h)
theorem FreshC.of_dec{f:Nat} {α:Type} {d:DcL E α} {th:Y.Th} {I:Nat} {l:List (Y.dom th)} {args:List (SV Y)} {x:α} (hx:d.dec args=ae x) (hp:FreshC E f (d.enc x) th I l):FreshC E f args th I l:=by
 intro g w a0 hI hd;obtain⟨k1,k2,k3⟩:=d.ok _ _ hx;refine hp g w a0 hI ⟨by rw[<-k2];exact hd.1,λj sv u J R=> ?_⟩;obtain⟨sv0,U,h4⟩:=k3 σ0 g j sv J;exact h4 u (hd.2 j sv0 u U R)
theorem Up(h:Hp Y) (i:Nat) (th:Y.Th) (U:Nat) (l:List (Y.dom th)) (b:Nat):patch h i (Zrl i th U l) b=if b=i then ae (.rows th l 0) else h b:=by
 show(match memB b []||(bP i b&&aU b (i+1)) with|true=>at1 i (ae (Blk.rows th l 0)) b|false=>h b)=_;by_cases e:b=i
 ·subst e
  have J:bP b b=true:=jE b;have I:aU b (b+1)=true:=by unfold aU;exact jE (b+1)
  rw[jM rfl,J,I];show at1 b (ae (Blk.rows th l 0)) b=_;unfold at1;rw[fP]
 ·have J:(bP i b&&aU b (i+1))=false:=by
   cases I:bP i b with
   |false=>rfl
   |true=>
    cases R:aU b (i+1) with
    |false=>rfl
    |true=>
     have I:=gY I;have R:b+1<=i+1:=gY R;omega
  rw[jJ e,J];rfl
theorem FreshC.tri(hE:EngOk E) {f:FuncId} {args:List (SV Y)} {th:Y.Th} {wd:Nat} {l:List (Y.dom th)} (hp:FreshC E f args th wd l) (hn:∀x∈l,nidL 0 (E.enc th x)=ac) (ha:nidL 0 args=ac) (h:Hp Y) (i:Nat) (hD:DomLt h i):ROk h (Zrl i th wd l)/\Vi E f args h i (Zrl i th wd l):=by
 refine⟨λb hb=>by simp[Zrl] at hb,?_⟩;intro B σ g w a6 hh b3 hI hB a9 hd;have a7:DenL E σ0 g args a6.toList:=⟨hd.1,λj sv u I U=>Zy hE (i:=0) (hd.2 j sv u I U) (λb p hb=>by omega) (Zs ha I)⟩;refine(hp g w a6 (Zx7 hI) a7).mono ?_;rintro en w' ⟨u,he,g',rr,z,hS,a2,hv⟩;have a4:∀r,r<w.heap.size->w'.heap[r]? =w.heap[r]? :=λr hr=>hS.heap r hr (by simp);have a8:σ i=none:=a9 i (av _) (by show i<i+1;omega);have a3:=a2.base 0 rr z rfl
 let σ2:Pl:=λb=>match aO b i with|true=>ae (rr,z)|false=>σ b
 have a1:σ2 i=ae (rr,z):=by show(match aO i i with|true=>ae (rr,z)|false=>σ i)=_;rw[fP]
 have a0:∀b,b≠i->σ2 b=σ b:=λb hb=>by
  show(match aO b i with|true=>ae (rr,z)|false=>σ b)=_;rw[show aO b i=ab from by cases J:aO b i with|false=>rfl|true=>exact ka (ax J) hb]
 have a5:Pl.le σ σ2:=λb p hb=>by
  by_cases e:b=i
  ·subst e;rw[a8] at hb;cases hb
  ·rw[a0 b e];exact hb
 refine⟨u,he,σ2,g',⟨a5,λb p hb=> ?_,hS.gle,λr o v hv=> ?_,hS.gmnew,λr hr _=>a4 r hr,hS.size,hS.os,hS.tape,hS.output,λb r z' I U=> ?_⟩,⟨a2.gc,a2.gm,λb x J=> ?_,λb1 b2 r z1 z2 I U h3 h4=> ?_,λb r z' R=> ?_,λb x r z' o v J R hg=> ?_,λb x r z' J R=> ?_,a2.glob⟩,?_⟩
 ·by_cases e:b=i
  ·exact .inr ⟨by omega,by show b<i+1;omega⟩
  ·rw[a0 b e] at hb
   exact .inl hb
 ·rcases hS.gcnew r o v hv with I|I|⟨b,I,_⟩
  ·exact .inl I
  ·exact .inr (.inl I)
  ·simp at I
 ·by_cases e:b=i
  ·subst e
   rw[a1] at U;cases U;exact .inl a3.1
  ·rw[a0 b e,I] at U
   cases U
 ·rw[Up] at J
  by_cases e:b=i
  ·subst e
   rw[jM rfl] at J;cases J;obtain⟨r0,z0,I,U⟩:=a2.blk 0 (.rows th l 0) rfl;have I:ae (rr,z)=ae (r0,z0):=I;cases I;exact⟨rr,z,a1,Zxv hE hn U⟩
  ·rw[jJ e] at J
   obtain⟨r,z0,I,U⟩:=hI.blk b x J;exact⟨r,z0,by rw[a0 b e];exact I,U.mono a5 hS.gle (a4 r (hI.base b r z0 I).2)⟩
 ·rw[Up] at I U
  by_cases e1:b1=i
  ·by_cases e2:b2=i
   ·rw[e1,e2]
   ·rw[e1,a1] at h3
    rw[a0 b2 e2] at h4;cases h3;have:=(hI.base b2 rr z2 h4).2;have:=a3.1;omega
  ·by_cases e2:b2=i
   ·rw[e2,a1] at h4
    rw[a0 b1 e1] at h3;cases h4;have:=(hI.base b1 rr z1 h3).2;have:=a3.1;omega
   ·rw[jJ e1] at I
    rw[jJ e2] at U;rw[a0 b1 e1] at h3;rw[a0 b2 e2] at h4;exact hI.inj b1 b2 r z1 z2 I U h3 h4
 ·by_cases e:b=i
  ·rw[e,a1] at R
   cases R;exact⟨bS hB a3.1,a3.2⟩
  ·rw[a0 b e] at R
   exact⟨(hI.base b r z' R).1,ck (hI.base b r z' R).2 hS.size⟩
 ·rw[Up] at J
  by_cases e:b=i
  ·subst e
   rw[jM rfl] at J;cases J;rw[a1] at R;cases R;exact a2.fz 0 (.rows th l 0) rr z o v rfl rfl hg
  ·rw[jJ e] at J
   rw[a0 b e] at R;rcases hS.gcnew r o v hg with I|I|⟨b',I,_⟩
   ·exact hI.fz b x r z' o v J R I
   ·have:=(hI.base b r z' R).2;omega
   ·simp at I
 ·rw[Up] at J
  by_cases e:b=i
  ·subst e
   rw[jM rfl] at J;cases J;rw[a1] at R;cases R;exact a2.fm 0 (.rows th l 0) rr z rfl rfl
  ·rw[jJ e] at J
   rw[a0 b e] at R;cases hg:g'.obj r with
   |none=>rfl
   |some es=>
    rcases hS.gmnew r es hg with I|I
    ·rw[hI.fm b x r z' J R] at I;cases I
    ·have:=(hI.base b r z' R).2;omega
 ·obtain⟨b0,z2,c,hu,h3,h4,h5,h6,h7⟩:=Vc hv
  have h3:ae (rr,z)=ae (b0,z2):=h3;cases h3;rw[hu];exact .sl a1 h4 h5 h6 h7
noncomputable def Yj7{α:Type} (d:DcL E α) (th:Y.Th) (I:Nat) (pre:α->Prop) (fn:α->List (Y.dom th)):Sum Y:=λargs h i k=>
 match d.dec args with
 |some x=>pre x/\∀y:List (Y.dom th),y=fn x->k (Zrl i th I y)
 |none=>False
theorem Yc9(hE:EngOk E) {α:Type} {f:Nat} (hg:FnGood E.P f) {d:DcL E α} {th:Y.Th} {U:Nat} {pre:α->Prop} {fn:α->List (Y.dom th)} (hn:∀x:Y.dom th,nidL 0 (E.enc th x)=ac) (hp:∀x,pre x->FreshC E f (d.enc x) th U (fn x)):SumOk E f (Yj7 d th U pre fn):=by
 refine⟨hg,λargs h i k hD I=> ?_⟩;unfold Yj7 at I;split at I
 ·rename_i x R
  obtain⟨a0,I⟩:=I;have J:=(FreshC.of_dec R (hp x a0)).tri hE (λy _=>hn y) (d.ok _ _ R).1 h i hD;exact⟨_,I _ rfl,J.1,.inl J.2⟩
 ·exact I.elim
end
end
section
open Go
structure AmX where
 k:Nat
 r:Nat
 m:List (List Nat×Cls)
 L:List Cls
noncomputable def mapB(l:List (List Nat×Cls)):Blk thy:= .map (Zi (Zl E bA ac) l)
noncomputable def Aam1:Fr thy->Hp thy->Nat->Ann thy:=λT h i=>{X:=AmX,fr:=λx=> [(2,T 2),(3,T 3),(4,T 4),(5,T 5),(19,T 19),(20,T 20),(21,.int ab .i64 x.k)],bl:=λx=>(bOf (T 5),mapB x.m)::(blkP h (T 2)++(blkP h (T 3)++blkP h (T 4))),src:=λ_=> [],md:= [bOf (T 5)],ih:=i,M:=i+30,meas:=λx=>x.r}
noncomputable def Aam2:Fr thy->Hp thy->Nat->Ann thy:=λT h i=>{X:=AmX,fr:=λx=> [(2,T 2),(3,T 3),(4,T 4),(5,T 5),(8,T 8),(33,T 33),(34,T 34),(35,.int ab .i64 x.k)],bl:=λx=>(bOf (T 5),mapB x.m)::(bOf (T 8),.rows bA x.L 0)::(blkP h (T 2)++(blkP h (T 3)++blkP h (T 4))),src:=λ_=> [],md:= [bOf (T 5),bOf (T 8)],ih:=i,M:=i+30,meas:=λx=>x.r}
noncomputable def Aam3:Fr thy->Hp thy->Nat->Ann thy:=λT h i=>{X:=AmX,fr:=λx=> [(2,T 2),(4,T 4),(5,T 5),(8,.sl i 0 x.L.length 9 au),(57,T 57),(58,T 58),(59,.int ab .i64 x.k)],bl:=λx=>(bOf (T 5),mapB x.m)::(i,.rows bA x.L 0)::(blkP h (T 2)++blkP h (T 4)),src:=λ_=> [(i,8)],md:= [bOf (T 8)],ih:=i+1,M:=i+40,meas:=λx=>x.r}
def blk0:SV thy->List (Nat×Blk thy):=λv=>match v with| .sl b _ _ _ _=> [(b,.rows bA [] 0)]|_=> []
noncomputable def Aam0:Fr thy->Hp thy->Nat->Ann thy:=λT h i=>{X:=Bool×AmX,fr:=λx=> [(2,T 2),(4,T 4),(5,T 5),(8,match x.1 with|true=> .sl i 0 x.2.L.length 9 au|false=>T 8),(57,T 57),(58,T 58),(59,.int ab .i64 x.2.k)],bl:=λx=>(bOf (T 5),mapB x.2.m)::((match x.1 with|true=> [(i,.rows bA x.2.L 0)]|false=>blk0 (T 8))++(blkP h (T 2)++blkP h (T 4))),src:=λx=>(match x.1 with|true=> [(i,8)]|false=> []),md:= [],ih:=i+1,M:=i+40,meas:=λx=>x.2.r,ex:=ex2,al:=al2,exOk:=Zgg,alOk:=Zgh}
theorem Ybj(l v:List Cls):Zk E F0 (vc E F0 400) 94 [.psl bA l ab] hp0 0 (Zxu E bA 9 v)=(
(l= []->False)/\(l= []->ac=ac/\False)/\(l≠ []->(0+1<=0+aa l/\(0+aa l)*112<=140737488355328)/\ac=ac/\0+aa l=aa ([]++l)/\ []++l=v)):=by kernel_rfl
theorem Z5y(x:Cls):nidL 0 (E.enc bA x)=true:=rfl
theorem Z5z(l:List Cls) (I:l≠ []) (J:l.length<=1000000000):FreshC E 94 [.psl bA l ab] bA 9 l:=by
 refine Zn7 E_ok (Zd E_ok F0_ok 400) (λx _=>Z5y x) (λx _=>rfl) ?_;rw[Ybj];have R:=List.length_pos_iff.2 I;exact⟨I,λh=>ka h I,λ_=>⟨⟨by omega,by omega⟩,rfl,bq _,rfl⟩⟩
noncomputable def Scln:Sum thy:=Yj7 (.cons dCls .nil) bA 9 (λx=>x.1≠ []/\x.1.length<=1000000000) λx=>(x.1:List Cls)
theorem Yie:SumOk E 94 Scln:=Yc9 E_ok (Zc (f:=94) rfl) Z5y λx h=>Z5z x.1 h.1 h.2
noncomputable def Fam:Fns thy:=addL (addL (addL (addS F0 94 Scln) 48 3 Aam1 E) 48 9 Aam2 E) 48 17 Aam3 E
noncomputable def Fam0:Fns thy:=addL (addL F0 48 3 Aam1 E) 48 17 Aam0 E
theorem Ymj:FnsOk E Fam:=Zm E_ok (Zm E_ok (Zm E_ok (Zb F0_ok Yie) _ _ _) _ _ _) _ _ _
theorem Z50:FnsOk E Fam0:=Zm E_ok (Zm E_ok F0_ok _ _ _) _ _ _
abbrev Vn:Prop:=
 ([]:List Nat)= []/\(0:Int)=0/\aG au 0 0=aG au 0 0/\True
abbrev Vo(t:Tar):Prop:=
 ba t=ba t/\aZ t=aZ t/\(ar t=ar t/\(ab=ac->ab=ac))/\True
abbrev Zag(a:Tar):Prop:=
 ar a=ar a/\(ab=ac->ab=ac)
abbrev Zhe(I:Cls):=
 (bV (aM (ay I)) (bX (ay I)) (bD (ay I)) (bE (ay I)) (bF (ay I)) (bG (ay I)) (bw (ay I)))
abbrev Zhf(x:AmX) (I:AmX):Prop:=
 Zi (Zl E bA ac) (AmX.m x)=Zi (Zl E bA ac) (AmX.m I)/\nidE 0 (Zi (Zl E bA ac) (AmX.m x))=ac
abbrev Zcf(a:Tar):Prop:=
 ba a=ba a/\aZ a=aZ a/\(Zag a)/\True
abbrev Zev(y:List Cls):Prop:=
 0=0/\aa y=aa y/\True
abbrev Zew(l:List (List Nat×Cls)):Prop:=
 ∀(p:List Nat×Cls),p∈l->toL (mkS (ak p))=ak p
abbrev Zex(x:AmX) (a:Tar):Prop:=
 (↑(AmX.k x):Int)<(↑(aa (ar a)):Int)
abbrev Znj(x:AmX) (I:AmX):Prop:=
 Zi (Zl E bA ac) (AmX.m x)=Zi (Zl E bA ac) (AmX.m I)/\nidE 0 (Zi (Zl E bA ac) (AmX.m x))=ac
noncomputable abbrev qDS2:=0
noncomputable abbrev qDS8:=1
noncomputable abbrev qDS1:=(Zl E bA (Zh (il #[fU "Name" (9:TypeId) qDS2 ab "" "" qDS2,fU "When" (61:TypeId) qDS8 ab "" "" 16,fU "Pay" (66:TypeId) 2 ab "" "" 40])))
noncomputable abbrev qDS3(I:Tar):=(↑(aa (ar I)):Int)
noncomputable abbrev qDS4(I:AmX):=(↑(AmX.k I):Int)
noncomputable abbrev qDS5:=(Zl E bA ac)
noncomputable abbrev qDS6(I:List Cls):=(↑(aa I):Int)
noncomputable abbrev qDS7(I:List Cls) (J:AmX) (R:AmX):=(qDS2=qDS2/\qDS2=qDS2/\qDS2=qDS2/\True/\(Zev I)/\(Zev I)/\(qDS6 I)=(qDS6 I)/\wr ag ((qDS4 J)+1)=(qDS4 R)/\True)
theorem Zz6(t a:Tar) (z:Tar):Zk E Fam (vc E Fam 400) 48 [.agg (encF ab .tariffs t),.agg (encF ab .tariffs a)] hp0 0 (λr=>ret E (patch hp0 0 r) r.v (tarE z))=(
 ∃(R:AmX->Prop),(∃(x:AmX),R x/\ac=ac/\(qDS2=qDS2/\qDS2=qDS2/\qDS2=qDS2/\True/\(Zag a)/\(qDS3 a)=(qDS3 a)/\0=(qDS4 x)/\True)/\([]=Zi qDS5 (AmX.m x)/\ac=ac)/\(Vo t)/\(Zcf a)/\(Vn)/\True)/\∀(x:AmX),R x->(decide (Zex x a)=ac->0<=(qDS4 x)/\(qDS4 x)+1<=(qDS3 a)/\∀(I:Cls),(ar a)[af (qDS4 x)]? =ae I->∃(l:List (List Nat×Cls)),Zi qDS5 (AmX.m x)=Zi qDS1 l/\(Zew l)/\toL (mkS (aK I))=aK I/\∃(J:AmX),R J/\J.2+qDS8<=x.2/\ac=ac/\(qDS2=qDS2/\qDS2=qDS2/\qDS2=qDS2/\True/\(Zag a)/\(qDS3 a)=(qDS3 a)/\wr ag ((qDS4 x)+1)=(qDS4 J)/\True)/\(Zi qDS1 (putS l (aK I) (eF (aK I) (aT I) (Zhe I)))=Zi qDS5 (AmX.m J)/\nidE qDS2 (Zi qDS1 (putS l (aK I) (eF (aK I) (aT I) (Zhe I))))=ac)/\(Vo t)/\(Zcf a)/\(Vn)/\True)/\(decide (Zex x a)=ab->((ar t= []->False)/\aa (ar t)<=1000000000)/\∀(y:List Cls),y=ar t->∃(R:AmX->Prop),(∃(I:AmX),R I/\ac=ac/\(qDS2=qDS2/\qDS2=qDS2/\qDS2=qDS2/\True/\(Zev y)/\(Zev y)/\(qDS6 y)=(qDS6 y)/\0=(qDS4 I)/\True)/\(Znj x I)/\(y=AmX.L I/\qDS2=qDS2)/\(Vo t)/\(Zcf a)/\(Vn)/\True)/\∀(x:AmX),R x->(decide ((qDS4 x)<(qDS6 y))=ac->(0<=(qDS4 x)/\(qDS4 x)+1<=(qDS6 y))/\qDS2+af (qDS4 x)+qDS8<=aa (AmX.L x)/\∀(I:Cls),(AmX.L x)[qDS2+af (qDS4 x)]? =ae I->∃(l:List (List Nat×Cls)),Zi qDS5 (AmX.m x)=Zi qDS1 l/\(Zew l)/\(∀(U:Cls),Zt l (aK I)=ae U->(0<=(qDS4 x)/\(qDS4 x)+1<=(qDS6 y))/\qDS2<=qDS2+af (qDS4 x)/\qDS2+af (qDS4 x)+qDS8<=aa (AmX.L x)/\∀(J:Cls),(AmX.L x)[qDS2+af (qDS4 x)]? =ae J->∃(l:List (List Nat×Cls)),Zi qDS5 (AmX.m x)=Zi qDS1 l/\(Zew l)/\∃(a0:AmX),R a0/\a0.2+qDS8<=x.2/\ac=ac/\(qDS7 y x a0)/\(Zi qDS1 (delS l (aK I))=Zi qDS5 (AmX.m a0)/\nidE qDS2 (Zi qDS1 (delS l (aK I)))=ac)/\(dx (AmX.L x) (qDS2+af (qDS4 x)) (eF (aK U) (aT U) (bV (aM (ay U)) (bX (ay U)) (bD (ay U)) (bE (ay U)) (bF (ay U)) (bG (ay U)) (bw (ay U))))=AmX.L a0/\qDS2=qDS2)/\(Vo t)/\(Zcf a)/\(Vn)/\True)/\(Zt l (aK I)=au->∃(J:AmX),R J/\J.2+qDS8<=x.2/\ac=ac/\(qDS7 y x J)/\(Zhf x J)/\(AmX.L x=AmX.L J/\qDS2=qDS2)/\(Vo t)/\(Zcf a)/\(Vn)/\True))/\(decide ((qDS4 x)<(qDS6 y))=ab->∃(R:AmX->Prop),(∃(I:AmX),R I/\ac=ac/\(qDS2=qDS2/\qDS2=qDS2/\True/\(qDS2=qDS2/\aa y=aa (AmX.L I)/\True)/\(Zag a)/\(qDS3 a)=(qDS3 a)/\0=(qDS4 I)/\True)/\(Znj x I)/\(AmX.L x=AmX.L I/\qDS2=qDS2)/\(Vo t)/\(Vn)/\True)/\∀(x:AmX),R x->(decide (Zex x a)=ac->0<=(qDS4 x)/\(qDS4 x)+1<=(qDS3 a)/\∀(I:Cls),(ar a)[af (qDS4 x)]? =ae I->∃(l:List (List Nat×Cls)),Zi qDS5 (AmX.m x)=Zi qDS1 l/\(Zew l)/\(∀(y:Cls),Zt l (aK I)=ae y->(aa (AmX.L x)<=aa (AmX.L x)/\qDS2<=aa (AmX.L x)/\(aa (AmX.L x)+qDS8)*112<=140737488355328)/\∃(J:AmX),R J/\J.2+qDS8<=x.2/\ac=ac/\(qDS2=qDS2/\qDS2=qDS2/\True/\(qDS2=qDS2/\aa (AmX.L x)+qDS8=aa (AmX.L J)/\True)/\(Zag a)/\(qDS3 a)=(qDS3 a)/\wr ag ((qDS4 x)+1)=
(qDS4 J)/\True)/\(Zhf x J)/\(aw (aa (AmX.L x)) (AmX.L x)++ [eF (aK I) (aT I) (Zhe I)]=AmX.L J/\qDS2=qDS2)/\(Vo t)/\(Vn)/\True)/\(Zt l (aK I)=au->∃(J:AmX),R J/\J.2+qDS8<=x.2/\ac=ac/\(qDS2=qDS2/\qDS2=qDS2/\True/\(qDS2=qDS2/\aa (AmX.L x)=aa (AmX.L J)/\True)/\(Zag a)/\(qDS3 a)=(qDS3 a)/\wr ag ((qDS4 x)+1)=(qDS4 J)/\True)/\(Zhf x J)/\(AmX.L x=AmX.L J/\qDS2=qDS2)/\(Vo t)/\(Vn)/\True))/\(decide (Zex x a)=ab->ba t=ba z/\aZ t=aZ z/\(qDS2+aa (AmX.L x)<=aa (AmX.L x)/\aw (aa (AmX.L x)) (AmX.L x)=ar z)/\True)))):=by kernel_rfl
abbrev Zjg:Prop:=
 ([]:List Nat)= []/\(0:Int)=0/\aG au 0 0=aG au 0 0/\True
abbrev Xy(nm:List Nat) (I:Int):Prop:=
 nm=nm/\I=I/\aG au 0 0=aG au 0 0/\True
abbrev Y8(a:Tar):Prop:=
 ar a=ar a/\(ab=ac->ab=ac)
abbrev Zjh(R:Bool×AmX->Prop) (y:AmX) (a:Tar) (nm:List Nat) (J:Int):Prop:=
 ∃(I:AmX),R (ab,I)/\I.2+1<=y.2/\ac=ac/\(0=0/\0=0/\True/\False/\(Y8 a)/\(↑(aa
 (ar a)):Int)=(↑(aa (ar a)):Int)/\wr ag ((↑(AmX.k y):Int)+1)=(↑(AmX.k I):Int)/\True)/\(Zi (Zl E bA
 ac) (AmX.m y)=Zi (Zl E bA ac) (AmX.m I)/\nidE 0 (Zi (Zl E bA ac) (AmX.m y))=ac)/\(Xy nm J)/\(Zjg)/\True
abbrev Zey(y:AmX) (I:AmX):Prop:=
 Zi (Zl E bA ac) (AmX.m y)=Zi (Zl E bA ac) (AmX.m I)/\nidE 0 (Zi (Zl E bA ac) (AmX.m y))=ac
abbrev Zji(I:Cls):=
 (eF (aK I) (aT I) (bV (aM (ay I)) (bX (ay I)) (bD (ay I)) (bE (ay I)) (bF (ay I)) (bG (ay I))
 (bw (ay I))))
abbrev Zjj(x:Cls):=
 (bV (aM (ay x)) (bX (ay x)) (bD (ay x)) (bE (ay x)) (bF (ay x)) (bG (ay x)) (bw (ay x)))
abbrev Zbh(y:AmX) (a:Tar):Prop:=
 (↑(AmX.k y):Int)<(↑(aa (ar a)):Int)
abbrev Zjk(y:AmX) (I:AmX):Prop:=
 Zi (Zl E bA ac) (AmX.m y)=Zi (Zl E bA ac) (AmX.m I)/\nidE 0 (Zi (Zl E bA ac) (AmX.m y))=ac
noncomputable abbrev qDSb:=0
noncomputable abbrev qDSg:=1
noncomputable abbrev qDS9:=(Zl E bA (Zh (il #[fU "Name" (9:TypeId) qDSb ab "" "" qDSb,fU "When" (61:TypeId) qDSg ab "" "" 16,fU "Pay" (66:TypeId) 2 ab "" "" 40])))
noncomputable abbrev qDSa(I:Tar):=(↑(aa (ar I)):Int)
noncomputable abbrev qDSc(I:AmX):=(↑(AmX.k I):Int)
noncomputable abbrev qDSd:=(Zl E bA ac)
noncomputable abbrev qDSe(I:List (List Nat×Cls)):=(∀(p:List Nat×Cls),p∈I->toL (mkS (ak p))=ak p)
noncomputable abbrev qDSf(I:AmX):=((qDSc I)+1)
noncomputable abbrev qDSh:=(Zjg)
theorem Zt0(nm:List Nat) (J:Int) (a:Tar) (z:Tar):Zk E Fam0 (vc E Fam0 400) 48 [.agg [.str ab nm,.int ab .i64 J,.val (.slice au 0 0)],.agg (encF ab .tariffs a)] hp0 0 (λr=>ret E (patch hp0 0 r) r.v (tarE z))=(
 ∃(R:AmX->Prop),(∃(x:AmX),R x/\ac=ac/\(qDSb=qDSb/\qDSb=qDSb/\qDSb=qDSb/\True/\(Y8 a)/\(qDSa a)=(qDSa a)/\0=(qDSc x)/\True)/\([]=Zi qDSd (AmX.m x)/\ac=ac)/\(Xy nm J)/\(ba a=ba a/\aZ a=aZ a/\(Y8 a)/\True)/\qDSh/\True)/\∀(x:AmX),R x->(decide ((qDSc x)<(qDSa a))=ac->0<=(qDSc x)/\(qDSc x)+1<=(qDSa a)/\∀(a0:Cls),(ar a)[af (qDSc x)]? =ae a0->∃(l:List (List Nat×Cls)),Zi qDSd (AmX.m x)=Zi qDS9 l/\(qDSe l)/\toL (mkS (aK a0))=aK a0/\∃(a1:AmX),R a1/\a1.2+qDSg<=x.2/\ac=ac/\(qDSb=qDSb/\qDSb=qDSb/\qDSb=qDSb/\True/\(Y8 a)/\(qDSa a)=(qDSa a)/\wr ag (qDSf x)=(qDSc a1)/\True)/\(Zi qDS9 (putS l (aK a0) (Zji a0))=Zi qDSd (AmX.m a1)/\nidE qDSb (Zi qDS9 (putS l (aK a0) (Zji a0)))=ac)/\(Xy nm J)/\(ba a=ba a/\aZ a=aZ a/\(Y8 a)/\True)/\qDSh/\True)/\(decide ((qDSc x)<(qDSa a))=ab->∃(R:Bool×AmX->Prop),((∃(y:AmX),R (ab,y)/\ac=ac/\(qDSb=qDSb/\qDSb=qDSb/\True/\aG au qDSb qDSb=aG au qDSb qDSb/\(Y8 a)/\(qDSa a)=(qDSa a)/\0=(qDSc y)/\True)/\(Zi qDSd (AmX.m x)=Zi qDSd (AmX.m y)/\nidE qDSb (Zi qDSd (AmX.m x))=ac)/\(Xy nm J)/\qDSh/\True)\/∃(y:AmX),R (ac,y)/\ac=ac/\False)/\(∀(y:AmX),R (ab,y)->(decide (Zbh y a)=ac->0<=(qDSc y)/\(qDSc y)+1<=(qDSa a)/\∀(x:Cls),(ar a)[af (qDSc y)]? =ae x->∃(l:List (List Nat×Cls)),Zi qDSd (AmX.m y)=Zi qDS9 l/\(qDSe l)/\(∀(I:Cls),Zt l (aK x)=ae I->(Zjh R y a nm J)\/∃(U:AmX),R (ac,U)/\U.2+qDSg<=y.2/\ac=ac/\(qDSb=qDSb/\qDSb=qDSb/\True/\(qDSb=qDSb/\qDSg=aa (AmX.L U)/\True)/\(Y8 a)/\(qDSa a)=(qDSa a)/\wr ag (qDSf y)=(qDSc U)/\True)/\(Zjk y U)/\([eF (aK x) (aT x) (Zjj x)]=AmX.L U/\qDSb=qDSb)/\(Xy nm J)/\qDSh/\True)/\(Zt l (aK x)=au->(∃(I:AmX),R (ab,I)/\I.2+qDSg<=y.2/\ac=ac/\(qDSb=qDSb/\qDSb=qDSb/\True/\aG au qDSb qDSb=aG au qDSb qDSb/\(Y8 a)/\(qDSa a)=(qDSa a)/\wr ag (qDSf y)=(qDSc I)/\True)/\(Zey y I)/\(Xy nm J)/\qDSh/\True)\/∃(I:AmX),R (ac,I)/\I.2+qDSg<=y.2/\ac=ac/\False))/\(decide (Zbh y a)=ab->nm=ba z/\J=aZ z/\ar z= []/\True))/\∀(y:AmX),R (ac,y)->(decide (Zbh y a)=ac->0<=(qDSc y)/\(qDSc y)+1<=(qDSa a)/\∀(x:Cls),(ar a)[af (qDSc y)]? =ae x->∃(l:List (List Nat×Cls)),Zi qDSd (AmX.m y)=Zi qDS9 l/\(qDSe l)/\(∀(I:Cls),Zt l (aK x)=ae I->(aa (AmX.L y)<=aa (AmX.L y)/\qDSb<=aa (AmX.L y)/\(aa (AmX.L y)+qDSg)*112<=140737488355328)/\((Zjh R y a nm J)\/∃(U:AmX),R (ac,U)/\U.2+qDSg<=y.2/\ac=ac/\(qDSb=qDSb/\qDSb=qDSb/\True/\(qDSb=qDSb/\aa (AmX.L y)+qDSg=aa (AmX.L U)/\True)/\(Y8 a)/\(qDSa a)=(qDSa a)/\wr ag (qDSf y)=(qDSc U)/\True)/\(Zjk y U)/\(aw (aa (AmX.L y)) (AmX.L y)++ [eF (aK x) (aT x) (Zjj x)]=AmX.L U/\qDSb=qDSb)/\(Xy nm J)/\qDSh/\True))/\(Zt l (aK x)=au->(∃(I:AmX),R (ab,I)/\I.2+qDSg<=y.2/\ac=ac/\(qDSb=qDSb/\qDSb=qDSb/\True/\False/\(Y8 a)/\(qDSa a)=(qDSa a)/\wr ag (qDSf y)=(qDSc I)/\True)/\(Zey y I)/\(Xy nm J)/\qDSh/\True)\/∃(I:AmX),R
(ac,I)/\I.2+qDSg<=y.2/\ac=ac/\(qDSb=qDSb/\qDSb=qDSb/\True/\(qDSb=qDSb/\aa (AmX.L y)=aa (AmX.L I)/\True)/\(Y8 a)/\(qDSa a)=(qDSa a)/\wr ag (qDSf y)=(qDSc I)/\True)/\(Zey y I)/\(AmX.L y=AmX.L I/\qDSb=qDSb)/\(Xy nm J)/\qDSh/\True))/\(decide (Zbh y a)=ab->nm=ba z/\J=aZ z/\(qDSb+aa (AmX.L y)<=aa (AmX.L y)/\aw (aa (AmX.L y)) (AmX.L y)=ar z)/\True))):=by kernel_rfl
abbrev Zqq:Prop:=
 ([]:List Nat)= []/\(0:Int)=0/\aG au 0 0=aG au 0 0/\True
abbrev Xm(nm:List Nat) (I:Int) (b:Addr) (c:Nat):Prop:=
 nm=nm/\I=I/\aG (ae b) 0 c=aG (ae b) 0 c/\True
abbrev Y9(a:Tar):Prop:=
 ar a=ar a/\(ab=ac->ab=ac)
abbrev Zbi(y:AmX) (I:AmX):Prop:=
 Zi (Zl E bA ac) (AmX.m y)=Zi (Zl E bA ac) (AmX.m I)/\nidE 0 (Zi (Zl E bA ac) (AmX.m y))=ac
abbrev Zez(y:AmX) (I:AmX):Prop:=
 Zi (Zl E bA ac) (AmX.m y)=Zi (Zl E bA ac) (AmX.m I)/\nidE 0 (Zi (Zl E bA ac) (AmX.m y))=ac
abbrev Zjl(a:Tar) (y:AmX) (I:AmX):Prop:=
 0=0/\0=0/\True/\False/\(Y9 a)/\(↑(aa (ar a)):Int)=(↑(aa (ar a)):Int)/\wr ag
 ((↑(AmX.k y):Int)+1)=(↑(AmX.k I):Int)/\True
abbrev Zjm(I:Cls):=
 (eF (aK I) (aT I) (bV (aM (ay I)) (bX (ay I)) (bD (ay I)) (bE (ay I)) (bF (ay I)) (bG (ay I))
 (bw (ay I))))
abbrev Zjn(x:Cls):=
 (bV (aM (ay x)) (bX (ay x)) (bD (ay x)) (bE (ay x)) (bF (ay x)) (bG (ay x)) (bw (ay x)))
abbrev Zbj(y:AmX) (a:Tar):Prop:=
 (↑(AmX.k y):Int)<(↑(aa (ar a)):Int)
noncomputable abbrev qDSp:=1
noncomputable abbrev qDSk:=0
noncomputable abbrev qDSi:=(Zl E bA (Zh (il #[fU "Name" (9:TypeId) qDSk ab "" "" qDSk,fU "When" (61:TypeId) qDSp ab "" "" 16,fU "Pay" (66:TypeId) 2 ab "" "" 40])))
noncomputable abbrev qDSj(I:Tar):=(↑(aa (ar I)):Int)
noncomputable abbrev qDSl(I:AmX):=(↑(AmX.k I):Int)
noncomputable abbrev qDSm:=(Zl E bA ac)
noncomputable abbrev qDSn(I:List (List Nat×Cls)):=(∀(p:List Nat×Cls),p∈I->toL (mkS (ak p))=ak p)
noncomputable abbrev qDSo:=([]:List Cls)
noncomputable abbrev qDSq:=(Zqq)
noncomputable abbrev qDSr(I:AmX):=((qDSl I)+1)
theorem Zt1(nm:List Nat) (U:Int) (b:Addr) (c:Nat) (a:Tar) (z:Tar):Zk E Fam0 (vc E Fam0 400) 48 [.agg [.str ab nm,.int ab .i64 U,.val (.slice (ae b) 0 c)],.agg (encF ab .tariffs a)] hp0 0 (λr=>ret E (patch hp0 0 r) r.v (tarE z))=(
 ∃(R:AmX->Prop),(∃(x:AmX),R x/\ac=ac/\(qDSk=qDSk/\qDSk=qDSk/\qDSk=qDSk/\True/\(Y9 a)/\(qDSj a)=(qDSj a)/\0=(qDSl x)/\True)/\([]=Zi qDSm (AmX.m x)/\ac=ac)/\(Xm nm U b c)/\(ba a=ba a/\aZ a=aZ a/\(Y9 a)/\True)/\qDSq/\True)/\∀(x:AmX),R x->(decide ((qDSl x)<(qDSj a))=ac->0<=(qDSl x)/\(qDSl x)+1<=(qDSj a)/\∀(a0:Cls),(ar a)[af (qDSl x)]? =ae a0->∃(l:List (List Nat×Cls)),Zi qDSm (AmX.m x)=Zi qDSi l/\(qDSn l)/\toL (mkS (aK a0))=aK a0/\∃(a1:AmX),R a1/\a1.2+qDSp<=x.2/\ac=ac/\(qDSk=qDSk/\qDSk=qDSk/\qDSk=qDSk/\True/\(Y9 a)/\(qDSj a)=(qDSj a)/\wr ag (qDSr x)=(qDSl a1)/\True)/\(Zi qDSi (putS l (aK a0) (Zjm a0))=Zi qDSm (AmX.m a1)/\nidE qDSk (Zi qDSi (putS l (aK a0) (Zjm a0)))=ac)/\(Xm nm U b c)/\(ba a=ba a/\aZ a=aZ a/\(Y9 a)/\True)/\qDSq/\True)/\(decide ((qDSl x)<(qDSj a))=ab->c<=maxLen/\∃(R:Bool×AmX->Prop),((∃(y:AmX),R (ab,y)/\ac=ac/\(qDSk=qDSk/\qDSk=qDSk/\True/\(qDSk=qDSk/\qDSk=qDSk/\qDSk=qDSk)/\(Y9 a)/\(qDSj a)=(qDSj a)/\0=(qDSl y)/\True)/\(Zi qDSm (AmX.m x)=Zi qDSm (AmX.m y)/\nidE qDSk (Zi qDSm (AmX.m x))=ac)/\qDSo= []/\(Xm nm U b c)/\qDSq/\True)\/∃(y:AmX),R (ac,y)/\ac=ac/\False)/\(∀(y:AmX),R (ab,y)->(decide (Zbj y a)=ac->0<=(qDSl y)/\(qDSl y)+1<=(qDSj a)/\∀(x:Cls),(ar a)[af (qDSl y)]? =ae x->∃(l:List (List Nat×Cls)),Zi qDSm (AmX.m y)=Zi qDSi l/\(qDSn l)/\(∀(I:Cls),Zt l (aK x)=ae I->qDSk+qDSk<=qDSk/\(qDSk+qDSp<=aa (aw qDSk qDSo)+qDSp/\(aa (aw qDSk qDSo)+qDSp)*112<=140737488355328)/\((∃(J:AmX),R (ab,J)/\J.2+qDSp<=y.2/\ac=ac/\(Zjl a y J)/\(Zbi y J)/\(qDSo= []/\qDSk=qDSk)/\(Xm nm U b c)/\qDSq/\True)\/∃(J:AmX),R (ac,J)/\J.2+qDSp<=y.2/\ac=ac/\(qDSk=qDSk/\qDSk=qDSk/\True/\(qDSk=qDSk/\aa (aw qDSk qDSo)+qDSp=aa (AmX.L J)/\True)/\(Y9 a)/\(qDSj a)=(qDSj a)/\wr ag (qDSr y)=(qDSl J)/\True)/\(Zbi y J)/\(aw qDSk qDSo++ [eF (aK x) (aT x) (Zjn x)]=AmX.L J/\qDSk=qDSk)/\(Xm nm U b c)/\qDSq/\True))/\(Zt l (aK x)=au->(∃(I:AmX),R (ab,I)/\I.2+qDSp<=y.2/\ac=ac/\(qDSk=qDSk/\qDSk=qDSk/\True/\(qDSk=qDSk/\qDSk=qDSk/\qDSk=qDSk)/\(Y9 a)/\(qDSj a)=(qDSj a)/\wr ag (qDSr y)=(qDSl I)/\True)/\(Zez y I)/\(qDSo= []/\qDSk=qDSk)/\(Xm nm U b c)/\qDSq/\True)\/∃(I:AmX),R (ac,I)/\I.2+qDSp<=y.2/\ac=ac/\False))/\(decide (Zbj y a)=ab->nm=ba z/\U=aZ z/\(qDSk+qDSk<=qDSk/\aw qDSk qDSo=ar z)/\True))/\∀(y:AmX),R (ac,y)->(decide (Zbj y a)=ac->0<=(qDSl y)/\(qDSl y)+1<=(qDSj a)/\∀(x:Cls),(ar a)[af (qDSl y)]? =ae x->∃(l:List (List Nat×Cls)),Zi qDSm (AmX.m y)=Zi qDSi l/\(qDSn l)/\(∀(I:Cls),Zt l (aK x)=ae I->(aa (AmX.L y)<=aa (AmX.L y)/\qDSk<=aa (AmX.L y)/\(aa (AmX.L y)+qDSp)*112<=140737488355328)/\((∃(J:AmX),R (ab,J)/\J.2+qDSp<=y.2/\ac=ac/\(Zjl a y J)/\(Zbi y J)/\False/\(Xm nm U b c)/\qDSq/\True)\/∃(J:AmX),R (ac,J)/\J.2+qDSp<=y.2/\ac=ac/\(qDSk=qDSk/\qDSk=qDSk/\True/\(qDSk=qDSk/\aa (AmX.L y)+qDSp=
aa (AmX.L J)/\True)/\(Y9 a)/\(qDSj a)=(qDSj a)/\wr ag (qDSr y)=(qDSl J)/\True)/\(Zbi y J)/\(aw (aa (AmX.L y)) (AmX.L y)++ [eF (aK x) (aT x) (Zjn x)]=AmX.L J/\qDSk=qDSk)/\(Xm nm U b c)/\qDSq/\True))/\(Zt l (aK x)=au->(∃(I:AmX),R (ab,I)/\I.2+qDSp<=y.2/\ac=ac/\(qDSk=qDSk/\qDSk=qDSk/\True/\False/\(Y9 a)/\(qDSj a)=(qDSj a)/\wr ag (qDSr y)=(qDSl I)/\True)/\(Zez y I)/\False/\(Xm nm U b c)/\qDSq/\True)\/∃(I:AmX),R (ac,I)/\I.2+qDSp<=y.2/\ac=ac/\(qDSk=qDSk/\qDSk=qDSk/\True/\(qDSk=qDSk/\aa (AmX.L y)=aa (AmX.L I)/\True)/\(Y9 a)/\(qDSj a)=(qDSj a)/\wr ag (qDSr y)=(qDSl I)/\True)/\(Zez y I)/\(AmX.L y=AmX.L I/\qDSk=qDSk)/\(Xm nm U b c)/\qDSq/\True))/\(decide (Zbj y a)=ab->nm=ba z/\U=aZ z/\(qDSk+aa (AmX.L y)<=aa (AmX.L y)/\aw (aa (AmX.L y)) (AmX.L y)=ar z)/\True))):=by kernel_rfl
noncomputable def Uu(m:List (List Nat×Cls)) (l:List Cls):List (List Nat×Cls):=l.foldl (λm c=>putS m c.name c) m
noncomputable def Xu:List (List Nat×Cls)->List Cls->List Cls×List (List Nat×Cls)
 |m,[]=>([],m)
 |m,c::r=>match Zt m c.name with
  |some d=>(d::(Xu (delS m c.name) r).1,(Xu (delS m c.name) r).2)
  |none=>(c::(Xu m r).1,(Xu m r).2)
noncomputable def Zbk(m:List (List Nat×Cls)) (l:List Cls):List Cls:=l.filter λc=>(Zt m c.name).isSome
noncomputable def amF(t a:Tar):Tar:=⟨t.name,t.for_,(Xu (Uu [] a.clauses) t.clauses).1++Zbk (Xu (Uu [] a.clauses) t.clauses).2 a.clauses⟩
theorem Zjo:∀(l:List Cls) (m:List (List Nat×Cls)),(Xu m l).1.length=l.length
 | [],m=>rfl
 |c::r,m=>by
  unfold Xu
  cases Zt m c.name with
  |none=>simp[Zjo r]
  |some d=>simp[Zjo r]
theorem Zhg{J:Type}:∀(m:List (List Nat×J)) (a:List Nat),∀p∈delS m a,p∈m
 | [],a,p,I=>by rw[delS] at I;exact I
 |q::m,a,p,I=>by
  rw[delS] at I
  split at I
  ·exact aI _ I
  ·rcases aH.1 I with rfl|I
   ·exact bH ..
   ·exact aI _ (Zhg m a p I)
theorem Xd{m:List (List Nat×Cls)} {l:List Cls} {k:Nat} {c:Cls} (h:l[k]? =ae c):Zbk m (l.take (k+1))=Zbk m (l.take k)++(if(Zt m c.name).isSome then[c] else[]):=by
 unfold Zbk;rw[cA,h,List.filter_append,Option.toList_some]
 congr 1
 cases e:(Zt m c.name).isSome<;>simp[e]
theorem Z51{f:FuncId} {nm:List Nat} {J:Int} {rest:List (SV thy)} {r:SV thy} (h1:PureC E f (.agg [.str ab nm,.int ab .i64 J,.val (.slice au 0 0)]::rest) r) (h2:∀b c,c<=maxLen->PureC E f (.agg [.str ab nm,.int ab .i64 J,.val (.slice (ae b) 0 c)]::rest) r):PureC E f (.agg [.str ab nm,.int ab .i64 J,.psl bA [] ab]::rest) r:=by
 intro g w R hI hd;have a0:0<R.toList.length:=by rw[<-hd.1];exact Nat.succ_pos _
 have h0:=hd.2 0 _ _ rfl (ao a0);have key:∀v:Value,(∀u,Den E σ0 g (.psl bA [] ab) u->Den E σ0 g (.val v) u)->False->True:=λ_ _ _=>jX;obtain⟨arr,c,he,hs,hc,U⟩:=Yk h0;obtain⟨base,cc,cv,hv,a3,a2,_,hn,_⟩:=V2 (U 2 _ rfl);have mk:∀v:Value,c 2=v->DenL E σ0 g (.agg [.str ab nm,.int ab .i64 J,.val v]::rest) R.toList:=by
  intro v a1;refine⟨hd.1,λj sv u I hu=> ?_⟩;cases j with
  |zero=>
   rw[ao a0] at hu;cases hu;cases I;rw[he];refine .agg c hs (λj I=>hc j I) λj a4 I=> ?_
   match j,I with
   |0,I=>cases I;exact U 0 _ rfl
   |1,I=>cases I;exact U 1 _ rfl
   |2,I=>cases I;rw[a1];exact .val _
  |succ j=>exact hd.2 (j+1) sv u I hu
 cases base with
 |none=>exact h1 g w R hI (mk _ (by rw[hv,hn rfl];rfl))
 |some b=>exact h2 b cc a2 g w R hI (mk _ hv)
theorem Zjp{l:List Cls} {k:Nat} {c:Cls} {m:List (List Nat×Cls)} (h:l[k]? =ae c):Uu m (l.drop k)=Uu (putS m c.name c) (l.drop (k+1)):=by rw[Z4 h];rfl
theorem Zcg{m:List (List Nat×Cls)} {c d:Cls} {r:List Cls} (h:Zt m c.name=ae d):Xu m (c::r)=(d::(Xu (delS m c.name) r).1,(Xu (delS m c.name) r).2):=by rw[Xu,h]
theorem Zch{m:List (List Nat×Cls)} {c:Cls} {r:List Cls} (h:Zt m c.name=au):Xu m (c::r)=(c::(Xu m r).1,(Xu m r).2):=by rw[Xu,h]
theorem Z52(t a:Tar) (h0:t.clauses≠ []) (hl:t.clauses.length<=100000) (a7:a.clauses.length<=100000):PureC E 48 [.agg (encF ab .tariffs t),.agg (encF ab .tariffs a)] (tarE (amF t a)):=by
 refine Zih (j:=1) rfl (λg u h=>Zie (t:=a) h) λa1=>Zih (j:=0) rfl (λg u h=>Zie (t:=t) h) λa5=>Za E_ok (Zd E_ok Ymj 400) ?_;rw[Zz6];delta qDS2 qDS8 qDS1 qDS3 qDS4 qDS5 qDS6 qDS7;unfold Znj Zex Zew Zev Zcf Zhf Zhe Zag Vo Vn;simp only[Zdq,bk,bq,fO,fG,true_and,and_true,ku,kK,Zh];refine⟨λx=>x.k<=a.clauses.length/\(∀p∈x.m,Byt p.1)/\Uu x.m (a.clauses.drop x.k)=Uu [] a.clauses/\x.r=a.clauses.length-x.k,⟨⟨0,a.clauses.length,[],[]⟩,⟨aW _,(λp hp=>by cases hp),rfl,rfl⟩,rfl,rfl⟩,?_⟩
 rintro x ⟨hk,J,hp,hr⟩;refine aC (λh=>⟨by omega,by omega,λc I=>⟨x.m,rfl,J,a1.2 c (aL I),⟨x.k+1,a.clauses.length-(x.k+1),putS x.m c.name c,[]⟩,⟨(by dsimp only;omega),Zb9 J (a1.2 c (aL I)),(by rw[<-hp,Zjp I]),rfl⟩,(by dsimp only;omega),wr64 (by omega) (by omega),rfl,Zo E_ok _⟩⟩) (λh=> ?_);have a4:x.m=Uu [] a.clauses:=by rw[<-hp,bL (by omega)];rfl
 generalize x.m=m1 at*;refine⟨⟨h0,by omega⟩,λy hy=> ?_⟩;subst hy;refine⟨λx=>x.k<=t.clauses.length/\(∀p∈x.m,Byt p.1)/\(∃done,x.L=done++t.clauses.drop x.k/\done.length=x.k/\done++(Xu x.m (t.clauses.drop x.k)).1=(Xu m1 t.clauses).1)/\(Xu x.m (t.clauses.drop x.k)).2=(Xu m1 t.clauses).2/\x.r=t.clauses.length-x.k,⟨⟨0,t.clauses.length,m1,t.clauses⟩,⟨aW _,J,⟨[],rfl,rfl,rfl⟩,rfl,rfl⟩,rfl,⟨rfl,Zo E_ok _⟩,rfl⟩,?_⟩;rintro x ⟨hk,J,⟨dn,R,h2,h3⟩,h4,hr⟩;have a3:x.L.length=t.clauses.length:=by rw[R,az,List.length_drop];omega
 refine aC (λh=>⟨⟨by omega,by omega⟩,by omega,λc I=>⟨x.m,rfl,J,λd hd=> ?_,λhd=> ?_⟩⟩) (λh=> ?_)
 ·have U:t.clauses[x.k]? =ae c:=by rw[R,bx (by omega),cO] at I;rw[<-I];congr 1;omega
  refine⟨⟨by omega,by omega⟩,aW _,by omega,λc2 a6=>⟨x.m,rfl,J,⟨x.k+1,t.clauses.length-(x.k+1),delS x.m c.name,x.L.set x.k d⟩,⟨(by dsimp only;omega),(λp hp=>J p (Zhg _ _ p hp)),⟨dn++ [d],?_,?_,?_⟩,?_,rfl⟩,(by dsimp only;omega),wr64 (by omega) (by omega),⟨rfl,Zo E_ok _⟩,rfl⟩⟩
  ·dsimp only
   rw[R,Z4 U,gR _ _ (by omega),h2,eB,eu,be];rfl
  ·rw[az,h2];rfl
  ·dsimp only
   rw[<-h3,Z4 U,Zcg hd,be];rfl
  ·dsimp only
   rw[<-h4,Z4 U,Zcg hd]
 ·have U:t.clauses[x.k]? =ae c:=by rw[R,bx (by omega),cO] at I;rw[<-I];congr 1;omega
  refine⟨⟨x.k+1,t.clauses.length-(x.k+1),x.m,x.L⟩,⟨(by dsimp only;omega),J,⟨dn++ [c],?_,?_,?_⟩,?_,rfl⟩,(by dsimp only;omega),wr64 (by omega) (by omega),⟨rfl,Zo E_ok _⟩,rfl⟩
  ·dsimp only
   rw[R,Z4 U,be];rfl
  ·rw[az,h2];rfl
  ·dsimp only
   rw[<-h3,Z4 U,Zch hd,be];rfl
  ·dsimp only
   rw[<-h4,Z4 U,Zch hd]
 have a2:t.clauses.drop x.k= []:=bL (by omega);rw[a2] at R h3 h4;have hL:x.L=(Xu m1 t.clauses).1:=by rw[R,<-h3];rfl
 have hM:x.m=(Xu m1 t.clauses).2:=h4;generalize x.m=m2 at*;generalize x.L=l2 at*;refine⟨λx=>x.k<=a.clauses.length/\x.m=m2/\x.L=l2++Zbk m2 (a.clauses.take x.k)/\x.r=a.clauses.length-x.k,⟨⟨0,a.clauses.length,m2,l2⟩,⟨aW _,rfl,(cG _).symm,rfl⟩,⟨a3.symm,rfl⟩,⟨rfl,Zo E_ok _⟩,rfl⟩,?_⟩;rintro x ⟨hk,a0,h5,hr⟩;have a8:x.L.length<=200000:=by
  have h6:(Zbk m2 (a.clauses.take x.k)).length<=(a.clauses.take x.k).length:=dc ..;rw[bi] at h6;rw[h5,az];omega
 refine aC (λh=>⟨by omega,by omega,λc I=>⟨x.m,rfl,(by rw[a0];exact J),λd hd=> ?_,λhd=> ?_⟩⟩) (λh=> ?_)
 ·refine⟨⟨av _,aW _,by omega⟩,⟨x.k+1,a.clauses.length-(x.k+1),x.m,x.L++ [c]⟩,⟨(by dsimp only;omega),a0,?_,rfl⟩,(by dsimp only;omega),⟨(by dsimp only;rw[az];rfl),wr64 (by omega) (by omega)⟩,⟨rfl,Zo E_ok _⟩,by rw[aV]⟩
  dsimp only;rw[a0] at hd;rw[Xd I,hd,h5,be];rfl
 ·refine⟨⟨x.k+1,a.clauses.length-(x.k+1),x.m,x.L⟩,⟨(by dsimp only;omega),a0,?_,rfl⟩,(by dsimp only;omega),⟨rfl,wr64 (by omega) (by omega)⟩,⟨rfl,Zo E_ok _⟩,rfl⟩
  dsimp only;rw[a0] at hd;rw[Xd I,hd,h5];exact kk (l2++ ·) (cG _).symm
 ·refine⟨rfl,rfl,av _,?_⟩
  rw[aV,h5,bh (by omega),hL,hM,a4];rfl
theorem Z53(nm:List Nat) (fo:Int) (a:Tar) (a3:a.clauses.length<=100000):PureC E 48 [.agg [.str ab nm,.int ab .i64 fo,.val (.slice au 0 0)],.agg (encF ab .tariffs a)] (tarE (amF ⟨nm,fo,[]⟩ a)):=by
 refine Zih (j:=1) rfl (λg u h=>Zie (t:=a) h) λa0=>Za E_ok (Zd E_ok Z50 400) ?_;rw[Zt0];delta qDSb qDSg qDS9 qDSa qDSc qDSd qDSe qDSf qDSh;unfold Zjk Zbh Zjj Zji Zey Zjh Y8 Xy Zjg;simp only[Zdq,bk,bq,fO,fG,true_and,and_true,ku,kK,Zh,false_and,and_false,or_false,false_or,exists_false,dX,iP,bn]
 refine⟨λx=>x.k<=a.clauses.length/\(∀p∈x.m,Byt p.1)/\Uu x.m (a.clauses.drop x.k)=Uu [] a.clauses/\x.r=a.clauses.length-x.k,⟨⟨0,a.clauses.length,[],[]⟩,⟨aW _,(λp hp=>by cases hp),rfl,rfl⟩,rfl,rfl⟩,?_⟩;rintro x ⟨hk,hm,hp,hr⟩;refine aC (λh=>⟨by omega,by omega,λc R=>⟨x.m,rfl,hm,a0.2 c (aL R),⟨x.k+1,a.clauses.length-(x.k+1),putS x.m c.name c,[]⟩,⟨(by dsimp only;omega),Zb9 hm (a0.2 c (aL R)),(by rw[<-hp,Zjp R]),rfl⟩,(by dsimp only;omega),wr64 (by omega) (by omega),rfl,Zo E_ok _⟩⟩) (λh=> ?_)
 have a2:x.m=Uu [] a.clauses:=by rw[<-hp,bL (by omega)];rfl
 generalize x.m=U at*;have a1:(amF ⟨nm,fo,[]⟩ a).clauses=Zbk U a.clauses:=by rw[a2];rfl
 refine⟨λp=>p.2.k<=a.clauses.length/\p.2.m=U/\(match p.1 with|false=>Zbk U (a.clauses.take p.2.k)= []|true=>p.2.L=Zbk U (a.clauses.take p.2.k))/\p.2.r=a.clauses.length-p.2.k,⟨⟨0,a.clauses.length,U,[]⟩,⟨aW _,rfl,rfl,rfl⟩,rfl,rfl,Zo E_ok _⟩,?_,?_⟩
 ·rintro x ⟨hk,I,J,hr⟩
  dsimp only at hk I J hr;refine aC (λh=>⟨by omega,by omega,λc R=>⟨x.m,rfl,(by rw[I];exact hm),λd hd=>⟨⟨x.k+1,a.clauses.length-(x.k+1),x.m,[c]⟩,⟨(by dsimp only;omega),I,?_,rfl⟩,(by dsimp only;omega),⟨rfl,wr64 (by omega) (by omega)⟩,⟨rfl,Zo E_ok _⟩,rfl⟩,λhd=>⟨⟨x.k+1,a.clauses.length-(x.k+1),x.m,[]⟩,⟨(by dsimp only;omega),I,?_,rfl⟩,(by dsimp only;omega),wr64 (by omega) (by omega),rfl,Zo E_ok _⟩⟩⟩) (λh=>⟨rfl,rfl,?_⟩)
  ·dsimp only
   rw[I] at hd;rw[Xd R,hd,J];rfl
  ·dsimp only
   rw[I] at hd;rw[Xd R,hd,J];rfl
  ·rw[bh (by omega)] at J
   rw[a1,J]
 ·rintro x ⟨hk,I,J,hr⟩
  dsimp only at hk I J hr;have a4:x.L.length<=100000:=by
   have h6:(Zbk U (a.clauses.take x.k)).length<=(a.clauses.take x.k).length:=dc ..;rw[bi] at h6;rw[J];omega
  refine aC (λh=>⟨by omega,by omega,λc R=>⟨x.m,rfl,(by rw[I];exact hm),λd hd=> ?_,λhd=> ?_⟩⟩) (λh=> ?_)
  ·refine⟨⟨av _,aW _,by omega⟩,⟨x.k+1,a.clauses.length-(x.k+1),x.m,x.L++ [c]⟩,⟨(by dsimp only;omega),I,?_,rfl⟩,(by dsimp only;omega),⟨(by dsimp only;rw[az];rfl),wr64 (by omega) (by omega)⟩,⟨rfl,Zo E_ok _⟩,by rw[aV]⟩
   dsimp only;rw[I] at hd;rw[Xd R,hd,J];rfl
  ·refine⟨⟨x.k+1,a.clauses.length-(x.k+1),x.m,x.L⟩,⟨(by dsimp only;omega),I,?_,rfl⟩,(by dsimp only;omega),⟨rfl,wr64 (by omega) (by omega)⟩,⟨rfl,Zo E_ok _⟩,rfl⟩
   dsimp only;rw[I] at hd;rw[Xd R,hd,J];exact(cG _).symm
  ·refine⟨rfl,rfl,av _,?_⟩
   rw[aV,J,bh (by omega),a1]
theorem Z54(nm:List Nat) (fo:Int) (a:Tar) (b:Addr) (c:Nat) (a2:c<=maxLen) (a4:a.clauses.length<=100000):PureC E 48 [.agg [.str ab nm,.int ab .i64 fo,.val (.slice (ae b) 0 c)],.agg (encF ab .tariffs a)] (tarE (amF ⟨nm,fo,[]⟩ a)):=by
 refine Zih (j:=1) rfl (λg u h=>Zie (t:=a) h) λa0=>Za E_ok (Zd E_ok Z50 400) ?_;rw[Zt1];delta qDSp qDSk qDSi qDSj qDSl qDSm qDSn qDSo qDSq qDSr;unfold Zbj Zjn Zjm Zjl Zez Zbi Y9 Xm Zqq;simp only[Zdq,bk,bq,fO,fG,true_and,and_true,ku,kK,Zh,false_and,and_false,or_false,false_or,exists_false,dX,iP,bn]
 refine⟨λx=>x.k<=a.clauses.length/\(∀p∈x.m,Byt p.1)/\Uu x.m (a.clauses.drop x.k)=Uu [] a.clauses/\x.r=a.clauses.length-x.k,⟨⟨0,a.clauses.length,[],[]⟩,⟨aW _,(λp hp=>by cases hp),rfl,rfl⟩,rfl,rfl⟩,?_⟩;rintro x ⟨hk,hm,hp,hr⟩;refine aC (λh=>⟨by omega,by omega,λc R=>⟨x.m,rfl,hm,a0.2 c (aL R),⟨x.k+1,a.clauses.length-(x.k+1),putS x.m c.name c,[]⟩,⟨(by dsimp only;omega),Zb9 hm (a0.2 c (aL R)),(by rw[<-hp,Zjp R]),rfl⟩,(by dsimp only;omega),wr64 (by omega) (by omega),rfl,Zo E_ok _⟩⟩) (λh=> ?_)
 have a3:x.m=Uu [] a.clauses:=by rw[<-hp,bL (by omega)];rfl
 generalize x.m=U at*;have a1:(amF ⟨nm,fo,[]⟩ a).clauses=Zbk U a.clauses:=by rw[a3];rfl
 refine⟨a2,⟨λp=>p.2.k<=a.clauses.length/\p.2.m=U/\(match p.1 with|false=>Zbk U (a.clauses.take p.2.k)= []|true=>p.2.L=Zbk U (a.clauses.take p.2.k))/\p.2.r=a.clauses.length-p.2.k,⟨⟨0,a.clauses.length,U,[]⟩,⟨aW _,rfl,rfl,rfl⟩,rfl,rfl,Zo E_ok _⟩,?_,?_⟩⟩
 ·rintro x ⟨hk,I,J,hr⟩
  dsimp only at hk I J hr;refine aC (λh=>⟨by omega,by omega,λc R=>⟨x.m,rfl,(by rw[I];exact hm),λd hd=>⟨av _,⟨by decide,by decide⟩,⟨⟨x.k+1,a.clauses.length-(x.k+1),x.m,[c]⟩,⟨(by dsimp only;omega),I,?_,rfl⟩,(by dsimp only;omega),⟨rfl,wr64 (by omega) (by omega)⟩,⟨rfl,Zo E_ok _⟩,rfl⟩⟩,λhd=>⟨⟨x.k+1,a.clauses.length-(x.k+1),x.m,[]⟩,⟨(by dsimp only;omega),I,?_,rfl⟩,(by dsimp only;omega),wr64 (by omega) (by omega),rfl,Zo E_ok _⟩⟩⟩) (λh=>⟨rfl,rfl,av _,?_⟩)
  ·dsimp only
   rw[I] at hd;rw[Xd R,hd,J];rfl
  ·dsimp only
   rw[I] at hd;rw[Xd R,hd,J];rfl
  ·rw[bh (by omega)] at J
   rw[a1,J]
 ·rintro x ⟨hk,I,J,hr⟩
  dsimp only at hk I J hr;have a5:x.L.length<=100000:=by
   have h6:(Zbk U (a.clauses.take x.k)).length<=(a.clauses.take x.k).length:=dc ..;rw[bi] at h6;rw[J];omega
  refine aC (λh=>⟨by omega,by omega,λc R=>⟨x.m,rfl,(by rw[I];exact hm),λd hd=> ?_,λhd=> ?_⟩⟩) (λh=> ?_)
  ·refine⟨⟨av _,aW _,by omega⟩,⟨x.k+1,a.clauses.length-(x.k+1),x.m,x.L++ [c]⟩,⟨(by dsimp only;omega),I,?_,rfl⟩,(by dsimp only;omega),⟨(by dsimp only;rw[az];rfl),wr64 (by omega) (by omega)⟩,⟨rfl,Zo E_ok _⟩,by rw[aV]⟩
   dsimp only;rw[I] at hd;rw[Xd R,hd,J];rfl
  ·refine⟨⟨x.k+1,a.clauses.length-(x.k+1),x.m,x.L⟩,⟨(by dsimp only;omega),I,?_,rfl⟩,(by dsimp only;omega),⟨rfl,wr64 (by omega) (by omega)⟩,⟨rfl,Zo E_ok _⟩,rfl⟩
   dsimp only;rw[I] at hd;rw[Xd R,hd,J];exact(cG _).symm
  ·refine⟨rfl,rfl,av _,?_⟩
   rw[aV,J,bh (by omega),a1]
theorem Zz7(t a:Tar) (hl:t.clauses.length<=100000) (J:a.clauses.length<=100000):PureC E 48 [.agg (encF ab .tariffs t),.agg (encF ab .tariffs a)] (tarE (amF t a)):=by
 obtain⟨nm,I,R⟩:=t;cases R with
 |nil=>exact Z51 (Z53 nm I a J) λb c U=>Z54 nm I a b c U J
 |cons c r=>exact Z52 ⟨nm,I,c::r⟩ a (λh=>by cases h) hl J
noncomputable def SamE:Sum thy:=Ws (.cons (dR .tariffs) (.cons (dR .tariffs) .nil)) (λx=>(ar x.1).length<=100000/\(ar x.2.1).length<=100000) (λx=>amF x.1 x.2.1) λy=>tarE y
end
section
open Go.RowKit
section
variable {Y:Thy} {E:Eng Y}
def inpR(th:Y.Th) (b:Nat) (I:List (Y.dom th)):Res Y:=⟨.tup [],0,[b],at1 b (ae (.rows th I 0)),ae [b]⟩
def InpC(E:Eng Y) (f:Nat) (th:Y.Th) (args:List (SV Y)) (l I:List (Y.dom th)):Prop:=
 ∀(b:Nat) (h:Hp Y) (i:Nat),h b=ae (.rows th l 0)->Vi E f (.sl b 0 l.length (E.w th) au::args) h i (inpR th b I)
def inpK(th:Y.Th) (l J:List (Y.dom th)) (r:Res Y):Prop:=
 match r.v,patch (hp1 th l 0) 1 r 0 with
 | .tup [],ae (.rows R L I)=>U6 L λL=>L=J/\I=0
 |_,_=>False
theorem Zgi(hE:EngOk E) {call:Nat->List (SV Y)->Hp Y->Nat->(Res Y->Prop)->Prop} (b4:Vb E call) {f:Nat} {th:Y.Th} {args:List (SV Y)} {l l':List (Y.dom th)} (ha:nidL 0 args=ac)
 (hk:call f (.sl 0 0 l.length (E.w th) au::args) (hp1 th l 0) 1 (inpK th l l')):InpC E f th args l l':=by
 intro b h i hb
 have b6:DomLt (hp1 th l 0) 1:=by
  intro b hb
  cases b with
  |zero=>omega
  |succ b=>exact ka rfl hb
 obtain⟨r,hr,hR,htri⟩:=b4 f _ _ _ _ b6 hk
 have a5:∀b∈r.mods,b=0:=by
  intro b hb
  cases b with
  |zero=>rfl
  |succ b=>exact ka rfl (hR _ hb)
 unfold inpK at hr
 split at hr
 case h_2=>exact hr.elim
 rename_i a0 L b0 hv hp0
 obtain⟨e,hr⟩:=Y6 hr
 subst e
 obtain⟨rfl,rfl⟩:L=l'/\b0=0:=hr
 replace htri:=htri.resolve_right (by rintro⟨p,hp,_⟩;rw[hv] at hp;cases hp)
 intro B σ g W a9 hh b9 hI hB c2 hd
 have a3:hh b=ae (.rows a0 l 0):=(b9 b (show b∈ [b] by simp)).trans hb
 obtain⟨q,z,a1,b3⟩:=hI.blk b _ a3
 have b1:Inv E B (λx=>match x with|0=>ae (q,z)|_=>au) (hp1 a0 l 0) g W:=by
  refine⟨hI.gc,hI.gm,λx y U=> ?_,λx x' r z R J h2 _ _=> ?_,λx r' R I=> ?_,λx y r' R o v U I hv=> ?_,λx y r' R U I=> ?_,hI.glob⟩
  ·cases x with
   |succ x=>cases U
   |zero=>
    cases U
    refine⟨q,z,rfl,?_⟩
    obtain⟨arr,e,k1,k2,k3,k4,k5⟩:=b3
    refine⟨arr,e,k1,k2,k3,λj sv hj=> ?_,k5⟩
    obtain⟨v,m1,m2⟩:=k4 j sv hj
    have hn:nid 0 sv=true:=by
     obtain⟨q,p,x,rfl,hp,hq,I⟩:=Y3 hE a0 _ hj
     exact Zs (hE.encI _ _ _) I
    exact⟨v,m1,Zy hE m2 (λb p hb=>by omega) hn⟩
  ·cases x with
   |succ x=>exact ka rfl J
   |zero=>cases x' with
    |zero=>rfl
    |succ x'=>exact ka rfl h2
  ·cases x with
   |zero=>cases I;exact hI.base b _ _ a1
   |succ x=>cases I
  ·cases x with
   |zero=>cases I;cases U;exact hI.fz b _ _ _ o v a3 a1 hv
   |succ x=>cases U
  ·cases x with
   |zero=>cases I;cases U;exact hI.fm b _ _ _ a3 a1
   |succ x=>cases U
 have b5:DenL E (λx=>match x with|0=>ae (q,z)|_=>au) g (.sl 0 0 l.length (E.w a0) au::args) a9.toList:=by
  refine⟨by rw[<-hd.1];rfl,λj sv u J h2=> ?_⟩
  cases j with
  |zero=>
   simp at J;subst J
   have:=hd.2 0 _ u rfl h2
   obtain⟨r',R,c',rfl,k1,k2,k3,k4,k5⟩:=Vc this
   rw[a1] at k1;cases k1
   exact .sl (E:=E) (b:=0) rfl k2 k3 k4 k5
  |succ j=>
   have J:args[j]? =ae sv:=by simpa using J
   exact Zy hE (hd.2 (j+1) sv u (by simpa using J) h2) (λb p hb=>by omega) (Zs ha J)
 refine(htri B _ g W a9 _ (λ_ _=>rfl) b1 hB (λx J h2=>by cases x with|zero=>omega|succ x=>rfl) b5).mono ?_
 rintro en w' ⟨u,he,σ1,g',hS,a2,a8⟩
 rw[hv] at a8
 have k1:σ1 0=ae (q,z):=hS.sig 0 _ rfl
 have a7:∀p,p<W.heap.size->p≠q->w'.heap[p]? =W.heap[p]? :=by
  intro p hp a6
  refine hS.heap p hp λb' b2 R c1=> ?_
  obtain rfl:=a5 b' b2
  cases c1
  exact a6 rfl
 have b8:∀x,patch hh i (inpR (Y:=Y) a0 b L) x=match aO x b with|true=>ae (.rows a0 L 0)|false=>hh x:=by
  intro x
  show(match memB x [b]||(bP i x&&aU x (i+0)) with|true=>at1 b (ae (.rows a0 L 0)) x|false=>hh x)=_
  have e2:(bP i x&&aU x (i+0))=false:=by
   cases J:bP i x with
   |false=>rfl
   |true=>
    rw[Nat.ble_eq] at J
    cases h2:aU x (i+0) with
    |false=>rfl
    |true=>rw[Nat.blt_eq] at h2;omega
  rw[e2,Bool.or_false]
  unfold memB memB
  cases e3:aO x b with
  |true=>unfold at1;rw[e3]
  |false=>rfl
 have src:∀x y,patch hh i (inpR (Y:=Y) a0 b L) x=ae y->(x=b/\y= .rows a0 L 0)\/(x≠b/\hh x=ae y):=by
  intro x y hy
  rw[b8] at hy
  split at hy
  ·rename_i e
   cases hy
   exact .inl ⟨ax e,rfl⟩
  ·rename_i e
   exact .inr ⟨nb e,hy⟩
 have a4:∀x y p R,x≠b->hh x=ae y->σ x=ae (p,R)->p<W.heap.size/\p≠q:=by
  intro x y p R U hy I
  refine⟨(hI.base x p R I).2,?_⟩
  rintro rfl
  exact U (hI.inj x b _ _ _ (by rw[hy];simp) (by rw[a3];simp) I a1)
 refine⟨_,he,σ,g',⟨.refl _,λ_ _ h=> .inl h,hS.gle,λp o v hv=> ?_,hS.gmnew,λp hp a6=> ?_,hS.size,hS.os,hS.tape,hS.output,λ_ _ _ h k=>by rw[h] at k;cases k⟩,?_,?_⟩
 ·rcases hS.gcnew p o v hv with J|J|⟨b',J,R,h2⟩
  ·exact .inl J
  ·exact .inr (.inl J)
  ·obtain rfl:=a5 b' J
   cases h2
   exact .inr (.inr ⟨b,by show b∈ [b];simp,_,a1⟩)
 ·exact a7 p hp λe=>a6 b (by show b∈ [b];simp) z (by rw[a1,e])
 ·refine⟨a2.gc,a2.gm,λx y U=> ?_,λx x' p c3 c4 J h2 h3 h4=> ?_,λx p R I=>⟨(hI.base x p R I).1,ck (hI.base x p R I).2 hS.size⟩,λx y p R o v U I hv=> ?_,λx y p R U I=> ?_,a2.glob⟩
  ·rcases src x y U with⟨rfl,rfl⟩|⟨e1,e3⟩
   ·refine⟨q,z,a1,?_⟩
    obtain⟨r2,z2,m1,m2⟩:=a2.blk 0 _ hp0
    rw[k1] at m1;cases m1
    obtain⟨arr,e,m1,m3,m4,m5,m6⟩:=m2
    refine⟨arr,e,m1,m3,m4,λj sv hj=> ?_,m6⟩
    obtain⟨v,n1,n2⟩:=m5 j sv hj
    have hn:nid 0 sv=true:=by
     obtain⟨q,p,x,rfl,hp,hq,I⟩:=Y3 hE a0 _ hj
     exact Zs (hE.encI _ _ _) I
    exact⟨v,n1,Zy hE n2 (λb p hb=>by omega) hn⟩
   ·obtain⟨p,R,m1,m2⟩:=hI.blk x y e3
    obtain⟨m3,m4⟩:=a4 x y p R e1 e3 m1
    exact⟨p,R,m1,m2.mono (λx p U=>U) hS.gle (a7 p m3 m4)⟩
  ·obtain⟨y,hy⟩:=aY.1 J
   obtain⟨y',c0⟩:=aY.1 h2
   have hn:∀x y,patch hh i (inpR (Y:=Y) a0 b L) x=ae y->hh x≠none:=by
    intro x y U
    rcases src x y U with⟨rfl,rfl⟩|⟨e1,e3⟩
    ·rw[a3];simp
    ·rw[e3];simp
   exact hI.inj x x' p _ _ (hn _ _ hy) (hn _ _ c0) h3 h4
  ·rcases src x y U with⟨rfl,rfl⟩|⟨e1,e3⟩
   ·rw[a1] at I;cases I
    exact a2.fz 0 _ _ _ o v hp0 k1 hv
   ·obtain⟨m3,m4⟩:=a4 x y p R e1 e3 I
    rcases hS.gcnew p o v hv with J|J|⟨b',J,z2,h2⟩
    ·exact hI.fz x y p R o v e3 I J
    ·omega
    ·obtain rfl:=a5 b' J
     cases h2
     exact ka rfl m4
  ·rcases src x y U with⟨rfl,rfl⟩|⟨e1,e3⟩
   ·rw[a1] at I;cases I
    exact a2.fm 0 _ _ _ hp0 k1
   ·obtain⟨m3,m4⟩:=a4 x y p R e1 e3 I
    cases b7:g'.obj p with
    |none=>rfl
    |some es=>
     rcases hS.gmnew p es b7 with k|k
     ·rw[hI.fm x y p R e3 I] at k;cases k
     ·omega
 ·exact Zy hE a8 (λb p hb=>by omega) (i:=0) rfl
theorem Yhg{σ:Pl} {g:GH} {b off len w:Nat} {cap:Option Nat} {v:Value} (h:Den E σ g (.sl b off len w cap) v):Den E σ g (.sl b off len w au) v:=by
 cases h with
 |sl h R I J U=>exact .sl h R I J λ_ h=>by cases h
def Yaf(E:Eng Y) (th:Y.Th) {α:Type} (d:DcL E α) (pre:List (Y.dom th)->α->Prop) (f:List (Y.dom th)->α->List (Y.dom th)):Sum Y:=λargs h i k=>
 match args with
 | .sl b 0 len w _::rest=>
  (match h b,d.dec rest,aO w (E.w th) with
  |some (.rows J l 0),ae x,ac=>U6 l λl=>(len=l.length/\pre l x)/\∀I,I=f l x->k (inpR th b I)
  |_,_,_=>False)
 |_=>False
theorem InpC.of_dec{α:Type} {d:DcL E α} {f:Nat} {th:Y.Th} {args:List (SV Y)} {x:α} {l l':List (Y.dom th)} (hd:d.dec args=ae x) (h:InpC E f th (d.enc x) l l'):∀(cap:Option Nat) (b:Nat) (I:Hp Y) (i:Nat),I b=ae (.rows th l 0)->Vi E f (.sl b 0 l.length (E.w th) cap::args) I i (inpR th b l'):=by
 obtain⟨k1,k2,k3⟩:=d.ok _ _ hd;intro cap b I i h1 B σ g w a3 hh a1 hI hB a0 J;refine h b I i h1 B σ g w a3 hh a1 hI hB a0 ⟨?_,λj a2 u R U=> ?_⟩
 ·rw[<-J.1,aE,aE,k2]
 ·cases j with
  |zero=>
   cases R;exact Yhg (J.2 0 _ u rfl U)
  |succ j=>
   obtain⟨sv,h7,h8⟩:=k3 σ g j a2 (by simpa using R);exact h8 u (J.2 (j+1) sv u (by simpa using h7) U)
theorem Zwk(hE:EngOk E) {th:Y.Th} {α:Type} {f:Nat} (hg:FnGood E.P f) {d:DcL E α} {pre:List (Y.dom th)->α->Prop} {F:List (Y.dom th)->α->List (Y.dom th)} (hp:∀x l,pre l x->InpC E f th (d.enc x) l (F l x)):SumOk E f (Yaf E th d pre F):=by
 refine⟨hg,λargs h i k hD I=> ?_⟩;unfold Yaf at I;split at I
 ·rename_i b len w cap rest
  split at I
  ·rename_i a2 l x U hx R
   have R:=ax R;obtain⟨e,a0⟩:=Y6 I;clear I;subst e;subst R;obtain⟨⟨rfl,h3⟩,a1⟩:=a0;refine⟨_,a1 _ rfl,λb' J=> ?_,.inl (InpC.of_dec hx (hp x l h3) cap b h i U)⟩;have J:b'∈ [b]:=J;rw[ct] at J;rw[J,U];simp
  ·exact I.elim
 ·exact I.elim
end
end
section
open Go
--@cond cmpz | 93 | F0 | 400 | (a b : Int) | [.int ab .i64 a, .int ab .i64 b] | (v : Int) | .int ab .i64 v
theorem Z4e(a b:Int) (v:Int):Zk E F0 (vc E F0 400) 93 [.int ab .i64 a,.int ab .i64 b] hp0 0 (λr=>ret E (patch hp0 0 r) r.v (.int ab .i64 v))=(
  ((a !=a)=ac->((b !=b)=ac->0=v)/\((b !=b)=ab->(-1:Int)=v))/\((a !=a)=ab->((b !=b)=ac->1=v)/\((b !=b)=ab->(decide (a
  <b)=ac->(-1:Int)=v)/\(decide (a<b)=ab->(decide (a>b)=ac->1=v)/\(decide (a>b)=ab->0=v))))
  ):=by kernel_rfl
--@end
theorem Z4f(a b:Int):PureC E 93 [.int ab .i64 a,.int ab .i64 b] (.int ab .i64 (cmpZ a b)):=by
  refine Za E_ok (Zd E_ok F0_ok 400) ?_;rw[Z4e];unfold cmpZ;refine⟨λh=>(by simp at h),λ_=>⟨λh=>(by simp at h),λ_=>⟨λh=> ?_,λh=>⟨λI=> ?_,λI=> ?_⟩⟩⟩⟩
  ·rw[jM (jk h)]
  ·rw[jJ (jm h),jM (jk I)]
  ·rw[jJ (jm h),jJ (jm I)]
noncomputable def Scmz:Sum thy:=Ws (.cons dN (.cons dN .nil)) (λ_=>True) (λx=>cmpZ x.1 x.2.1) λy=> .int ab .i64 y
theorem Yhk:SumOk E 93 Scmz:=Z1 E_ok (Zc (f:=93) rfl) λx _=>Z4f x.1 x.2.1
noncomputable def Fcmz:Fns thy:=addS F0 93 Scmz
--@cond cmpr | 91 | Fcmz | 400 | (a b : Rep) | [.agg (encF ab .reps a), .agg (encF ab .reps b)] | (v : Int) | .int ab .i64 v
theorem Z4g(a b:Rep) (v:Int):Zk E Fcmz (vc E Fcmz 400) 91 [.agg (encF ab .reps a),.agg (encF ab .reps b)] hp0 0 (λr=>ret E (patch hp0 0 r) r.v (.int ab .i64 v))=(
  True/\∀(y:Int),y=cmpZ (ItD.from_ (Rep.item a)) (ItD.from_ (Rep.item b))->True/\∀(I:Int),I=cmpZ (Rep.time a) (Rep.time b)->True/\∀(J:Int),J=cmpZ
  (RefD.no (Rep.ref a)) (RefD.no (Rep.ref b))->((y !=0)=ac->y=v)/\((y !=0)=ab->((I !=0)=ac->I=v)/\((I !=0)=ab->
  ((J !=0)=ac->J=v)/\((J !=0)=ab->0=v)))
  ):=by kernel_rfl
--@end
theorem Yhl:FnsOk E Fcmz:=Zb F0_ok Yhk
theorem Z4h(a b:Rep):PureC E 91 [.agg (encF ab .reps a),.agg (encF ab .reps b)] (.int ab .i64 (cmpE a b)):=by
  refine Za E_ok (Zd E_ok Yhl 400) ?_;rw[Z4g];simp only[iz,gp];unfold cmpE;refine⟨jX,λy U=>⟨jX,λz hz=>⟨jX,λw R=> ?_⟩⟩⟩;subst U hz R;refine⟨λh=>(jM h).symm,λh=>⟨λI=> ?_,λI=>⟨λJ=> ?_,λJ=> ?_⟩⟩⟩
  ·rw[jJ (λx=>x h),jM I]
  ·rw[jJ (λx=>x h),jJ (λx=>x I)]
  ·rw[jJ (λx=>x h),jJ (λx=>x I),J]
noncomputable def Scmr:Sum thy:=Ws (.cons (dR .reps) (.cons (dR .reps) .nil)) (λ_=>True) (λx=>cmpE x.1 x.2.1) λy=> .int ab .i64 y
theorem Yhm:SumOk E 91 Scmr:=Z1 E_ok (Zc (f:=91) rfl) λx _=>Z4h x.1 x.2.1
structure SoE where
  L:List Rep
  i:Int
  j:Int
  r:Nat
def cmpR:SV thy:= .fn (.func 91) [] []
def blkR(v:SV thy) (L:List Rep):List (Nat×Blk thy):= [(bOf v,.rows cN L 0)]
def Yop:Fr thy->Hp thy->Nat->Ann thy:=λT h i=>{X:=SoE,fr:=λx=> [(0,T 0),(1,T 1),(2,T 2),(3,T 3),(8,.int ab .i64 x.i)],bl:=λx=>blkR (T 0) x.L,src:=λ_=> [],md:= [bOf (T 0)],ih:=i,M:=i+30,meas:=λx=>x.r}
def Yoq:Fr thy->Hp thy->Nat->Ann thy:=λT h i=>{X:=SoE,fr:=λx=> [(0,T 0),(1,T 1),(2,T 2),(3,T 3),(8,T 8),(9,.int ab .i64 x.j)],bl:=λx=>blkR (T 0) x.L,src:=λ_=> [],md:= [bOf (T 0)],ih:=i,M:=i+30,meas:=λx=>x.r}
noncomputable def FisE:Fns thy:=addL (addL (addS F0 91 Scmr) 148 1 Yop E) 148 4 Yoq E
theorem Yhn:FnsOk E FisE:=Zm E_ok (Zm E_ok (Zb F0_ok Yhm) _ _ _) _ _ _
--@condg isortE | (l l2 : List Rep) (a b : Int) | Zk E FisE (vc E FisE 400) 148 [.sl 0 0 (aa l) (E.w cN) au, .int ab .i64 a, .int ab .i64 b, cmpR] (hp1 cN l 0) 1 (inpK cN l l2)
theorem Ztp(l l2:List Rep) (a b:Int):Zk E FisE (vc E FisE 400) 148 [.sl 0 0 (aa l) (E.w cN) au,.int ab .i64 a,.int ab .i64 b,cmpR] (hp1 cN l 0) 1 (inpK cN l l2)=(
  ∃(R:SoE->Prop),(∃(x:SoE),R x/\ac=ac/\((0=0/\aa l=aa l/\True)/\a=a/\b=b/\(cF (91
  :FuncId)=cF (91:FuncId)/\True/\True)/\wr ag (a+1)=SoE.i x/\True)/\(l=SoE.L x/\0=0)/\True)
  /\∀(x:SoE),R x->(decide (SoE.i x<b)=ac->∃(a1:SoE->Prop),(∃(I:SoE),a1 I/\ac=ac/\((0=0/\aa l=aa l/\True)/\
  a=a/\b=b/\(cF (91:FuncId)=cF (91:FuncId)/\True/\True)/\SoE.i x=SoE.i x/\SoE.i x=SoE.j
  I/\True)/\(SoE.L x=SoE.L I/\0=0)/\True)/\∀(I:SoE),a1 I->(decide (SoE.j I>a)=ac->(0<=SoE.j I/\SoE.j I+1<=
  (↑(aa l):Int))/\0+af (SoE.j I)+1<=aa (SoE.L I)/\∀(U:Rep),(SoE.L I)[0+af (SoE.j I)]? =ae U->
  (0<=wr ag (SoE.j I-1)/\wr ag (SoE.j I-1)+1<=(↑(aa l):Int))/\0+af (wr ag (SoE.j
  I-1))+1<=aa (SoE.L I)/\∀(a2:Rep),(SoE.L I)[0+af (wr ag (SoE.j I-1))]? =ae a2->True/\∀(y:
  Int),y=cmpE U a2->(decide (y<0)=ac->(0<=wr ag (SoE.j I-1)/\wr ag (SoE.j I-1)+1<=(↑(aa
  l):Int))/\0+af (wr ag (SoE.j I-1))+1<=aa (SoE.L I)/\∀(J:Rep),(SoE.L I)[0+af (wr ag
  (SoE.j I-1))]? =ae J->(0<=SoE.j I/\SoE.j I+1<=(↑(aa l):Int))/\0+af (SoE.j I)+1<=aa
  (SoE.L I)/\∀(a3:Rep),(SoE.L I)[0+af (SoE.j I)]? =ae a3->(0<=SoE.j I/\SoE.j I+1<=(↑(aa l):Int))/\0<=
  0+af (SoE.j I)/\0+af (SoE.j I)+1<=aa (SoE.L I)/\∀(a4:Rep),(SoE.L I)[0+af (SoE.j I)]? =ae
  a4->(0<=wr ag (SoE.j I-1)/\wr ag (SoE.j I-1)+1<=(↑(aa l):Int))/\0<=0+af (wr
  ag (SoE.j I-1))/\0+af (wr ag (SoE.j I-1))+1<=aa (dx (SoE.L I) (0+af (SoE.j
  I)) J)/\∀(a5:Rep),(dx (SoE.L I) (0+af (SoE.j I)) J)[0+af (wr ag (SoE.j I-1))]? =ae a5->∃(a0:
  SoE),a1 a0/\a0.4+1<=I.4/\ac=ac/\((0=0/\aa l=aa l/\True)/\a=a/\b=b/\(cF (91:FuncId)=cF (91:
  FuncId)/\True/\True)/\SoE.i x=SoE.i x/\wr ag (SoE.j I-1)=SoE.j a0/\True)/\(dx (dx (SoE.L I) (0+af (SoE.j I)) J)
  (0+af (wr ag (SoE.j I-1))) a3=SoE.L a0/\0=0)/\True)/\(decide (y<0)=ab->∃(J:SoE),R J/\J.4+
  1<=x.4/\ac=ac/\((0=0/\aa l=aa l/\True)/\a=a/\b=b/\(cF (91:FuncId)=cF
  (91:FuncId)/\True/\True)/\wr ag (SoE.i x+1)=SoE.i J/\True)/\(SoE.L I=SoE.L J/\0=0)/\True))/\
  (decide (SoE.j I>a)=ab->∃(U:SoE),R U/\U.4+1<=x.4/\ac=ac/\((0=0/\aa l=aa l/\True)/\a=a/\b=b/\
  (cF (91:FuncId)=cF (91:FuncId)/\True/\True)/\wr ag (SoE.i x+1)=SoE.i U/\
  True)/\(SoE.L I=SoE.L U/\0=0)/\True))/\(decide (SoE.i x<b)=ab->SoE.L x=l2/\0=0)
  ):=by kernel_rfl
--@end
noncomputable def dIsE:DcL E (Int×Int×Unit×Unit):= .cons dN (.cons dN (.cons (dFun 91) .nil))
def Yd3(l:List Rep) (x:Int×Int×Unit×Unit):Prop:=x.1=0/\x.2.1=l.length/\l.length<=1000
def zSum:Sum thy:=λ_ _ _ _=>False
theorem Yho{f:Nat} (I:FnGood E.P f):SumOk E f zSum:=⟨I,λargs h i k R J=>J.elim⟩
noncomputable def SisE:Sum thy:=Yaf E cN dIsE Yd3 λl _=>srtE l
def Yor:Fr thy->Hp thy->Nat->Ann thy:=λT h i=>{X:=SoE,fr:=λx=> [(0,T 0),(1,T 1),(2,T 2),(6,T 6),(7,.int ab .i64 x.i),(8,.int ab .i64 x.j)],bl:=λx=>blkR (T 0) x.L,src:=λ_=> [],md:= [bOf (T 0)],ih:=i,M:=i+30,meas:=λx=>x.r}
def Yos:Fr thy->Hp thy->Nat->Ann thy:=λT h i=>{X:=SoE,fr:=λx=> [(0,T 0),(1,T 1),(2,T 2),(6,.int ab .i64 x.i)],bl:=λx=>blkR (T 0) x.L,src:=λ_=> [],md:= [bOf (T 0)],ih:=i,M:=i+30,meas:=λx=>x.r}
def Yot:Fr thy->Hp thy->Nat->Ann thy:=λT h i=>{X:=SoE,fr:=λx=> [(0,T 0),(1,T 1),(2,T 2),(6,T 6),(7,.int ab .i64 x.i),(8,.int ab .i64 x.j)],bl:=λx=>blkR (T 0) x.L,src:=λ_=> [],md:= [bOf (T 0)],ih:=i,M:=i+30,meas:=λx=>x.r}
noncomputable def FstE:Fns thy:=addL (addL (addL (addS (addS F0 148 SisE) 149 zSum) 126 2 Yor E) 126 7 Yos E) 126 9 Yot E
--@condg stbE | (l l2 : List Rep) | Zk E FstE (vc E FstE 400) 90 [.sl 0 0 (aa l) (E.w cN) au, cmpR] (hp1 cN l 0) 1 (inpK cN l l2)
theorem Z4i(l l2:List Rep):Zk E FstE (vc E FstE 400) 90 [.sl 0 0 (aa l) (E.w cN) au,cmpR] (hp1 cN l 0) 1 (inpK cN l l2)=(
  ∃(R:SoE->Prop),(∃(x:SoE),R x/\ac=ac/\((0=0/\aa l=aa l/\True)/\(↑(aa l):Int)=(↑(aa l):Int)/\
  (cF (91:FuncId)=cF (91:FuncId)/\True/\True)/\(20:Int)=20/\0=SoE.i x/\(20
  :Int)=SoE.j x/\True)/\(l=SoE.L x/\0=0)/\True)/\∀(x:SoE),R x->(decide (SoE.j x<=(↑(aa l):Int))=ac->(aa l=aa
  (SoE.L x)/\SoE.i x=0/\SoE.j x=(↑(aa (SoE.L x)):Int)/\aa (SoE.L x)<=1000)/\∀(J:List Rep),J=srtE (SoE.L x)->∃(I:SoE),R I
  /\I.4+1<=x.4/\ac=ac/\((0=0/\aa l=aa l/\True)/\(↑(aa l):Int)=(↑(aa l):Int)/\(cF
  (91:FuncId)=cF (91:FuncId)/\True/\True)/\(20:Int)=20/\SoE.j x=SoE.i I/\wr
  ag (SoE.j x+20)=SoE.j I/\True)/\(J=SoE.L I/\0=0)/\True)/\(decide (SoE.j x<=(↑(aa l):Int))=ab->(aa l=
  aa (SoE.L x)/\SoE.i x=0/\(↑(aa l):Int)=(↑(aa (SoE.L x)):Int)/\aa (SoE.L x)<=1000)/\∀(J:List Rep),J=srtE
  (SoE.L x)->∃(R:SoE->Prop),(∃(x:SoE),R x/\ac=ac/\((0=0/\aa l=aa l/\True)/\(↑(aa l):Int)=(↑(aa l):
  Int)/\(cF (91:FuncId)=cF (91:FuncId)/\True/\True)/\20=SoE.i x/\True)/\(J=SoE.L x
  /\0=0)/\True)/\∀(x:SoE),R x->(decide (SoE.i x<(↑(aa l):Int))=ac->∃(a0:SoE->Prop),(∃(I:SoE),a0 I/\ac=ac/\(((0:
  Nat)=0/\aa l=aa l/\True)/\(↑(aa l):Int)=(↑(aa l):Int)/\(cF (91:FuncId)=cF
  (91:FuncId)/\True/\True)/\SoE.i x=SoE.i x/\0=SoE.i I/\wr ag (2*SoE.i x)=SoE.j I/\True)/\(SoE.L x=
  SoE.L I/\0=0)/\True)/\∀(I:SoE),a0 I->(decide (SoE.j I<=(↑(aa l):Int))=ac->False)/\(decide (SoE.j I<=(↑(aa l):
  Int))=ab->(decide (wr ag (SoE.i I+SoE.i x)<(↑(aa l):Int))=ac->False)/\(decide (wr ag (SoE.i I+SoE.i x)<(↑(aa l):
  Int))=ab->∃(U:SoE),R U/\U.4+1<=x.4/\ac=ac/\((0=0/\aa l=aa l/\True)/\(↑(aa l):Int)=
  (↑(aa l):Int)/\(cF (91:FuncId)=cF (91:FuncId)/\True/\True)/\wr ag (SoE.i x*
  2)=SoE.i U/\True)/\(SoE.L I=SoE.L U/\0=0)/\True)))/\(decide (SoE.i x<(↑(aa l):Int))=ab->SoE.L x=l2/\0=(0:
  Nat)))
  ):=by kernel_rfl
--@end
--@cond stbN | 90 | F0 | 400 | (u : Nat) | [.val (.slice au 0 0), cmpR] | (u2 : Nat) | .tup []
theorem Z4j(u:Nat) (I:Nat):Zk E F0 (vc E F0 400) 90 [.val (.slice au 0 0),cmpR] hp0 0 (λr=>ret E (patch hp0 0 r) r.v (.tup []))=(
  True
  ):=by kernel_rfl
--@end
theorem Z4k{x:Rep}:∀{p q:List Rep},(∀y∈p,ltE x y)->(∀y∈q.head?,¬ltE x y)->insR x (p++q)=p++x::q
  | [],[],_,_=>rfl
  | [],y::q,_,h=>jJ (h y rfl)
  |y::p,q,I,J=>by
    rw[cd,insR,jM (I y (by simp)),Z4k (λz R=>I z (by simp[R])) J];rfl
theorem Yhp{A B:List Rep} {x y:Rep} {j:Nat} (h:A.length+1=j):((A++y::x::B).set j y).set (j-1) x=A++x::y::B:=by
  subst h;rw[gR _ _ (by omega),gR _ _ (by omega)];rw[show A.length+1-A.length=1 by omega,show A.length+1-1-A.length=0 by omega];rfl
theorem Z4l{l:List Rep} {k:Nat} {x:Rep} (h:l[k]? =ae x):srtR (l.take (k+1))=insR x (srtR (l.take k)):=by
  unfold srtR;rw[cA,h,List.foldl_append];rfl
theorem Yao(l:List Rep):(srtR l).length=l.length:=by
  have:=(Zfk l).length_eq;unfold srtE at this
  rwa[fN] at this
theorem wrs{n:Int} (I: -1000000<=n) (J:n<=1000000):wr .i64 n=n:=wr64 (by omega) (by omega)
theorem Ylx(l:List Rep) (x:Int×Int×Unit×Unit) (h:Yd3 l x):InpC E 148 cN (dIsE.enc x) l (srtE l):=by
  obtain⟨a,b,u1,u2⟩:=x;obtain⟨h1,h2,h3⟩:a=0/\b=l.length/\l.length<=1000:=h;refine Zgi E_ok (Zd E_ok Yhn 400) rfl ?_;refine Eq.mpr (Ztp l _ a b) ?_;subst h1 h2;simp only[bq,fO,fG,true_and,and_true,ku,kK];refine⟨λx=>∃i:Nat,x.i=i/\1<=i/\(i<=l.length\/i=1)/\x.L=(srtR (l.take i)).reverse++l.drop i/\x.r=l.length-i,⟨⟨l,1,0,l.length-1⟩,⟨1,rfl,av _,.inr rfl,?_,rfl⟩,wrs (by omega) (by omega),rfl⟩,?_⟩
  ·cases l with
   |nil=>rfl
   |cons u r=>rfl
  rintro x ⟨i,hi,b5,b6,hL,hr⟩;refine aC (λh=> ?_) (λh=> ?_)
  ·have a9:i<l.length:=by omega
   obtain⟨y,hy⟩:∃y,l[i]? =ae y:=⟨_,ao a9⟩;have hs:(srtR (l.take i)).length=i:=by rw[Yao,bi];omega
   generalize hS:srtR (l.take i)=S at*;refine⟨λz=>∃p q,S=p++q/\z.L=q.reverse++y::(p.reverse++l.drop (i+1))/\z.j=(q.length:Int)/\(∀w∈p,ltE y w)/\z.r=q.length,⟨⟨x.L,0,x.i,i⟩,⟨[],S,rfl,?_,?_,(λw I=>by cases I),hs.symm⟩,rfl,rfl⟩,?_⟩
   ·show x.L=_
    rw[hL,Z4 hy];rfl
   ·show x.i=_
    omega
   rintro z ⟨p,q,a4,a5,a6,b1,b4⟩;have b2:p.length+q.length=i:=by rw[<-hs,a4,az]
   have b9:z.L.length=l.length:=by rw[a5];simp;omega
   have done:∀(hq:∀w∈q.head?,¬ltE y w),∃J:SoE,(∃i:Nat,J.i=i/\1<=i/\(i<=l.length\/i=1)/\J.L=(srtR (l.take i)).reverse++l.drop i/\J.r=l.length-i)/\J.r+1<=x.r/\wr .i64 (x.i+1)=J.i/\z.L=J.L:=by
     intro hq;refine⟨⟨z.L,x.i+1,0,l.length-(i+1)⟩,⟨i+1,(by show x.i+1=_;omega),by omega,.inl a9,?_,rfl⟩,(by show l.length-(i+1)+1<=x.r;omega),wrs (by omega) (by omega),rfl⟩;show z.L=_;rw[Z4l hy,hS,a4,Z4k b1 hq,a5];simp
   refine aC (λhj=> ?_) (λhj=> ?_)
   ·cases q with
    |nil=>simp at a6;omega
    |cons a q=>
      have b8:z.j=(q.length:Int)+1:=by rw[a6,aE];omega
      have a1:z.L=q.reverse++a::y::(p.reverse++l.drop (i+1)):=by rw[a5,List.reverse_cons,be];rfl
      have t1:z.j.toNat=q.length+1:=by omega
      have b7:q.length+1<=i:=by rw[aE] at b2;omega
      have w1:wr .i64 (z.j-1)=(q.length:Int):=by rw[wrs (by omega) (by omega)];omega
      have t2:(q.length:Int).toNat=q.length:=bk _;have g1:z.L[q.length+1]? =ae y:=by rw[a1,bx (by simp),fN,Nat.add_sub_cancel_left];rfl
      have g2:z.L[q.length]? =ae a:=by rw[a1,bx (by simp),fN,eB];rfl
      have b3:(z.L.set (q.length+1) a).set q.length y=q.reverse++y::a::(p.reverse++l.drop (i+1)):=by
        have:=Yhp (A:=q.reverse) (B:=p.reverse++l.drop (i+1)) (x:=y) (y:=a) (j:=q.length+1) (by rw[fN]);rw[Nat.add_sub_cancel] at this;rw[a1];exact this
      rw[w1,t1,t2];refine⟨⟨by omega,by omega⟩,by omega,λy2 a0=>⟨⟨by omega,by omega⟩,by omega,λa2 U=>λv hv=>aC (λR=>⟨⟨by omega,by omega⟩,by omega,λa3 a7=>⟨⟨by omega,by omega⟩,by omega,λy3 b0=>⟨⟨by omega,by omega⟩,aW _,by omega,λ_ _=>⟨⟨by omega,by omega⟩,aW _,(by rw[cJ];omega),λ_ _=> ?_⟩⟩⟩⟩) (λR=> ?_)⟩⟩
      ·rw[g1] at a0 b0;rw[g2] at U a7
       cases a0;cases b0;cases U;cases a7;rw[hv,Zyg] at R;refine⟨⟨(z.L.set (q.length+1) a).set q.length y,0,(q.length:Int),q.length⟩,⟨p++ [a],q,by rw[a4,be];rfl,?_,rfl,?_,rfl⟩,(by rw[b4,aE];exact av _),rfl,rfl⟩
       ·show(z.L.set (q.length+1) a).set q.length y=_
        rw[b3];simp
       ·intro w I
        rcases cf.1 I with I|I
        ·exact b1 w I
        ·rw[ct.1 I];exact R
      ·rw[g1] at a0;rw[g2] at U
       cases a0;cases U;rw[hv,Zyg] at R;exact done λw I=>by cases I;exact R
   ·exact done λw I=>by
      cases q with
      |nil=>cases I
      |cons a q=>simp at a6;omega
  ·have a8:l.length<=i:=by omega
   rw[bh a8,bL a8,cG] at hL;exact hL
theorem Yhq:SumOk E 148 SisE:=Zwk E_ok (Zc (f:=148) rfl) λx l h=>Ylx l x h
theorem Yhr:FnsOk E FstE:=Zm E_ok (Zm E_ok (Zm E_ok (Zb (Zb F0_ok Yhq) (Yho (Zc (f:=149) rfl))) _ _ _) _ _ _) _ _ _
theorem Yhs(l:List Rep) (h:l.length<=8):InpC E 90 cN [cmpR] l (srtE l):=by
  refine Zgi E_ok (Zd E_ok Yhr 400) rfl ?_;refine Eq.mpr (Z4i l _) ?_;simp only[bq,fO,fG,true_and,and_true,ku,kK];refine⟨λx=>x.L=l/\x.i=0/\x.j=20,⟨⟨l,0,20,0⟩,⟨rfl,rfl,rfl⟩,⟨rfl,rfl⟩,rfl⟩,?_⟩;rintro x ⟨I,hi,U⟩;refine aC (λh=>by omega) (λ_=> ?_);rw[I];refine⟨⟨rfl,hi,rfl,by omega⟩,λJ R=>⟨λx=>x.L=J/\x.i=20,⟨⟨J,20,0,0⟩,⟨rfl,rfl⟩,rfl,rfl⟩,?_⟩⟩;rintro x ⟨I,hi⟩;exact⟨λh=>by omega,λ_=>I.trans R⟩
theorem stbN_pure:PureC E 90 [.val (.slice au 0 0),cmpR] (.tup []):=by
  refine Za E_ok (Zd E_ok F0_ok 400) ?_;rw[Z4j 0 0];trivial
/-- the library's stable sort of a list, or of nil -/
noncomputable def SsoE:Sum thy:=λargs h i k=>match args with
  | [.val (.slice au 0 0),.fn (.func 91) [] []]=>k (quiet [] (.tup []))
  |_=>Yaf E cN (.cons (dFun 91) .nil) (λ(l:List Rep) _=>l.length<=8) (λ(l:List Rep) _=>srtE l) args h i k
theorem Yht:SumOk E 90 SsoE:=by
  have J:=Zc (f:=90) rfl;refine⟨J,λargs h i k U I=> ?_⟩;unfold SsoE at I;split at I
  ·have R:=stbN_pure.tri E_ok rfl h i
   exact⟨_,I,R.1,.inl R.2⟩
  ·exact(Zwk (th:=cN) E_ok J (d:= .cons (dFun 91) .nil) (pre:=λ(l:List Rep) _=>l.length<=8) (F:=λ(l:List Rep) _=>srtE l) λx l h=>Yhs l h).2 args h i k U I
end
end Go.Proofs.YtbkgpcknakidkaaGreatDoor
