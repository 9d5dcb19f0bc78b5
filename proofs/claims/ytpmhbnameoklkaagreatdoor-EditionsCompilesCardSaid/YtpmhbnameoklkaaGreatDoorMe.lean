/- Merged texts: TpG, TpL, EngZL, TpM, TpI, TpPa, TpIz, EngZM, TpQ, TpPb, TpPc, TpR, TpP0, TpPd, TpPe, TpPf, TpPg, TpS, TpJ0, TpJ, TpT, TtJ, TtK, TtM, TtN, TtR, TtB, TtC, TtL, TtP. -/
import Derived.Lib.ItoaNum
import Derived.Test.YtpmhbnameoklkaaGreatDoorMd
open And renaming intro->aA
open Bool renaming and_eq_false_iff->bd,and_eq_true->aq,and_true->cx,false->ab,false_eq_true->aK,not_eq_false'->bY,not_eq_true'->bh,or_eq_false_iff->bA,or_eq_true->be,true->ac,true_and->cm,true_eq_false->aO
open Decidable renaming not_not->bp
open Except renaming error->az,ok->aT
open Go.Fn renaming func->cA
open Go.IntKind renaming i64->af
open Go.Proofs.YtpmhbnameoklkaaGreatDoor.Cls renaming mk->eP,name->aP,pay->aC,when_->aX
open Go.Proofs.YtpmhbnameoklkaaGreatDoor.Ex renaming d0->bC,d1->bD,d2->bE,d3->bF,l->bw,mk->bV,n->bX,op->aJ
open Go.Proofs.YtpmhbnameoklkaaGreatDoor.Tar renaming clauses->au,for_->bB,name->bN
open Go.Proofs.YtpmhbnameoklkaaGreatDoor.Th renaming clauses->bq,dimc->jV,dims->gh,ints->fN,strs->dm,toks->dc
open Go.Proofs.YtpmhbnameoklkaaGreatDoor.Tok renaming at_->dh,kind->cu,n->fi,text->cH
open Go.Proofs.YtpmhbnameoklkaaGreatDoor.Tst renaming attr->dP,high->eW,low->eV
open Go.Value renaming slice->aH
open Int renaming le_of_lt->kx,le_refl->bW,mul_le_mul_of_nonneg_right->fk,ofNat_eq_natCast->bL,pow_pos->kB,reduceAdd->gJ,reduceLE->gT,tdiv->dj,tdiv_eq_ediv_of_nonneg->cw,tmod->eE,tmod_eq_emod_of_nonneg->cU,toNat->ag,toNat_natCast->bx
open List renaming all_eq_true->eD,append_assoc->bI,cons_append->da,drop->ct,drop_eq_getElem_cons->cr,drop_eq_nil_of_le->bK,drop_zero->dd,getD->ah,getD_cons_succ->cR,getD_cons_zero->cQ,getD_eq_getElem?_getD->bu,getElem?_cons_succ->dO,getElem?_cons_zero->dk,getElem?_eq_getElem->aj,getElem?_eq_some_iff->ak,getElem_mem->fV,length->aa,length_append->aD,length_cons->aB,length_drop->cY,length_map->gg,length_nil->bg,length_tail->eX,length_take->bk,map_append->fD,map_congr_left->ji,map_cons->cg,map_nil->dI,mem_append->bT,mem_append_left->ez,mem_append_right->dz,mem_cons->aM,mem_of_getElem?->aI,mem_singleton->cd,nil_append->ee,range->cK,set->dw,set_cons_succ->fK,set_cons_zero->eJ,sum_cons->kh,tail->bv,take->av,take_add_one->cz,take_length->aW,take_of_length_le->bm
open List.cons renaming injEq->cZ
open List.range renaming loop->eS
open Nat renaming add_zero->dM,beq->aL,beq_refl->fC,eq_of_beq_eq_true->ax,eq_zero_or_pos->gY,le_refl->aw,le_trans->bR,lt_of_lt_of_le->bZ,lt_or_ge->fh,lt_succ_self->eF,min_eq_left->iG,mul_add->kC,mul_one->jj,pow_add->kA,pow_le_pow_right->gu,reduceAdd->gH,reduceLeDiff->fW,reducePow->cI,reduceSub->gG,strongRecOn->ir,zero_le->bb
open Option renaming bind_some->eQ,getD->cy,getD_some->cW,isNone_iff_eq_none->iu,isSome->cO,isSome_eq_false_iff->im,isSome_iff_exists->iw,isSome_some->je,ne_none_iff_exists'->aU,none->ar,some->ae
open Option.some renaming injEq->cp
open Or renaming inl->jd,inr->iH
open Prod renaming fst->ao,snd->aE
open UInt8 renaming ofNat->fe,toNat->cJ,toNat_ofNat'->gF
namespace Go.Proofs.YtpmhbnameoklkaaGreatDoor
set_option linter.unusedVariables false
set_option linter.unusedSimpArgs false
set_option linter.unnecessarySimpa false
set_option maxRecDepth 100000
section
open Go
noncomputable def dCl:Dc E Cls:=(dR .clauses:Dc E (thy.dom bq))
noncomputable def dCls:Dc E (List Cls):=(Zcv (E:=E) bq:Dc E (List (thy.dom bq)))
noncomputable def Yj6:Sum thy:=sumM (mI (dA1 dN) (n1 λ_=>rfl) dTs (λ_=>rfl)) (λ_ _=>True) λx a=>Zct a.1 x.1 x.2.1
theorem Ya6:SumOk E 93 Yj6:=X8 E_ok (Zc rfl) λx a _=>Z7o x.1 x.2.1 a.1
def Aif:Fr thy->Hp thy->Nat->Ann thy:=λT h i=>{X:=LX,fr:=λx=> [(0,T 0),(1,T 1),(7,T 7),(8,.int ab .i64 x.k)],bl:=λx=>(match T 1 with| .fn _ _ [v]=>blkP h v|_=> []),src:=λ_=> [],md:= [],ih:=i,M:=i+30,meas:=λx=>x.r}
structure TX where
 ts:List Tst
 l:List Tok
 ed:Int
 more:Bool
 k:Nat
def cellsOf(h:Hp thy) (v:SV thy):List (SV thy):=match h (bOf v) with|some (.raw cs _ _)=>cs|_=> []
def Atl:Fr thy->Hp thy->Nat->Ann thy:=λT h i=>{X:=Bool×TX,fr:=λx=> [(0,T 0),(4,T 4),(5,T 5),(6,T 6),(7,.bool ab x.2.more)],bl:=λx=>(bOf (T 0),.raw [.psl dc x.2.l ab,.int ab .i64 x.2.ed] 0 ar)::(bOf (T 6),.raw ((cellsOf h (T 6)).take 1++((match x.1 with|true=> .sl i 0 x.2.ts.length 3 ar|false=> .val (.slice ar 0 0))::(cellsOf h (T 6)).drop 2)) 0 ar)::((match x.1 with|true=> [(i,.rows Th.tests x.2.ts 0)]|false=> [])++blkP h (T 4)),src:=λx=>(match x.1 with|true=> [(i,2006)]|false=> []),md:= [bOf (T 0),bOf (T 6)],ih:=i+1,M:=i+60,meas:=λx=>x.2.k,ex:=ex2,al:=al2,exOk:=Zix,alOk:=Ziy}
noncomputable def Fcl:Fns thy:=addL (addL (addS (addS (addS (addS Fme 49 Z7k) 93 Yj6) 94 Sx) 95 Zni) 146 2 Aif E) 51 6 Atl E
theorem Yj7:FnsOk E Fcl:=Zm E_ok (Zm E_ok (Zb (Zb (Zb (Zb Zha Zud) Ya6) Yj9) Zja) _ _ _) _ _ _
def pTs:Nat->Bool->List Tst->List Tok->Int->PR (List Tst)
 |0,_,ts,l,e=> .ok (ts,l,e,())
 |k+1,more,ts,l,e=>
  if more then
   match Zct ts.length l e with
   | .error I=> .error I
   | .ok (t,x)=>pTs k (isW [97,110,100] x.1) (ts++ [t]) (if isW [97,110,100] x.1 then x.1.tail else x.1) x.2.1
  else .ok (ts,l,e,())
def pPay(J:List Nat) (ts:List Tst) (l:List Tok) (e:Int):PR Cls:=
 if isW [112,97,121] l then
  match pX l.tail e with
  | .error I=> .error I
  | .ok (x,y)=>
   if 24<Y5 x then .error (hdT e l.tail,2)
   else if isW [59] y.1 then .ok (⟨J,ts,x⟩,y.1.tail,y.2.1,()) else .error (hdT y.2.1 y.1,160)
 else .error (hdT e l,160)
def pAft(J:List Nat) (r:PR (List Tst)):PR Cls:=
 match r with
 | .error I=> .error I
 | .ok (ts,y)=>pPay J ts y.1 y.2.1
def Xu(bs:List Cls) (l:List Tok) (e:Int):PR Cls:=
 match Ziv l e with
 | .error J=> .error J
 | .ok (I,x)=>
  if bs.any (λb=>b.name==I) then .error (hdT e l,161)
  else pAft I (pTs 10 (isW [119,104,101,110] x.1) [] (if isW [119,104,101,110] x.1 then x.1.tail else x.1) x.2.1)
theorem Zbl{l:List Tok} {e:Int} {y:List Nat} {x:PX} (h:Ziv l e= .ok (y,x)):x.1.length<l.length:=by
 unfold Ziv at h;split at h
 ·cases h
 ·split at h
  ·split at h
   ·cases h
   ·injection h with h
    injection h with _ h
    subst h;exact eF _
  ·cases h
theorem Znp{l:List Tok} {e:Int} {y:Int} {x:PX} (h:pInt l e= .ok (y,x)):x.1.length<l.length:=by
 unfold pInt at h;split at h
 ·cases h
 ·split at h
  ·injection h with h
   injection h with _ h
   subst h;exact eF _
  ·cases h
theorem Zwr{s:List Nat} {l:List Tok}:(if isW s l=ac then l.tail else l).length<=l.length:=by
 split
 ·have:=Z4 (by assumption);omega
 ·exact aw _
theorem Zjh{n:Int} {l:List Tok} {e:Int} {y:Tst} {x:PX} (h:Zct n l e= .ok (y,x)):x.1.length<l.length/\n≠8:=by
 unfold Zct at h;split at h
 ·cases h
 ·rename_i a x0 hm
  obtain⟨h1,_,rfl⟩:=Zbm hm;have hp:=Zcr h1;split at h
  ·cases h
  ·rename_i hn
   refine⟨?_,hn⟩;split at h
   ·rename_i I
    have I:=Z4 I;split at h
    ·cases h
    ·rename_i m J hi
     have hi:=Znp hi;injection h with h
     injection h with _ h
     subst h;have I:l.tail.tail.length+1=l.tail.length:=I;have hi:J.1.length<l.tail.tail.length:=hi;omega
   ·split at h
    ·rename_i I
     have I:=Z4 I;split at h
     ·cases h
     ·rename_i m J hi
      have hi:=Znp hi;have I:l.tail.tail.length+1=l.tail.length:=I;have hi:J.1.length<l.tail.tail.length:=hi;split at h
      ·rename_i U
       have U:=Z4 U;split at h
       ·cases h
       ·rename_i k x2 R
        have R:=Znp R;injection h with h
        injection h with _ h
        subst h;omega
      ·cases h
    ·cases h
abbrev Zqt(R:Bool×TX->Prop) (y:Int) (a1:List Nat) (out:PR Cls):Prop:=
 ∀(J:TX),R (ab,J)->(TX.more J=ac->True/\(∀(I:Tst) (x':PX),Zct (0:Int) (TX.l J) (TX.ed J)=aT (I,x')->True/\(∀(a2:Bool) (a0
 :PX),pAcc [(97:Nat),(110:Nat),(100:Nat)] (ao x') (ao (aE x'))=aT (a2,a0)->(∃(U:TX),R (ab,U)/\U.5+(1:Nat)<=J.5/\
 ac=ac/\((0:Nat)=(0:Nat)/\(0:Nat)=(0:Nat)/\y=y/\(0:Nat)=(0:Nat)/\a2=TX.more U/\True)/\((ao a0=TX.l U/\(ab=ac->ab=
 ac))/\ao (aE a0)=TX.ed U/\True)/\(a1=a1/\False/\(0:Int)=(0:Int)/\(0:Int)=(0:Int)/\(0:Int)=(0:Int)/\(0:Int)=(0:Int)/\(0:
 Int)=(0:Int)/\(0:Int)=(0:Int)/\aH ar (0:Nat) (0:Nat)=aH ar (0:Nat) (0:Nat)/\True)/\(([]:List Nat)= []/\aH ar (0:
 Nat) (0:Nat)=aH ar (0:Nat) (0:Nat)/\(0:Int)=(0:Int)/\(0:Int)=(0:Int)/\(0:Int)=(0:Int)/\(0:Int)=(0:Int)/\(0:Int)=(0:Int)/\(0
 :Int)=(0:Int)/\aH ar (0:Nat) (0:Nat)=aH ar (0:Nat) (0:Nat)/\True)/\True)\/∃(U:TX),R (ac,U)/\U.5+(1:Nat)<=J.5/\ac
 =ac/\((0:Nat)=(0:Nat)/\(0:Nat)=(0:Nat)/\y=y/\(0:Nat)=(0:Nat)/\a2=TX.more U/\True)/\((ao a0=TX.l U/\(ab=ac->ab=ac))
 /\ao (aE a0)=TX.ed U/\True)/\(a1=a1/\((0:Nat)=(0:Nat)/\(1:Nat)=aa (TX.ts U)/\True)/\(0:Int)=(0:Int)/\(0:Int)=(0:Int)
 /\(0:Int)=(0:Int)/\(0:Int)=(0:Int)/\(0:Int)=(0:Int)/\(0:Int)=(0:Int)/\aH ar (0:Nat) (0:Nat)=aH ar (0:Nat) (0:Nat)/\
 True)/\([I]=TX.ts U/\(0:Nat)=(0:Nat))/\(([]:List Nat)= []/\aH ar (0:Nat) (0:Nat)=aH ar (0:Nat) (0:Nat)/\(0:Int)=(0:Int)
 /\(0:Int)=(0:Int)/\(0:Int)=(0:Int)/\(0:Int)=(0:Int)/\(0:Int)=(0:Int)/\(0:Int)=(0:Int)/\aH ar (0:Nat) (0:Nat)=aH ar
 (0:Nat) (0:Nat)/\True)/\True)/\∀(e:Int×Int),pAcc [(97:Nat),(110:Nat),(100:Nat)] (ao x') (ao (aE x'))=az e->out=az
 e)/\∀(e:Int×Int),Zct (0:Int) (TX.l J) (TX.ed J)=az e->out=az e)/\(TX.more J=ab->(isW [(112:Nat),(97:Nat),(121:Nat)] (TX.l
 J)=ac->∀(y:Int),y=hdT (TX.ed J) (bv (TX.l J))->True/\(∀(I:Ex) (x':PX),pX (bv (TX.l J)) (TX.ed J)=aT (I,x')->Ex.sz (bV
 (aJ I) (bX I) (bC I) (bD I) (bE I) (bF I) (bw I))+(1:Nat)<=(1000000000000:Nat)/\(decide ((↑(Y5 (bV (aJ I) (bX I) (bC
 I) (bD I) (bE I) (bF I) (bw I))):Int)>(24:Int))=ac->out=az (y,(2:Int)))/\(decide ((↑(Y5 (bV (aJ I) (bX I) (bC
 I) (bD I) (bE I) (bF I) (bw I))):Int)>(24:Int))=ab->(isW [(59:Nat)] (ao x')=ac->out=aT (eP a1 [] (bV (aJ I)
 (bX I) (bC I) (bD I) (bE I) (bF I) (bw I)),bv (ao x'),ao (aE x'),()))/\(isW [(59:Nat)] (ao x')=ab->out=
 az (hdT (ao (aE x')) (ao x'),(160:Int)))))/\∀(e:Int×Int),pX (bv (TX.l J)) (TX.ed J)=az e->out=az e)/\
 (isW [(112:Nat),(97:Nat),(121:Nat)] (TX.l J)=ab->out=az (hdT (TX.ed J) (TX.l J),(160:Int))))
abbrev Zji(x':PX) (y:Int) (a0:List Nat) (out:PR Cls):Prop:=
 ∀(a4:Bool) (a2:PX),pAcc [(119:Nat),(104:Nat),(101:Nat),(110:Nat)] (ao x') (ao (aE x'))=aT (a4,a2)->∃(R:Bool×TX->Prop),
 ((∃(I:TX),R (ab,I)/\ac=ac/\((0:Nat)=(0:Nat)/\(0:Nat)=(0:Nat)/\y=y/\(0:Nat)=(0:Nat)/\a4=TX.more I/\True)/\((ao a2=TX.l
 I/\(ab=ac->ab=ac))/\ao (aE a2)=TX.ed I/\True)/\(a0=a0/\aH ar (0:Nat) (0:Nat)=aH ar (0:Nat) (0:Nat)/\
 (0:Int)=(0:Int)/\(0:Int)=(0:Int)/\(0:Int)=(0:Int)/\(0:Int)=(0:Int)/\(0:Int)=(0:Int)/\(0:Int)=(0:Int)/\aH ar (0:Nat) (0:
 Nat)=aH ar (0:Nat) (0:Nat)/\True)/\(([]:List Nat)= []/\aH ar (0:Nat) (0:Nat)=aH ar (0:Nat) (0:Nat)/\(0:Int)=(0:Int)
 /\(0:Int)=(0:Int)/\(0:Int)=(0:Int)/\(0:Int)=(0:Int)/\(0:Int)=(0:Int)/\(0:Int)=(0:Int)/\aH ar (0:Nat) (0:Nat)=aH ar
 (0:Nat) (0:Nat)/\True)/\True)\/∃(y:TX),R (ac,y)/\ac=ac/\False)/\(Zqt R y a0 out)/\∀(I:TX),R (ac,I)->(TX.more I=ac->True/\(∀
 (J:Tst) (x':PX),Zct (↑(aa (TX.ts I)):Int) (TX.l I) (TX.ed I)=aT (J,x')->(aa (TX.ts I)<=aa (TX.ts I)/\(0:Nat)<=
 aa (TX.ts I)/\(aa (TX.ts I)+(1:Nat))*(24:Nat)<=(140737488355328:Nat))/\True/\(∀(a3:Bool) (a1:PX),pAcc [(97:Nat),(110:Nat),(100
 :Nat)] (ao x') (ao (aE x'))=aT (a3,a1)->(∃(U:TX),R (ab,U)/\U.5+(1:Nat)<=I.5/\ac=ac/\((0:Nat)=(0:Nat)/\(0:
 Nat)=(0:Nat)/\y=y/\(0:Nat)=(0:Nat)/\a3=TX.more U/\True)/\((ao a1=TX.l U/\(ab=ac->ab=ac))/\ao (aE a1)=TX.ed U
 /\True)/\(a0=a0/\False/\(0:Int)=(0:Int)/\(0:Int)=(0:Int)/\(0:Int)=(0:Int)/\(0:Int)=(0:Int)/\(0:Int)=(0:Int)/\(0:Int)=(0:Int)/\
 aH ar (0:Nat) (0:Nat)=aH ar (0:Nat) (0:Nat)/\True)/\(([]:List Nat)= []/\aH ar (0:Nat) (0:Nat)=aH ar (0:Nat) (0
 :Nat)/\(0:Int)=(0:Int)/\(0:Int)=(0:Int)/\(0:Int)=(0:Int)/\(0:Int)=(0:Int)/\(0:Int)=(0:Int)/\(0:Int)=(0:Int)/\aH ar (0:
 Nat) (0:Nat)=aH ar (0:Nat) (0:Nat)/\True)/\True)\/∃(U:TX),R (ac,U)/\U.5+(1:Nat)<=I.5/\ac=ac/\((0:Nat)=(0:Nat)/\(0:Nat)
 =(0:Nat)/\y=y/\(0:Nat)=(0:Nat)/\a3=TX.more U/\True)/\((ao a1=TX.l U/\(ab=ac->ab=ac))/\ao (aE a1)=TX.ed U/\
 True)/\(a0=a0/\((0:Nat)=(0:Nat)/\aa (TX.ts I)+(1:Nat)=aa (TX.ts U)/\True)/\(0:Int)=(0:Int)/\(0:Int)=(0:Int)/\(0:Int)=
 (0:Int)/\(0:Int)=(0:Int)/\(0:Int)=(0:Int)/\(0:Int)=(0:Int)/\aH ar (0:Nat) (0:Nat)=aH ar (0:Nat) (0:Nat)/\True)/\
 (av (aa (TX.ts I)) (TX.ts I)++ [J]=TX.ts U/\(0:Nat)=(0:Nat))/\(([]:List Nat)= []/\aH ar (0:Nat) (0:Nat)=aH ar
 (0:Nat) (0:Nat)/\(0:Int)=(0:Int)/\(0:Int)=(0:Int)/\(0:Int)=(0:Int)/\(0:Int)=(0:Int)/\(0:Int)=(0:Int)/\(0:Int)=(0:Int)/\aH
 ar (0:Nat) (0:Nat)=aH ar (0:Nat) (0:Nat)/\True)/\True)/\∀(e:Int×Int),pAcc [(97:Nat),(110:Nat),(100:Nat)] (ao x') (ao (aE
 x'))=az e->out=az e)/\∀(e:Int×Int),Zct (↑(aa (TX.ts I)):Int) (TX.l I) (TX.ed I)=az e->out=az e)/\
 (TX.more I=ab->(isW [(112:Nat),(97:Nat),(121:Nat)] (TX.l I)=ac->∀(y:Int),y=hdT (TX.ed I) (bv (TX.l I))->True/\(∀(J:Ex) (x':PX),
 pX (bv (TX.l I)) (TX.ed I)=aT (J,x')->Ex.sz (bV (aJ J) (bX J) (bC J) (bD J) (bE J) (bF J) (bw J))+(1:Nat)<=
 (1000000000000:Nat)/\(decide ((↑(Y5 (bV (aJ J) (bX J) (bC J) (bD J) (bE J) (bF J) (bw J))):Int)>(24:Int))=ac->out=
 az (y,(2:Int)))/\(decide ((↑(Y5 (bV (aJ J) (bX J) (bC J) (bD J) (bE J) (bF J) (bw J))):Int)>(24:Int))=ab->(isW
 [(59:Nat)] (ao x')=ac->(0:Nat)+aa (TX.ts I)<=aa (TX.ts I)/\out=aT (eP a0 (av (aa (TX.ts I)) (ct (0
 :Nat) (TX.ts I))) (bV (aJ J) (bX J) (bC J) (bD J) (bE J) (bF J) (bw J)),bv (ao x'),ao (aE x'),()))/\(isW [(59
 :Nat)] (ao x')=ab->out=az (hdT (ao (aE x')) (ao x'),(160:Int)))))/\∀(e:Int×Int),pX (bv (TX.l I)) (TX.ed I)=
 az e->out=az e)/\(isW [(112:Nat),(97:Nat),(121:Nat)] (TX.l I)=ab->out=az (hdT (TX.ed I) (TX.l I),(160:Int))))
abbrev Zjj(I:List Nat):Prop:=
 I=I/\aH ar (0:Nat) (0:Nat)=aH ar (0:Nat) (0:Nat)/\(0:Int)=(0:Int)/\(0:Int)=(0:Int)/\(0:Int)=(0:Int)/\(0:Int)=(0:
 Int)/\(0:Int)=(0:Int)/\(0:Int)=(0:Int)/\aH ar (0:Nat) (0:Nat)=aH ar (0:Nat) (0:Nat)/\True
abbrev Zjk:Prop:=
 cA (92:Nat)=cA (92:Nat)/\True/\(0:Nat)=(0:Nat)/\True
abbrev qBV1(I:List Cls):=(↑(aa I):Int)
abbrev qBV2(I:LX):=(↑(LX.k I):Int)
theorem Ztx(l:List Tok) (e:Int) (bs:List Cls) (out:PR Cls):Zj E Fcl (vc E Fcl 400) 51 [.ptr 0 0,.psl bq bs ab] (one [.psl dc l ab,.int ab .i64 e]) 1 (mK (dA1 dCls) (n1 λ_=>rfl) dCl (λ_=>rfl) l e out)=(
 ∀(y:Int),y=hdT e l->True/\(∀(I:List Nat) (x':PX),Ziv l e=aT (I,x')->∃(R:LX->Prop),(∃(x:LX),R x/\ac=ac/\((bs=bs/\(ab=ac->ab=ac))/\(Zjk)/\(qBV1 bs)=(qBV1 bs)/\(0:Int)=(qBV2 x)/\True)/\(Zjj I)/\True)/\∀(x:LX),R x->(decide ((qBV2 x)<(qBV1 bs))=ac->(0:Int)<=(qBV2 x)/\(qBV2 x)+(1:Int)<=(qBV1 bs)/\∀(J:Cls),bs[ag (qBV2 x)]? =ae J->((aP J==I)=ac->(decide ((qBV2 x)>=(0:Int))=ac->out=az (y,(161:Int)))/\(decide ((qBV2 x)>=(0:Int))=ab->True/\(Zji x' y I out)/\∀(e:Int×Int),pAcc [(119:Nat),(104:Nat),(101:Nat),(110:Nat)] (ao x') (ao (aE x'))=az e->out=az e))/\((aP J==I)=ab->∃(U:LX),R U/\U.2+(1:Nat)<=x.2/\ac=ac/\((bs=bs/\(ab=ac->ab=ac))/\(Zjk)/\(qBV1 bs)=(qBV1 bs)/\wr af ((qBV2 x)+(1:Int))=(qBV2 U)/\True)/\(Zjj I)/\True))/\(decide ((qBV2 x)<(qBV1 bs))=ab->True/\(Zji x' y I out)/\∀(e:Int×Int),pAcc [(119:Nat),(104:Nat),(101:Nat),(110:Nat)] (ao x') (ao (aE x'))=az e->out=az e))/\∀(a0:Int×Int),Ziv l e=az a0->out=az a0):=by kernel_rfl
theorem Zzx(bs:List Cls) (l:List Tok) (e:Int) (hl:l.length<1000000000) (hb:bs.length<=1000000000):V4 (mI (dA1 dCls) (n1 λ_=>rfl) dCl (λ_=>rfl)) 51 (l,e,()) (bs,()) (Xu bs l e):=by
 refine Zaa Yj7 (n:=400) (a:=(bs,())) ?_;rw[show(dA1 dCls).enc (bs,())= [.psl bq bs ab] from rfl,Ztx];delta qBV1 qBV2;unfold Zjk Zjj Zji Zqt;intro y0 b0;subst b0;refine⟨trivial,λnm x h1=> ?_,λer h1=>by simp[Xu,h1]⟩;have hx:=Zbl h1;refine⟨λz=>z.k<=bs.length/\(bs.drop z.k).any (λb=>b.name==nm)=bs.any (λb=>b.name==nm)/\z.r=bs.length-z.k,⟨⟨0,bs.length,[],0⟩,⟨(by dsimp only;omega),rfl,rfl⟩,by simp⟩,?_⟩;rintro z ⟨hk,hv,hr⟩;refine⟨λhq=> ?_,λhq=>⟨trivial,λmore x1 h2=> ?_,λer h2=>by cases h2⟩⟩
 ·have hq:(z.k:Int)<bs.length:=by simpa using hq
  refine⟨by omega,by omega,λc hc=> ?_⟩;have hc:bs[z.k]? =ae c:=hc;have a8:=(ak.1 hc).1;have a6:bs[z.k]=c:=(ak.1 hc).2;rw[cr a8,a6,List.any_cons] at hv;refine⟨λI=>⟨λ_=> ?_,λa9=>absurd a9 (by rw[decide_eq_false_iff_not];omega)⟩,λI=> ?_⟩
  ·rw[I,Bool.true_or] at hv
   simp[Xu,h1,<-hv]
  ·rw[I,Bool.false_or] at hv
   exact⟨⟨z.k+1,bs.length-(z.k+1),[],0⟩,⟨(by dsimp only;omega),hv,rfl⟩,(by show bs.length-(z.k+1)+1<=z.r;omega),rfl,⟨⟨rfl,λh=>h⟩,⟨rfl,trivial,rfl,trivial⟩,rfl,wr64 (by omega) (by omega),trivial⟩,⟨rfl,rfl,rfl,rfl,rfl,rfl,rfl,rfl,rfl,trivial⟩,trivial⟩
 ·have hq:¬(z.k:Int)<bs.length:=by simpa using hq
  rw[bK (by omega),List.any_nil] at hv;unfold pAcc at h2;injection h2 with h2
  injection h2 with e1 e2
  subst e1;subst e2;have a4:Xu bs l e=pAft nm (pTs 10 (isW [119,104,101,110] x.1) [] (if isW [119,104,101,110] x.1 then x.1.tail else x.1) x.2.1):=by simp[Xu,h1,<-hv]
  rw[a4];clear hv hk hr hq;have b1:=Zwr (s:= [119,104,101,110]) (l:=x.1);generalize hO:pAft nm (pTs 10 (isW [119,104,101,110] x.1) [] (if isW [119,104,101,110] x.1 then x.1.tail else x.1) x.2.1)=OUT at a4⊢;refine⟨λp=>pAft nm (pTs p.2.k p.2.more p.2.ts p.2.l p.2.ed)=OUT/\p.2.ts.length+p.2.k=10/\p.2.ts.length<=8/\p.2.l.length<1000000000/\(p.1=ab->p.2.ts= []),.inl ⟨⟨[],if isW [119,104,101,110] x.1 then x.1.tail else x.1,x.2.1,isW [119,104,101,110] x.1,10⟩,⟨hO,rfl,bb _,(by dsimp only;omega),λ_=>rfl⟩,by simp⟩,?_,?_⟩
  ·rintro⟨ts,l1,ed,more,k⟩ ⟨hR,hk,h8,a0,a5⟩
   have a5:ts= []:=a5 rfl;subst a5;have hk:k=10:=by simpa using hk
   subst hk;have hR:pAft nm (pTs 10 more [] l1 ed)=OUT:=hR;have a3:l1.length<1000000000:=a0;clear a0;have a0:=a3;clear a3;rw[<-hR];clear hR a4 hO;refine⟨λJ=>⟨trivial,λt R h3=>⟨trivial,λm2 x3 U=> ?_,λer U=>by cases U⟩,λer h3=> ?_⟩,λJ=> ?_⟩
   ·have a1:more=true:=J
    have a2:Zct 0 l1 ed= .ok (t,R):=h3;clear J h3;subst a1;unfold pAcc at U;injection U with U
    injection U with e1 e2
    subst e1;subst e2;have hq:=Zjh a2;have a7:=Zwr (s:= [97,110,100]) (l:=R.1);refine .inr ⟨⟨[t],if isW [97,110,100] R.1 then R.1.tail else R.1,R.2.1,isW [97,110,100] R.1,9⟩,⟨by simp[pTs,a2],rfl,(by show 1<=8;omega),(by dsimp only;omega),λh=>by cases h⟩,aw _,by simp⟩
   ·have a1:more=true:=J
    have a2:Zct 0 l1 ed= .error er:=h3;clear J h3;subst a1;simp[pTs,pAft,a2]
   ·have a1:more=false:=J
    clear J;subst a1;revert a0;dsimp only;intro a0;refine⟨λw y hy=>⟨trivial,λex x4 h5=> ?_,λer h5=>by simp[pTs,pAft,pPay,w,h5]⟩,λw=>by simp[pTs,pAft,pPay,w]⟩;subst hy;have hs:=Zt3 _ _ _ _ h5;have hw:=Z4 w;rw[Ex.eta];refine⟨by omega,λI=> ?_,λI=>⟨λw2=> ?_,λw2=> ?_⟩⟩
    ·have I:(24:Int)<Y5 ex:=by simpa using I
     have I:24<Y5 ex:=by omega
     simp[pTs,pAft,pPay,w,h5,I]
    ·have I:(Y5 ex:Int)<=24:=by simpa using I
     have I:¬24<Y5 ex:=by omega
     simp[pTs,pAft,pPay,w,h5,I,w2]
    ·have I:(Y5 ex:Int)<=24:=by simpa using I
     have I:¬24<Y5 ex:=by omega
     simp[pTs,pAft,pPay,w,h5,I,w2]
  ·rintro⟨ts,l1,ed,more,k⟩ ⟨hR,hk,h8,a0,_⟩
   have hk:ts.length+k=10:=hk;have h8:ts.length<=8:=h8;have hR:pAft nm (pTs k more ts l1 ed)=OUT:=hR;have a3:l1.length<1000000000:=a0;clear a0;have a0:=a3;clear a3;rw[<-hR];clear hR a4 hO;obtain⟨k,rfl⟩:∃k',k=k'+1:=⟨k-1,by omega⟩;refine⟨λJ=>⟨trivial,λt R h3=>⟨⟨aw _,bb _,(by dsimp only;omega)⟩,trivial,λm2 x3 U=> ?_,λer U=>by cases U⟩,λer h3=> ?_⟩,λJ=> ?_⟩
   ·have a1:more=true:=J
    have a2:Zct ts.length l1 ed= .ok (t,R):=h3;clear J h3;subst a1;unfold pAcc at U;injection U with U
    injection U with e1 e2
    subst e1;subst e2;have hq:=Zjh a2;have a7:=Zwr (s:= [97,110,100]) (l:=R.1);refine .inr ⟨⟨ts++ [t],if isW [97,110,100] R.1 then R.1.tail else R.1,R.2.1,isW [97,110,100] R.1,k⟩,⟨by simp[pTs,a2],(by simp;omega),(by simp;omega),(by dsimp only;omega),λh=>by cases h⟩,aw _,by simp⟩
   ·have a1:more=true:=J
    have a2:Zct ts.length l1 ed= .error er:=h3;clear J h3;subst a1;simp[pTs,pAft,a2]
   ·have a1:more=false:=J
    clear J;subst a1;revert a0;dsimp only;intro a0;refine⟨λw y hy=>⟨trivial,λex x4 h5=> ?_,λer h5=>by simp[pTs,pAft,pPay,w,h5]⟩,λw=>by simp[pTs,pAft,pPay,w]⟩;subst hy;have hs:=Zt3 _ _ _ _ h5;have hw:=Z4 w;rw[Ex.eta];refine⟨by omega,λI=> ?_,λI=>⟨λw2=> ?_,λw2=> ?_⟩⟩
    ·have I:(24:Int)<Y5 ex:=by simpa using I
     have I:24<Y5 ex:=by omega
     simp[pTs,pAft,pPay,w,h5,I]
    ·have I:(Y5 ex:Int)<=24:=by simpa using I
     have I:¬24<Y5 ex:=by omega
     exact⟨by omega,by simp[pTs,pAft,pPay,w,h5,I,w2]⟩
    ·have I:(Y5 ex:Int)<=24:=by simpa using I
     have I:¬24<Y5 ex:=by omega
     simp[pTs,pAft,pPay,w,h5,I,w2]
end
section
open Go
def isL(n:Int):Bool:=decide (97<=n)&&decide (n<=122)
def isD(n:Int):Bool:=decide (48<=n)&&decide (n<=57)
def isLD(n:Int):Bool:=isL n||isD n
noncomputable def dU8:Dc E Int:=dInt .u8
theorem Zti(n:Int) (v:Bool):Zj E F0 (vc E F0 400) 139 [.int ab .u8 n] hp0 0 (λr=>ret E (patch hp0 0 r) r.v (.bool ab v))=(
(decide ((97:Int)<=n)=ac->(decide (n<=(122:Int))=ac->ac=v)/\(decide (n<=(122:Int))=ab->ab=v))/\(decide ((97:Int)<=n)=ab->ab=v)):=by kernel_rfl
theorem Ztj(n:Int):PureC E 139 [.int ab .u8 n] (.bool ab (isL n)):=by
 refine Za E_ok (Zd E_ok F0_ok 400) ?_;rw[Zti];unfold isL;refine⟨λh=>⟨λI=> ?_,λI=> ?_⟩,λh=> ?_⟩
 ·rw[h,I];rfl
 ·rw[h,I];rfl
 ·rw[h];rfl
theorem Zy5(n:Int) (v:Bool):Zj E F0 (vc E F0 400) 142 [.int ab .u8 n] hp0 0 (λr=>ret E (patch hp0 0 r) r.v (.bool ab v))=(
(decide ((48:Int)<=n)=ac->(decide (n<=(57:Int))=ac->ac=v)/\(decide (n<=(57:Int))=ab->ab=v))/\(decide ((48:Int)<=n)=ab->ab=v)):=by kernel_rfl
theorem Zy6(n:Int):PureC E 142 [.int ab .u8 n] (.bool ab (isD n)):=by
 refine Za E_ok (Zd E_ok F0_ok 400) ?_;rw[Zy5];unfold isD;refine⟨λh=>⟨λI=> ?_,λI=> ?_⟩,λh=> ?_⟩
 ·rw[h,I];rfl
 ·rw[h,I];rfl
 ·rw[h];rfl
noncomputable def Z47:Sum thy:=sumP (dA1 dU8) (λ_=>True) λx=> .bool ab (isL x.1)
noncomputable def Yb1:Sum thy:=sumP (dA1 dU8) (λ_=>True) λx=> .bool ab (isD x.1)
theorem Zy7:SumOk E 139 Z47:=Yd E_ok (Zc (f:=139) rfl) λx _=>Ztj x.1
theorem Z48:SumOk E 142 Yb1:=Yd E_ok (Zc (f:=142) rfl) λx _=>Zy6 x.1
noncomputable def Flx:Fns thy:=addS (addS F0 139 Z47) 142 Yb1
theorem Z49:FnsOk E Flx:=Zb (Zb F0_ok Zy7) Z48
theorem Z5a(n:Int) (v:Bool):Zj E Flx (vc E Flx 400) 141 [.int ab .u8 n] hp0 0 (λr=>ret E (patch hp0 0 r) r.v (.bool ab v))=(
True/\(isL n=ac->ac=v)/\(isL n=ab->True/\isD n=v)):=by kernel_rfl
theorem Z5b(n:Int):PureC E 141 [.int ab .u8 n] (.bool ab (isLD n)):=by
 refine Za E_ok (Zd E_ok Z49 400) ?_;rw[Z5a];unfold isLD;refine⟨trivial,λh=> ?_,λh=>⟨trivial,?_⟩⟩
 ·rw[h];rfl
 ·rw[h];rfl
noncomputable def Yjl:Sum thy:=sumP (dA1 dU8) (λ_=>True) λx=> .bool ab (isLD x.1)
theorem Yah:SumOk E 141 Yjl:=Yd E_ok (Zc (f:=141) rfl) λx _=>Z5b x.1
def Asp:Fr thy->Hp thy->Nat->Ann thy:=λT h i=>{X:=LX,fr:=λx=> [(0,T 0),(1,T 1),(7,T 7),(8,.int ab .i64 x.k)],bl:=λx=> [],src:=λ_=> [],md:= [],ih:=i,M:=i+30,meas:=λx=>x.r}
noncomputable def Z5c:Fns thy:=addL (addS Flx 141 Yjl) 140 2 Asp E
theorem Zv6:FnsOk E Z5c:=Zm E_ok (Zb Z49 Yah) _ _ _
def spn(f:Int->Bool):List Nat->Nat
 | []=>0
 |c::r=>if f c then spn f r+1 else 0
theorem Zgl{f:Int->Bool} {s:List Nat} {k c:Nat} (h:s[k]? =ae c):spn f (s.drop k)=if f c then spn f (s.drop (k+1))+1 else 0:=by
 have J:=(ak.1 h).1;have I:s[k]=c:=(ak.1 h).2;rw[cr J,I];rfl
theorem Zqe{f:Int->Bool}:∀{s:List Nat},spn f s<=s.length
 | []=>aw _
 |c::r=>by
  unfold spn
  have:=Zqe (f:=f) (s:=r)
  split
  ·simp;omega
  ·exact bb _
theorem Zy8(s:List Nat) (v:Int):Zj E Z5c (vc E Z5c 400) 140 [.str ab s,.fn (.func 141) [] []] hp0 0 (λr=>ret E (patch hp0 0 r) r.v (.int ab .i64 v))=(
∃(R:LX->Prop),(∃(x:LX),R x/\ac=ac/\(s=s/\(cA (141:FuncId)=cA (141:FuncId)/\True/\True)/\(↑(aa s):Int)=(↑(aa s):Int)/\(0:Int)=(↑(LX.k x):Int)/\True)/\True)/\∀(x:LX),R x->(decide ((↑(LX.k x):Int)<(↑(aa s):Int))=ac->(0:Int)<=(↑(LX.k x):Int)/\(↑(LX.k x):Int)+(1:Int)<=(↑(aa s):Int)/\∀(I:Nat),s[ag (↑(LX.k x):Int)]? =ae I->True/\((!isLD (↑I:Int))=ac->(↑(LX.k x):Int)=v)/\((!isLD (↑I:Int))=ab->∃(J:LX),R J/\J.2+(1:Nat)<=x.2/\ac=ac/\(s=s/\(cA (141:FuncId)=cA (141:FuncId)/\True/\True)/\(↑(aa s):Int)=(↑(aa s):Int)/\wr af ((↑(LX.k x):Int)+(1:Int))=(↑(LX.k J):Int)/\True)/\True))/\(decide ((↑(LX.k x):Int)<(↑(aa s):Int))=ab->(↑(aa s):Int)=v)):=by kernel_rfl
theorem Zy9(s:List Nat) (hs:s.length<=1000000000):PureC E 140 [.str ab s,.fn (.func 141) [] []] (.int ab .i64 (spn isLD s)):=by
 refine Za E_ok (Zd E_ok Zv6 400) ?_;rw[Zy8];refine⟨λx=>x.k<=s.length/\x.k+spn isLD (s.drop x.k)=spn isLD s/\x.r=s.length-x.k,⟨⟨0,s.length,[],0⟩,⟨(by dsimp only;omega),by simp,rfl⟩,by simp⟩,?_⟩;rintro x ⟨hk,I,hr⟩;refine⟨λU=> ?_,λU=> ?_⟩
 ·have U:(x.k:Int)<s.length:=by simpa using U
  refine⟨by omega,by omega,λc R=>⟨trivial,λJ=> ?_,λJ=> ?_⟩⟩
  ·have R:s[x.k]? =ae c:=R
   rw[Zgl R] at I;have J:isLD c=false:=by simpa using J
   rw[J] at I;simp at I;rw[<-I]
  ·have R:s[x.k]? =ae c:=R
   rw[Zgl R] at I;have J:isLD c=true:=by simpa using J
   rw[J,if_pos rfl] at I;exact⟨⟨x.k+1,s.length-(x.k+1),[],0⟩,⟨(by dsimp only;omega),(by dsimp only;omega),rfl⟩,(by show s.length-(x.k+1)+1<=x.r;omega),rfl,⟨rfl,⟨rfl,trivial,trivial⟩,rfl,wr64 (by omega) (by omega),trivial⟩,trivial⟩
 ·have U:¬(x.k:Int)<s.length:=by simpa using U
  rw[bK (by omega)] at I;have:x.k=spn isLD s:=by simpa[spn] using I
  omega
theorem Zza(s:List Nat) (v:Int):Zj E Z5c (vc E Z5c 400) 140 [.str ab s,.fn (.func 142) [] []] hp0 0 (λr=>ret E (patch hp0 0 r) r.v (.int ab .i64 v))=(
∃(R:LX->Prop),(∃(x:LX),R x/\ac=ac/\(s=s/\(cA (142:FuncId)=cA (142:FuncId)/\True/\True)/\(↑(aa s):Int)=(↑(aa s):Int)/\(0:Int)=(↑(LX.k x):Int)/\True)/\True)/\∀(x:LX),R x->(decide ((↑(LX.k x):Int)<(↑(aa s):Int))=ac->(0:Int)<=(↑(LX.k x):Int)/\(↑(LX.k x):Int)+(1:Int)<=(↑(aa s):Int)/\∀(I:Nat),s[ag (↑(LX.k x):Int)]? =ae I->True/\((!isD (↑I:Int))=ac->(↑(LX.k x):Int)=v)/\((!isD (↑I:Int))=ab->∃(J:LX),R J/\J.2+(1:Nat)<=x.2/\ac=ac/\(s=s/\(cA (142:FuncId)=cA (142:FuncId)/\True/\True)/\(↑(aa s):Int)=(↑(aa s):Int)/\wr af ((↑(LX.k x):Int)+(1:Int))=(↑(LX.k J):Int)/\True)/\True))/\(decide ((↑(LX.k x):Int)<(↑(aa s):Int))=ab->(↑(aa s):Int)=v)):=by kernel_rfl
theorem Zzb(s:List Nat) (hs:s.length<=1000000000):PureC E 140 [.str ab s,.fn (.func 142) [] []] (.int ab .i64 (spn isD s)):=by
 refine Za E_ok (Zd E_ok Zv6 400) ?_;rw[Zza];refine⟨λx=>x.k<=s.length/\x.k+spn isD (s.drop x.k)=spn isD s/\x.r=s.length-x.k,⟨⟨0,s.length,[],0⟩,⟨(by dsimp only;omega),by simp,rfl⟩,by simp⟩,?_⟩;rintro x ⟨hk,I,hr⟩;refine⟨λU=> ?_,λU=> ?_⟩
 ·have U:(x.k:Int)<s.length:=by simpa using U
  refine⟨by omega,by omega,λc R=>⟨trivial,λJ=> ?_,λJ=> ?_⟩⟩
  ·have R:s[x.k]? =ae c:=R
   rw[Zgl R] at I;have J:isD c=false:=by simpa using J
   rw[J] at I;simp at I;rw[<-I]
  ·have R:s[x.k]? =ae c:=R
   rw[Zgl R] at I;have J:isD c=true:=by simpa using J
   rw[J,if_pos rfl] at I;exact⟨⟨x.k+1,s.length-(x.k+1),[],0⟩,⟨(by dsimp only;omega),(by dsimp only;omega),rfl⟩,(by show s.length-(x.k+1)+1<=x.r;omega),rfl,⟨rfl,⟨rfl,trivial,trivial⟩,rfl,wr64 (by omega) (by omega),trivial⟩,trivial⟩
 ·have U:¬(x.k:Int)<s.length:=by simpa using U
  rw[bK (by omega)] at I;have:x.k=spn isD s:=by simpa[spn] using I
  omega
def Anu:Fr thy->Hp thy->Nat->Ann thy:=λT h i=>{X:=LX,fr:=λx=> [(0,T 0),(4,.int ab .i64 x.m),(15,T 15),(16,.int ab .i64 x.k)],bl:=λx=> [],src:=λ_=> [],md:= [],ih:=i,M:=i+30,meas:=λx=>x.r}
noncomputable def Fnum:Fns thy:=addL F0 143 5 Anu E
theorem Yfx:FnsOk E Fnum:=Zm E_ok F0_ok _ _ _
def numL(n:Int):List Nat->Int×Int
 | []=>(n,0)
 |c::r=>if 10*n+(c-48)>1099511627776 then(0,2) else numL (10*n+(c-48)) r
def numb(s:List Nat):Int×Int:=if 1<s.length/\s.head? =ae 48 then(0,150) else numL 0 s
theorem Z5d{n:Int} {s:List Nat} {k c:Nat} (h:s[k]? =ae c):numL n (s.drop k)=if 10*n+(c-48)>1099511627776 then(0,2) else numL (10*n+(c-48)) (s.drop (k+1)):=by
 have J:=(ak.1 h).1;have I:s[k]=c:=(ak.1 h).2;rw[cr J,I];rfl
abbrev qBW1(I:LX) (J:Nat):=(wr af ((10:Int)*LX.m I)+wr af (wr IntKind.u8 ((↑J:Int)-(48:Int))))
abbrev qBW2(I:List Nat):=(↑(aa I):Int)
abbrev qBW3(I:LX):=(↑(LX.k I):Int)
abbrev qBW4:=(0:Int)
theorem Ztk(s:List Nat) (v e:Int):Zj E Fnum (vc E Fnum 400) 143 [.str ab s] hp0 0 (λr => ret E (patch hp0 0 r) r.v (.tup [.int ab .i64 v,.int ab .i64 e])) = (
 ∃ (Q:Bool->Prop),((decide ((qBW2 s) > (1:Int)) = ac->qBW4<=qBW4/\qBW4 + (1:Int)<=(qBW2 s)/\∀ (x:Nat),s[ag qBW4]? = ae x->(((↑x:Int) == (48:Int)) = ac->Q ac)/\(((↑x:Int) == (48:Int)) = ab->Q ab))/\(decide ((qBW2 s) > (1:Int)) = ab->Q ab))/\(Q ac->qBW4 = v/\(150:Int) = e/\True)/\(Q ab->∃ (R:LX->Prop),(∃ (x:LX),R x/\ac = ac/\(s = s/\qBW4 = LX.m x/\(qBW2 s) = (qBW2 s)/\qBW4 = (qBW3 x)/\True)/\True)/\∀ (x:LX),R x->(decide ((qBW3 x) < (qBW2 s)) = ac->qBW4<=(qBW3 x)/\(qBW3 x) + (1:Int)<=(qBW2 s)/\∀ (I:Nat),s[ag (qBW3 x)]? = ae I->(decide (wr af (qBW1 x I) > (1099511627776:Int)) = ac->qBW4 = v/\(2:Int) = e/\True)/\(decide (wr af (qBW1 x I) > (1099511627776:Int)) = ab->∃ (J:LX),R J/\J.2 + (1:Nat)<=x.2/\ac = ac/\(s = s/\wr af (qBW1 x I) = LX.m J/\(qBW2 s) = (qBW2 s)/\wr af ((qBW3 x) + (1:Int)) = (qBW3 J)/\True)/\True))/\(decide ((qBW3 x) < (qBW2 s)) = ab->LX.m x = v/\qBW4 = e/\True))):=by kernel_rfl
theorem Ztl(s : List Nat) (hs : s.length ≤ 1000000000) (hd : ∀ c ∈ s, 48 ≤ c ∧ c ≤ 57) : PureC E 143 [.str ab s] (.tup [.int ab .i64 (numb s).1, .int ab .i64 (numb s).2]) := by
  refine Za E_ok (Zd E_ok Yfx 400) ?_;rw[Ztk]; delta qBW1 qBW2 qBW3 qBW4;refine⟨λb => b = decide (1 < s.length ∧ s.head? = ae 48), ⟨λh => ?_, λh => ?_⟩, λh => ?_, λh => ?_⟩
  ·have h : (1 : Int) < s.length := by simpa using h
   refine⟨bW 0, by omega, λx hx => ?_⟩;have hx : s[0]? = ae x := hx;rw[List.head?_eq_getElem?, hx];refine⟨λh2 => ?_, λh2 => ?_⟩
   ·have h2 : x = 48 := by have : (x : Int) = 48 := by simpa using h2
                           omega
    simp[h2]; omega
   ·have h2 : x ≠ 48 := by
      intro e;subst e;simp at h2
    simp[h2]
  ·have h : ¬ (1 : Int) < s.length := by simpa using h
   have : ¬ 1 < s.length := by omega
   simp[this]
  ·have h := (decide_eq_true_iff.1 h.symm)
   unfold numb;rw[if_pos h];exact⟨rfl, rfl, trivial⟩
  ·have h := (decide_eq_false_iff_not.1 h.symm)
   have hn : numb s = numL 0 s := by unfold numb; rw[if_neg h]
   rw[hn];refine⟨λx => x.k ≤ s.length ∧ numL x.m (s.drop x.k) = numL 0 s ∧ 0 ≤ x.m ∧ x.m ≤ 1099511627776 ∧ x.r = s.length - x.k, ⟨⟨0, s.length, [], 0⟩, ⟨(by dsimp only; omega), rfl, bW 0, (by show(0:Int) ≤ 1099511627776; omega), rfl⟩, by simp⟩, ?_⟩;rintro x ⟨hk, hv, hm0, hm1, hr⟩;refine⟨λhq => ?_, λhq => ?_⟩
   ·have hq : (x.k : Int) < s.length := by simpa using hq
    refine⟨by omega, by omega, λc hc => ?_⟩;have hc : s[x.k]? = ae c := hc;have hcd := hd c (aI hc);have w0 : wr .u8 ((c : Int) - 48) = c - 48 := by simp only[wr, IntKind.wrap_u8]; omega
    have w1 : wr .i64 (10 * x.m) = 10 * x.m := wr64 (by omega) (by omega);have w2 : wr .i64 ((c : Int) - 48) = c - 48 := wr64 (by omega) (by omega);have w3 : wr .i64 (10 * x.m + ((c : Int) - 48)) = 10 * x.m + (c - 48) := wr64 (by omega) (by omega);rw[w0, w1, w2, w3];rw[Z5d hc] at hv;refine⟨λh2 => ?_, λh2 => ?_⟩
    ·have h2 : 10 * x.m + ((c : Int) - 48) > 1099511627776 := by simpa using h2
     rw[if_pos h2] at hv;rw[← hv];exact⟨rfl, rfl, trivial⟩
    ·have h2 : ¬ 10 * x.m + ((c : Int) - 48) > 1099511627776 := by simpa using h2
     rw[if_neg h2] at hv;exact⟨⟨x.k + 1, s.length - (x.k + 1), [], 10 * x.m + (c - 48)⟩, ⟨(by dsimp only; omega), hv, (by dsimp only; omega), (by dsimp only; omega), rfl⟩, (by show s.length - (x.k + 1) + 1 ≤ x.r; omega), rfl, ⟨rfl, rfl, rfl, wr64 (by omega) (by omega), trivial⟩, trivial⟩
   ·have hq : ¬ (x.k : Int) < s.length := by simpa using hq
    rw[bK (by omega)] at hv;rw[← hv];exact⟨rfl, rfl, trivial⟩
noncomputable def dSF:Dc E Bool where
 dec v:=match v with| .fn (.func f) [] []=>(match aL f 141 with|true=>ae ac|false=>(match aL f 142 with|true=>ae ab|false=>ar))|_=>ar
 enc b:= .fn (.func (bif b then 141 else 142)) [] []
 ok v a h:=by
  split at h
  ·rename_i f
   split at h
   ·rename_i e
    cases h
    have e:=ax e
    cases e
    exact⟨rfl,rfl,λσ g u hd=>hd⟩
   ·split at h
    ·rename_i e
     cases h
     have e:=ax e
     cases e
     exact⟨rfl,rfl,λσ g u hd=>hd⟩
    ·cases h
  ·cases h
def spF(b:Bool) (s:List Nat):Nat:=bif b then spn isLD s else spn isD s
noncomputable def Yjm:Sum thy:=X6 (DcL.cons dS (DcL.cons dSF DcL.nil)) (λx=>x.1.length<=1000000000) (λx=>spF x.2.1 x.1) λ(y:Nat)=> .int ab .i64 y
theorem Yai:SumOk E 140 Yjm:=Zw E_ok (Zc (f:=140) rfl) λx h=>by
 obtain⟨s,b,_⟩:=x;cases b with
 |true=>exact Zy9 s h
 |false=>exact Zzb s h
noncomputable def Z5e:Sum thy:=X6 (dA1 dS) (λx=>x.1.length<=1000000000/\∀c∈x.1,48<=c/\c<=57) (λx=>numb x.1) λy=> .tup [.int ab .i64 y.1,.int ab .i64 y.2]
theorem Zzc:SumOk E 143 Z5e:=Zw E_ok (Zc (f:=143) rfl) λx h=>Ztl x.1 h.1 h.2
noncomputable def Ftok:Fns thy:=addS (addS Flx 140 Yjm) 143 Z5e
theorem Yfy:FnsOk E Ftok:=Zb (Zb Z49 Yai) Zzc
def tokV(t:Tok):SV thy:= .agg [.int ab .i64 t.kind,.str ab t.text,.int ab .i64 t.n,.int ab .i64 t.at_]
abbrev Yn(t:Tok):Prop:=
 (0:Int)=cu t/\ []=cH t/\(0:Int)=fi t/\(0:Int)=dh t/\True
abbrev X9(s:List Nat) (t:Tok) (e:Int):Prop:=
 decide ((↑(aa s):Int)>=(1:Int))=ab->(Yn t)/\(150:Int)=e/\True
abbrev Wa(s:List Nat):Prop:=
 (0:Int)<=(1:Int)/\(1:Int)<=(↑(aa s):Int)
abbrev qBW5:=(ag (1:Int))
abbrev qBW8(I:List Nat):=(↑(aa I):Int)
abbrev qBW6(I:List Nat):=((qBW8 I)>=(1:Int))
abbrev qBW7:=(0:Int)
abbrev qBW9:=(150:Int)
abbrev qBWc(I:Nat):=(↑I:Int)
abbrev qBWa(I:Nat):=(ag (qBWc I))
abbrev qBWb:=(3:Int)
theorem Zzd(s:List Nat) (t:Tok) (e:Int):Zj E Ftok (vc E Ftok 400) 87 [.str ab s] hp0 0 (λr=>ret E (patch hp0 0 r) r.v (.tup [tokV t,.int ab .i64 e]))=(
 qBW7<=qBW7/\qBW7+(1:Int)<=(qBW8 s)/\∀(x:Nat),s[ag qBW7]? =ae x->True/\(isL (qBWc x)=ac->aa s<=(1000000000:Nat)/\∀(y:Nat),y=spF ac s->(qBW7<=(qBWc y)/\(qBWc y)<=(qBW8 s))/\(decide ((↑(aa (av (qBWa y) s)):Int)>(32:Int))=ac->(Yn t)/\(2:Int)=e/\True)/\(decide ((↑(aa (av (qBWa y) s)):Int)>(32:Int))=ab->((1:Int)=cu t/\av (qBWa y) s=cH t/\qBW7=fi t/\qBW7=dh t/\True)/\qBW7=e/\True))/\(isL (qBWc x)=ab->True/\(isD (qBWc x)=ac->aa s<=(1000000000:Nat)/\∀(y:Nat),y=spF ab s->(qBW7<=(qBWc y)/\(qBWc y)<=(qBW8 s))/\(aa (av (qBWa y) s)<=(1000000000:Nat)/\∀(c:Nat),c∈av (qBWa y) s->(48:Nat)<=c/\c<=(57:Nat))/\∀(I:Int×Int),I=numb (av (qBWa y) s)->((2:Int)=cu t/\av (qBWa y) s=cH t/\ao I=fi t/\qBW7=dh t/\True)/\aE I=e/\True)/\(isD (qBWc x)=ab->qBW7<=qBW7/\qBW7+(1:Int)<=(qBW8 s)/\∀(x:Nat),s[ag qBW7]? =ae x->(((qBWc x)==(↑(123:Nat):Int))=ac->(decide (qBW6 s)=ac->(Wa s)/\((av qBW5 s== [(123:Nat)])=ac->(qBWb=cu t/\ [(123:Nat)]=cH t/\qBW7=fi t/\qBW7=dh t/\True)/\qBW7=e/\True)/\((av qBW5 s== [(123:Nat)])=ab->(Yn t)/\qBW9=e/\True))/\(X9 s t e))/\(((qBWc x)==(↑(123:Nat):Int))=ab->(((qBWc x)==(↑(125:Nat):Int))=ac->(decide (qBW6 s)=ac->(Wa s)/\((av qBW5 s== [(125:Nat)])=ac->(qBWb=cu t/\ [(125:Nat)]=cH t/\qBW7=fi t/\qBW7=dh t/\True)/\qBW7=e/\True)/\((av qBW5 s== [(125:Nat)])=ab->(Yn t)/\qBW9=e/\True))/\(X9 s t e))/\(((qBWc x)==(↑(125:Nat):Int))=ab->(((qBWc x)==(↑(40:Nat):Int))=ac->(decide (qBW6 s)=ac->(Wa s)/\((av qBW5 s== [(40:Nat)])=ac->(qBWb=cu t/\ [(40:Nat)]=cH t/\qBW7=fi t/\qBW7=dh t/\True)/\qBW7=e/\True)/\((av qBW5 s== [(40:Nat)])=ab->(Yn t)/\qBW9=e/\True))/\(X9 s t e))/\(((qBWc x)==(↑(40:Nat):Int))=ab->(((qBWc x)==(↑(41:Nat):Int))=ac->(decide (qBW6 s)=ac->(Wa s)/\((av qBW5 s== [(41:Nat)])=ac->(qBWb=cu t/\ [(41:Nat)]=cH t/\qBW7=fi t/\qBW7=dh t/\True)/\qBW7=e/\True)/\((av qBW5 s== [(41:Nat)])=ab->(Yn t)/\qBW9=e/\True))/\(X9 s t e))/\(((qBWc x)==(↑(41:Nat):Int))=ab->(((qBWc x)==(↑(59:Nat):Int))=ac->(decide (qBW6 s)=ac->(Wa s)/\((av qBW5 s== [(59:Nat)])=ac->(qBWb=cu t/\ [(59:Nat)]=cH t/\qBW7=fi t/\qBW7=dh t/\True)/\qBW7=e/\True)/\((av qBW5 s== [(59:Nat)])=ab->(Yn t)/\qBW9=e/\True))/\(X9 s t e))/\(((qBWc x)==(↑(59:Nat):Int))=ab->(((qBWc x)==(↑(44:Nat):Int))=ac->(decide (qBW6 s)=ac->(Wa s)/\((av qBW5 s== [(44:Nat)])=ac->(qBWb=cu t/\ [(44:Nat)]=cH t/\qBW7=fi t/\qBW7=dh t/\True)/\qBW7=e/\True)/\((av qBW5 s== [(44:Nat)])=ab->(Yn t)/\qBW9=e/\True))/\(X9 s t e))/\(((qBWc x)==(↑(44:Nat):Int))=ab->(((qBWc x)==(↑(43:Nat):Int))=ac->(decide (qBW6 s)=ac->(Wa s)/\((av qBW5 s== [(43:Nat)])=ac->(qBWb=cu t/\ [(43:Nat)]=cH t/\qBW7=fi t/\qBW7=dh t/\True)/\qBW7=e/\True)/\((av qBW5 s== [(43:Nat)])=ab->(Yn t)/\qBW9=e/\True))/\(X9 s t e))/\(((qBWc x)==(↑(43:Nat):Int))=ab->(((qBWc x)==(↑(45:Nat):Int))=ac->(decide (qBW6 s)=ac->(Wa s)/\((av qBW5 s== [(45:
Nat)])=ac->(qBWb=cu t/\ [(45:Nat)]=cH t/\qBW7=fi t/\qBW7=dh t/\True)/\qBW7=e/\True)/\((av qBW5 s== [(45:Nat)])=ab->(Yn t)/\qBW9=e/\True))/\(X9 s t e))/\(((qBWc x)==(↑(45:Nat):Int))=ab->(((qBWc x)==(↑(42:Nat):Int))=ac->(decide (qBW6 s)=ac->(Wa s)/\((av qBW5 s== [(42:Nat)])=ac->(qBWb=cu t/\ [(42:Nat)]=cH t/\qBW7=fi t/\qBW7=dh t/\True)/\qBW7=e/\True)/\((av qBW5 s== [(42:Nat)])=ab->(Yn t)/\qBW9=e/\True))/\(X9 s t e))/\(((qBWc x)==(↑(42:Nat):Int))=ab->(((qBWc x)==(↑(60:Nat):Int))=ac->(decide (qBW6 s)=ac->(Wa s)/\((av qBW5 s== [(60:Nat)])=ac->(qBWb=cu t/\ [(60:Nat)]=cH t/\qBW7=fi t/\qBW7=dh t/\True)/\qBW7=e/\True)/\((av qBW5 s== [(60:Nat)])=ab->(Yn t)/\qBW9=e/\True))/\(X9 s t e))/\(((qBWc x)==(↑(60:Nat):Int))=ab->(((qBWc x)==(↑(46:Nat):Int))=ac->(decide ((qBW8 s)>=(2:Int))=ac->(qBW7<=(2:Int)/\(2:Int)<=(qBW8 s))/\((av (ag (2:Int)) s== [(46:Nat),(46:Nat)])=ac->(qBWb=cu t/\ [(46:Nat),(46:Nat)]=cH t/\qBW7=fi t/\qBW7=dh t/\True)/\qBW7=e/\True)/\((av (ag (2:Int)) s== [(46:Nat),(46:Nat)])=ab->(Yn t)/\qBW9=e/\True))/\(decide ((qBW8 s)>=(2:Int))=ab->(Yn t)/\qBW9=e/\True))/\(((qBWc x)==(↑(46:Nat):Int))=ab->(Yn t)/\qBW9=e/\True)))))))))))))):=by kernel_rfl
def sgnW(c:Nat):Option (List Nat):=
 if c=123 then ae [123] else if c=125 then ae [125] else if c=40 then ae [40] else if c=41 then ae [41] else if c=59 then ae [59] else if c=44 then ae [44]
 else if c=43 then ae [43] else if c=45 then ae [45] else if c=42 then ae [42] else if c=60 then ae [60] else if c=46 then ae [46,46] else ar
def z0:Tok:=⟨0,[],0,0⟩
def tokS(s w:List Nat):Tok×Int:=if s.take w.length=w then(⟨3,w,0,0⟩,0) else(z0,150)
def tokP:List Nat->Tok×Int
 | []=>(z0,150)
 |c::r=>if isL c then(if 32<spn isLD (c::r) then(z0,2) else(⟨1,(c::r).take (spn isLD (c::r)),0,0⟩,0))
  else if isD c then(⟨2,(c::r).take (spn isD (c::r)),(numb ((c::r).take (spn isD (c::r)))).1,0⟩,(numb ((c::r).take (spn isD (c::r)))).2)
  else match sgnW c with|some w=>tokS (c::r) w|none=>(z0,150)
theorem W4(c:Nat) (r:List Nat):tokP (c::r)=if isL c then(if 32<spn isLD (c::r) then(z0,2) else(⟨1,(c::r).take (spn isLD (c::r)),0,0⟩,0))
 else if isD c then(⟨2,(c::r).take (spn isD (c::r)),(numb ((c::r).take (spn isD (c::r)))).1,0⟩,(numb ((c::r).take (spn isD (c::r)))).2)
 else match sgnW c with|some w=>tokS (c::r) w|none=>(z0,150):=rfl
theorem Ztm{f:Int->Bool}:∀{s:List Nat} {c:Nat},c∈s.take (spn f s)->f c=ac
 | [],c,h=>by simp at h
 |x::r,c,h=>by
  unfold spn at h
  split at h
  ·rename_i I
   rw[List.take_succ_cons,aM] at h
   rcases h with rfl|h
   ·exact I
   ·exact Ztm h
  ·simp at h
theorem Zba(s w:List Nat) (k:Int) (J:k=w.length):
 (decide ((↑(aa s):Int)>=k)=ac->((0:Int)<=k/\k<=(↑(aa s):Int))/\((av (ag k) s==w)=ac->((3:Int)=cu (tokS s w).1/\w=cH (tokS s w).1/\(0:Int)=fi (tokS s w).1/\(0:Int)=dh (tokS s w).1/\True)/\(0:Int)=(tokS s w).2/\True)/\
  ((av (ag k) s==w)=ab->((0:Int)=cu (tokS s w).1/\ []=cH (tokS s w).1/\(0:Int)=fi (tokS s w).1/\(0:Int)=dh (tokS s w).1/\True)/\(150:Int)=(tokS s w).2/\True))/\
 (decide ((↑(aa s):Int)>=k)=ab->((0:Int)=cu (tokS s w).1/\ []=cH (tokS s w).1/\(0:Int)=fi (tokS s w).1/\(0:Int)=dh (tokS s w).1/\True)/\(150:Int)=(tokS s w).2/\True):=by
 have e:ag k=w.length:=by omega
 rw[e]
 unfold tokS
 refine⟨λh=> ?_,λh=> ?_⟩
 ·have h:(s.length:Int)>=k:=by simpa using h
  refine⟨⟨by omega,by omega⟩,λI=> ?_,λI=> ?_⟩
  ·have I:av w.length s=w:=by simpa using I
   rw[if_pos I]
   exact⟨⟨rfl,rfl,rfl,rfl,trivial⟩,rfl,trivial⟩
  ·have I:av w.length s≠w:=by simpa using I
   rw[if_neg I]
   exact⟨⟨rfl,rfl,rfl,rfl,trivial⟩,rfl,trivial⟩
 ·have h:¬(s.length:Int)>=k:=by simpa using h
  have I:av w.length s≠w:=λe=>by
   have:=congrArg aa e
   rw[bk] at this
   omega
  rw[if_neg I]
  exact⟨⟨rfl,rfl,rfl,rfl,trivial⟩,rfl,trivial⟩
theorem Zze(s : List Nat) (h0 : 0 < s.length) (hs : s.length ≤ 1000000000) : PureC E 87 [.str ab s] (.tup [tokV (tokP s).1, .int ab .i64 (tokP s).2]) := by
  refine Za E_ok (Zd E_ok Yfy 400) ?_;rw[Zzd]; delta qBW5 qBW8 qBW6 qBW7 qBW9 qBWc qBWa qBWb;unfold Wa X9 Yn;cases s with
  | nil => exact absurd h0 (by simp)
  | cons c r =>
  refine⟨bW 0, by simp only[aB]; omega, λx R => ?_⟩;have R : (c :: r)[0]? = ae x := R;rw[dk] at R;cases R;refine⟨trivial, λU => ?_, λU => ?_⟩
  ·refine⟨hs, λy J => ?_⟩
   have J : y = spn isLD (c :: r) := J;have a0 : y ≤ (c :: r).length := J ▸ Zqe;have hm : min y (c :: r).length = y := iG a0;have e1 : ag (y : Int) = y := by omega
   rw[e1, bk, hm];rw[W4, if_pos U, ← J];refine⟨⟨by omega, by omega⟩, λh => ?_, λh => ?_⟩
   ·have h : (32 : Int) < y := by simpa using h
    rw[if_pos (by omega)];exact⟨⟨rfl, rfl, rfl, rfl, trivial⟩, rfl, trivial⟩
   ·have h : ¬ (32 : Int) < y := by simpa using h
    rw[if_neg (by omega)];exact⟨⟨rfl, rfl, rfl, rfl, trivial⟩, rfl, trivial⟩
  refine⟨trivial, λhd => ?_, λhd => ?_⟩
  ·refine⟨hs, λy J => ?_⟩
   have J : y = spn isD (c :: r) := J;have a0 : y ≤ (c :: r).length := J ▸ Zqe;have hm : min y (c :: r).length = y := iG a0;have e1 : ag (y : Int) = y := by omega
   rw[e1, bk, hm];rw[W4, if_neg (by rw[U]; decide), if_pos hd, ← J];refine⟨⟨by omega, by omega⟩, ⟨by omega, λc' a1 => ?_⟩, λq hq => ?_⟩
   ·rw[J] at a1
    have := Ztm a1;unfold isD at this;simp at this;omega
   ·subst hq
    exact⟨⟨rfl, rfl, rfl, rfl, trivial⟩, rfl, trivial⟩
  refine⟨bW 0, by simp only[aB]; omega, λx R => ?_⟩;have R : (c :: r)[0]? = ae x := R;rw[dk] at R;cases R;have hp : ∀ w, sgnW c = ae w → tokP (c :: r) = tokS (c :: r) w := λw hw => by
    rw[W4, if_neg (by rw[U]; decide), if_neg (by rw[hd]; decide), hw]
  have I : ∀ (n : Nat) (w : List Nat), sgnW n = ae w → ((c : Int) == (n : Int)) = ac → tokP (c :: r) = tokS (c :: r) w := λn w hw h => by
    have : c = n := by have : (c : Int) = n := by simpa using h
                       omega
    subst this;exact hp w hw
  refine⟨λh => by rw[I _ _ rfl h]; exact Zba _ _ _ rfl, λh1 => ?_⟩;refine⟨λh => by rw[I _ _ rfl h]; exact Zba _ _ _ rfl, λh2 => ?_⟩;refine⟨λh => by rw[I _ _ rfl h]; exact Zba _ _ _ rfl, λh3 => ?_⟩;refine⟨λh => by rw[I _ _ rfl h]; exact Zba _ _ _ rfl, λh4 => ?_⟩;refine⟨λh => by rw[I _ _ rfl h]; exact Zba _ _ _ rfl, λh5 => ?_⟩;refine⟨λh => by rw[I _ _ rfl h]; exact Zba _ _ _ rfl, λh6 => ?_⟩;refine⟨λh => by rw[I _ _ rfl h]; exact Zba _ _ _ rfl, λh7 => ?_⟩;refine⟨λh => by rw[I _ _ rfl h]; exact Zba _ _ _ rfl, λh8 => ?_⟩
  refine⟨λh => by rw[I _ _ rfl h]; exact Zba _ _ _ rfl, λh9 => ?_⟩;refine⟨λh => by rw[I _ _ rfl h]; exact Zba _ _ _ rfl, λa2 => ?_⟩;refine⟨λh => by rw[I _ _ rfl h]; exact Zba _ _ _ rfl, λa3 => ?_⟩;have hn : sgnW c = none := by
    have f : ∀ n : Nat, ((c : Int) == (n : Int)) = ab → c ≠ n := λn h e => by subst e; simp at h
    unfold sgnW;rw[if_neg (f _ h1), if_neg (f _ h2), if_neg (f _ h3), if_neg (f _ h4), if_neg (f _ h5), if_neg (f _ h6), if_neg (f _ h7), if_neg (f _ h8), if_neg (f _ h9), if_neg (f _ a2), if_neg (f _ a3)]
  have : tokP (c :: r) = (z0, 150) := by
    rw[W4, if_neg (by rw[U]; decide), if_neg (by rw[hd]; decide), hn]
  rw[this];exact⟨⟨rfl, rfl, rfl, rfl, trivial⟩, rfl, trivial⟩
noncomputable def Yb2:Sum thy:=X6 (dA1 dS) (λx=>0<x.1.length/\x.1.length<=1000000000) (λx=>tokP x.1) λy=> .tup [tokV y.1,.int ab .i64 y.2]
theorem Z5f:SumOk E 87 Yb2:=Zw E_ok (Zc (f:=87) rfl) λx h=>Zze x.1 h.1 h.2
structure TkX where
 at_:Nat
 ts:List Tok
 r:Nat
def Atk:Fr thy->Hp thy->Nat->Ann thy:=λT h i=>{X:=Bool×TkX,fr:=λx=> [(0,T 0),(5,match x.1 with|true=> .sl i 0 x.2.ts.length 4 ar|false=> .val (.slice ar 0 0)),(6,.int ab .i64 x.2.at_)],bl:=λx=>(match x.1 with|true=> [(i,.rows dc x.2.ts 0)]|false=> []),src:=λx=>(match x.1 with|true=> [(i,5)]|false=> []),md:= [],ih:=i+1,M:=i+60,meas:=λx=>x.2.r,ex:=ex2,al:=al2,exOk:=Zix,alOk:=Ziy}
noncomputable def Ftk:Fns thy:=addL (addS F0 87 Yb2) 44 5 Atk E
theorem Yjn:FnsOk E Ftk:=Zm E_ok (Zb F0_ok Z5f) _ _ _
abbrev Zbb(R:Bool×TkX->Prop) (y:TkX) (s:List Nat):Prop:=
 ∃(I:TkX),R (ab,I)/\I.3+(1:Nat)<=y.3/\ac=ac/\(s=s/\aH ar (0:Nat) (0:Nat)=aH ar (0:Nat) (0:Nat)/\wr af
 ((↑(TkX.at_ y):Int)+(1:Int))=(↑(TkX.at_ I):Int)/\True)/\True
abbrev Zbc(R:Bool×TkX->Prop) (y:TkX) (s:List Nat):Prop:=
 ∃(I:TkX),R (ab,I)/\I.3+(1:Nat)<=y.3/\ac=ac/\(s=s/\False/\wr af ((↑(TkX.at_ y):Int)+(1:Int))=(↑(TkX.at_ I):Int)/\True)/\True
abbrev Zbd(s:List Nat) (y:TkX) (I:TkX):Prop:=
 s=s/\((0:Nat)=(0:Nat)/\aa (TkX.ts y)=aa (TkX.ts I)/\True)/\wr af ((↑(TkX.at_ y):Int)+(1:Int))=(↑(TkX.at_ I):Int)/\True
abbrev Zbe(y:TkX) (s:List Nat):Prop:=
 idxL (ag (10:Int)%(256:Nat)) (0:Nat) (ct (ag (↑(TkX.at_ y):Int)) s)<(0:Int)
abbrev Zeg(y:TkX) (s:List Nat):=
 ((↑(TkX.at_ y):Int)+wr af (idxL (ag (10:Int)%(256:Nat)) (0:Nat) (ct (ag (↑(TkX.at_ y):Int)) s)+(1:Int)))
abbrev Zbf(y:TkX) (s:List Nat):Prop:=
 (0:Int)<=(↑(TkX.at_ y):Int)/\(↑(TkX.at_ y):Int)<=(↑(aa s):Int)
abbrev Zbg(y:TkX) (I:Tok×Int):=
 ((↑(TkX.at_ y):Int)+(↑(aa (cH (ao I))):Int))
abbrev Zi2(y:TkX) (s:List Nat):Prop:=
 (0:Nat)+(1:Nat)<=aa (ct (ag (↑(TkX.at_ y):Int)) s)/\aa (ct (ag (↑(TkX.at_ y):Int)) s)<=(1000000000:Nat)
abbrev qBWd(I:TkX):=(↑(TkX.at_ I):Int)
abbrev qBWe:=(0:Nat)
abbrev qBWf(I:List Nat):=(↑(aa I):Int)
abbrev qBWg:=(1:Nat)
abbrev qBWh:=(0:Int)
abbrev qBWi(I:TkX) (J:TkX):=(TkX.ts I=TkX.ts J/\qBWe=qBWe)
abbrev qBWj(I:TkX) (J:List Tok):=(qBWe+aa (TkX.ts I)<=aa (TkX.ts I)/\av (aa (TkX.ts I)) (TkX.ts I)=J)
theorem Ztn(s:List Nat) (l:List Tok) (a e:Int):Zj E Ftk (vc E Ftk 400) 44 [.str ab s] hp0 0 (λr=>ret E (patch hp0 0 r) r.v (.tup [.psl dc l ab,.int ab .i64 a,.int ab .i64 e]))=(
 (decide ((qBWf s)>(2000:Int))=ac->l= []/\qBWh=a/\(2:Int)=e/\True)/\(decide ((qBWf s)>(2000:Int))=ab->∃(R:Bool×TkX->Prop),((∃(y:TkX),R (ab,y)/\ac=ac/\(s=s/\aH ar qBWe qBWe=aH ar qBWe qBWe/\qBWh=(qBWd y)/\True)/\True)\/∃(y:TkX),R (ac,y)/\ac=ac/\False)/\(∀(y:TkX),R (ab,y)->(decide ((qBWd y)<(qBWf s))=ac->qBWh<=(qBWd y)/\(qBWd y)+(1:Int)<=(qBWf s)/\∀(x:Nat),s[ag (qBWd y)]? =ae x->(((↑x:Int)==(32:Int))=ac->(Zbb R y s)\/∃(I:TkX),R (ac,I)/\I.3+qBWg<=y.3/\ac=ac/\False)/\(((↑x:Int)==(32:Int))=ab->(((↑x:Int)==(9:Int))=ac->(Zbb R y s)\/∃(I:TkX),R (ac,I)/\I.3+qBWg<=y.3/\ac=ac/\False)/\(((↑x:Int)==(9:Int))=ab->(((↑x:Int)==(13:Int))=ac->(Zbb R y s)\/∃(I:TkX),R (ac,I)/\I.3+qBWg<=y.3/\ac=ac/\False)/\(((↑x:Int)==(13:Int))=ab->(((↑x:Int)==(10:Int))=ac->(Zbb R y s)\/∃(I:TkX),R (ac,I)/\I.3+qBWg<=y.3/\ac=ac/\False)/\(((↑x:Int)==(10:Int))=ab->(((↑x:Int)==(35:Int))=ac->(Zbf y s)/\(decide (Zbe y s)=ac->l= []/\qBWh=a/\qBWh=e/\True)/\(decide (Zbe y s)=ab->(∃(I:TkX),R (ab,I)/\I.3+qBWg<=y.3/\ac=ac/\(s=s/\aH ar qBWe qBWe=aH ar qBWe qBWe/\wr af (Zeg y s)=(qBWd I)/\True)/\True)\/∃(I:TkX),R (ac,I)/\I.3+qBWg<=y.3/\ac=ac/\False))/\(((↑x:Int)==(35:Int))=ab->(Zbf y s)/\(Zi2 y s)/\∀(I:Tok×Int),I=tokP (ct (ag (qBWd y)) s)->((aE I !=qBWh)=ac->l= []/\(qBWd y)=a/\aE I=e/\True)/\((aE I !=qBWh)=ab->(∃(J:TkX),R (ab,J)/\J.3+qBWg<=y.3/\ac=ac/\(s=s/\False/\wr af (Zbg y I)=(qBWd J)/\True)/\True)\/∃(J:TkX),R (ac,J)/\J.3+qBWg<=y.3/\ac=ac/\(s=s/\(qBWe=qBWe/\qBWg=aa (TkX.ts J)/\True)/\wr af (Zbg y I)=(qBWd J)/\True)/\([Tok.mk (cu (ao I)) (cH (ao I)) (fi (ao I)) (qBWd y)]=TkX.ts J/\qBWe=qBWe)/\True)))))))/\(decide ((qBWd y)<(qBWf s))=ab->l= []/\qBWh=a/\qBWh=e/\True))/\∀(y:TkX),R (ac,y)->(decide ((qBWd y)<(qBWf s))=ac->qBWh<=(qBWd y)/\(qBWd y)+(1:Int)<=(qBWf s)/\∀(x:Nat),s[ag (qBWd y)]? =ae x->(((↑x:Int)==(32:Int))=ac->(Zbc R y s)\/∃(I:TkX),R (ac,I)/\I.3+qBWg<=y.3/\ac=ac/\(Zbd s y I)/\(qBWi y I)/\True)/\(((↑x:Int)==(32:Int))=ab->(((↑x:Int)==(9:Int))=ac->(Zbc R y s)\/∃(I:TkX),R (ac,I)/\I.3+qBWg<=y.3/\ac=ac/\(Zbd s y I)/\(qBWi y I)/\True)/\(((↑x:Int)==(9:Int))=ab->(((↑x:Int)==(13:Int))=ac->(Zbc R y s)\/∃(I:TkX),R (ac,I)/\I.3+qBWg<=y.3/\ac=ac/\(Zbd s y I)/\(qBWi y I)/\True)/\(((↑x:Int)==(13:Int))=ab->(((↑x:Int)==(10:Int))=ac->(Zbc R y s)\/∃(I:TkX),R (ac,I)/\I.3+qBWg<=y.3/\ac=ac/\(Zbd s y I)/\(qBWi y I)/\True)/\(((↑x:Int)==(10:Int))=ab->(((↑x:Int)==(35:Int))=ac->(Zbf y s)/\(decide (Zbe y s)=ac->(qBWj y l)/\qBWh=a/\qBWh=e/\True)/\(decide (Zbe y s)=ab->(∃(I:TkX),R (ab,I)/\I.3+qBWg<=y.3/\ac=ac/\(s=s/\False/\wr af (Zeg y s)=(qBWd I)/\True)/\True)\/∃(I:TkX),R (ac,I)/\I.3+qBWg<=y.3/\ac=ac/\(s=s/\(qBWe=qBWe/\aa (TkX.ts y)=aa (TkX.ts I)/\True)/\wr af (Zeg y s)=(qBWd I)/\True)/\(qBWi y I)/\True))/\(((↑x:Int)==(35:
Int))=ab->(Zbf y s)/\(Zi2 y s)/\∀(I:Tok×Int),I=tokP (ct (ag (qBWd y)) s)->((aE I !=qBWh)=ac->l= []/\(qBWd y)=a/\aE I=e/\True)/\((aE I !=qBWh)=ab->(aa (TkX.ts y)<=aa (TkX.ts y)/\qBWe<=aa (TkX.ts y)/\(aa (TkX.ts y)+qBWg)*(40:Nat)<=(140737488355328:Nat))/\((∃(J:TkX),R (ab,J)/\J.3+qBWg<=y.3/\ac=ac/\(s=s/\False/\wr af (Zbg y I)=(qBWd J)/\True)/\True)\/∃(J:TkX),R (ac,J)/\J.3+qBWg<=y.3/\ac=ac/\(s=s/\(qBWe=qBWe/\aa (TkX.ts y)+qBWg=aa (TkX.ts J)/\True)/\wr af (Zbg y I)=(qBWd J)/\True)/\(av (aa (TkX.ts y)) (TkX.ts y)++ [Tok.mk (cu (ao I)) (cH (ao I)) (fi (ao I)) (qBWd y)]=TkX.ts J/\qBWe=qBWe)/\True))))))))/\(decide ((qBWd y)<(qBWf s))=ab->(qBWj y l)/\qBWh=a/\qBWh=e/\True))):=by kernel_rfl
def blk(c:Nat):Bool:=c=32||c=9||c=13||c=10
def tksL:Nat->List Nat->Nat->List Tok->List Tok×Int×Int
 |0,_,_,ts=>(ts,0,0)
 |k+1,s,p,ts=>match s[p]? with
  |none=>(ts,0,0)
  |some c=>if blk c then tksL k s (p+1) ts
   else if c=35 then(if idxL 10 0 (s.drop p)<0 then(ts,0,0) else tksL k s (p+(idxL 10 0 (s.drop p)).toNat+1) ts)
   else if(tokP (s.drop p)).2≠0 then([],p,(tokP (s.drop p)).2)
   else tksL k s (p+(tokP (s.drop p)).1.text.length) (ts++ [⟨(tokP (s.drop p)).1.kind,(tokP (s.drop p)).1.text,(tokP (s.drop p)).1.n,p⟩])
def Xm(s:List Nat):List Tok×Int×Int:=if 2000<s.length then([],0,2) else tksL s.length s 0 []
theorem Zto(c:Nat):∀(l:List Nat) (j:Nat),idxL c j l<j+l.length/\ -1<=idxL c j l
 | [],j=>by unfold idxL;simp;try omega
 |x::r,j=>by
  unfold idxL
  split
  ·simp;try omega
  ·have:=Zto c r (j+1)
   simp only[aB]
   omega
theorem Yaj{c:Nat} {w:List Nat} (h:sgnW c=ae w):1<=w.length:=by
 unfold sgnW at h
 repeat' split at h
 all_goals(cases h<;>simp)
theorem Zv7{s:List Nat} (h:(tokP s).2=0):1<=(tokP s).1.text.length/\(tokP s).1.text.length<=s.length/\(tokP s).1.text=s.take (tokP s).1.text.length:=by
 cases s with
 |nil=>cases h
 |cons c r=>
  rw[W4] at h⊢;have go:∀n,1<=n->n<=(c::r).length->1<=((c::r).take n).length/\((c::r).take n).length<=(c::r).length/\(c::r).take n=(c::r).take ((c::r).take n).length:=λn R U=>by
   have e:((c::r).take n).length=n:=by rw[bk];omega
   rw[e];exact⟨R,U,rfl⟩
  split at h
  ·rename_i J
   rw[if_pos J];split at h
   ·cases h
   ·rename_i hn
    rw[if_neg hn];refine go _ ?_ Zqe;have:isLD c=true:=by unfold isLD;rw[J];rfl
    unfold spn;rw[if_pos this];omega
  ·rename_i J
   rw[if_neg J];split at h
   ·rename_i hd
    rw[if_pos hd];refine go _ ?_ Zqe;unfold spn;rw[if_pos hd];omega
   ·rename_i hd
    rw[if_neg hd];split at h
    ·rename_i w hw
     unfold tokS at h⊢;split at h
     ·rename_i I
      have e:=congrArg aa I;rw[bk] at e;refine⟨?_,?_,?_⟩
      ·simp only[if_pos I]
       exact Yaj hw
      ·simp only[if_pos I]
       omega
      ·simp only[if_pos I]
       exact I.symm
     ·cases h
    ·cases h
def TkI(s:List Nat) (I:List Tok×Int×Int) (y:TkX):Prop:=y.at_<=s.length/\s.length<=y.at_+y.r/\y.ts.length<=y.at_/\tksL y.r s y.at_ y.ts=I
theorem Yb3{s:List Nat} {I} {y:TkX} (h:TkI s I y) (hq:¬y.at_<s.length):I=(y.ts,0,0):=by
 obtain⟨R,U,h3,J⟩:=h;rw[<-J];cases hr:y.r with
 |zero=>rfl
 |succ k=>
  unfold tksL;rw[List.getElem?_eq_none (by omega)]
theorem Zi3{s:List Nat} {res} {y:TkX} {c:Nat} (h:TkI s res y) (J:s[y.at_]? =ae c):∃k,y.r=k+1/\s.length<=y.at_+(k+1)/\y.at_<s.length/\(if blk c then tksL k s (y.at_+1) y.ts
 else if c=35 then(if idxL 10 0 (s.drop y.at_)<0 then(y.ts,0,0) else tksL k s (y.at_+(idxL 10 0 (s.drop y.at_)).toNat+1) y.ts)
 else if(tokP (s.drop y.at_)).2≠0 then([],y.at_,(tokP (s.drop y.at_)).2)
 else tksL k s (y.at_+(tokP (s.drop y.at_)).1.text.length) (y.ts++ [⟨(tokP (s.drop y.at_)).1.kind,(tokP (s.drop y.at_)).1.text,(tokP (s.drop y.at_)).1.n,y.at_⟩]))=res:=by
 obtain⟨h1,h2,h3,I⟩:=h
 have R:=(ak.1 J).1
 cases U:y.r with
 |zero=>omega
 |succ k=>
  refine⟨k,rfl,by omega,R,?_⟩
  rw[U] at I
  unfold tksL at I
  rw[J] at I
  exact I
theorem Zv8{s:List Nat} {R} {y:TkX} {c:Nat} (h:TkI s R y) (hc:s[y.at_]? =ae c) (U:blk c=ac):TkI s R ⟨y.at_+1,y.ts,y.r-1⟩/\y.r-1+1<=y.r/\y.at_<s.length:=by
 obtain⟨k,hr,hk,J,I⟩:=Zi3 h hc;rw[if_pos U] at I;have h3:=h.2.2.1;refine⟨⟨J,?_,?_,?_⟩,by omega,J⟩
 ·show s.length<=y.at_+1+(y.r-1)
  omega
 ·show y.ts.length<=y.at_+1
  omega
 ·rw[hr]
  exact I
theorem Yb4{s:List Nat} {R} {y:TkX} {c:Nat} (h:TkI s R y) (hc:s[y.at_]? =ae c) (I:blk c=ab) (U:c=35) (hi:¬idxL 10 0 (s.drop y.at_)<0):TkI s R ⟨y.at_+(idxL 10 0 (s.drop y.at_)).toNat+1,y.ts,y.r-1⟩/\y.r-1+1<=y.r/\y.at_+(idxL 10 0 (s.drop y.at_)).toNat+1<=s.length:=by
 obtain⟨k,hr,hk,hl,J⟩:=Zi3 h hc;rw[if_neg (by rw[I];decide),if_pos U,if_neg hi] at J;have h3:=h.2.2.1;have I:=(Zto 10 (s.drop y.at_) 0).1;rw[cY] at I;refine⟨⟨?_,?_,?_,?_⟩,by omega,by omega⟩
 ·show y.at_+(idxL 10 0 (s.drop y.at_)).toNat+1<=s.length
  omega
 ·show s.length<=y.at_+(idxL 10 0 (s.drop y.at_)).toNat+1+(y.r-1)
  omega
 ·show y.ts.length<=y.at_+(idxL 10 0 (s.drop y.at_)).toNat+1
  omega
 ·rw[hr]
  exact J
theorem Z5g{s:List Nat} {J} {y:TkX} {c:Nat} (h:TkI s J y) (hc:s[y.at_]? =ae c) (U:blk c=ab) (R:c=35) (hi:idxL 10 0 (s.drop y.at_)<0):J=(y.ts,0,0):=by
 obtain⟨k,hr,hk,hl,I⟩:=Zi3 h hc;rw[if_neg (by rw[U];decide),if_pos R,if_pos hi] at I;exact I.symm
theorem Yb5{s:List Nat} {J} {y:TkX} {c:Nat} (h:TkI s J y) (hc:s[y.at_]? =ae c) (U:blk c=ab) (R:c≠35) (hi:(tokP (s.drop y.at_)).2≠0):J=([],(y.at_:Int),(tokP (s.drop y.at_)).2):=by
 obtain⟨k,hr,hk,hl,I⟩:=Zi3 h hc;rw[if_neg (by rw[U];decide),if_neg R,if_pos hi] at I;exact I.symm
theorem Yb6{s:List Nat} {J} {y:TkX} {c:Nat} (h:TkI s J y) (hc:s[y.at_]? =ae c) (U:blk c=ab) (R:c≠35) (hi:(tokP (s.drop y.at_)).2=0):TkI s J ⟨y.at_+(tokP (s.drop y.at_)).1.text.length,y.ts++ [⟨(tokP (s.drop y.at_)).1.kind,(tokP (s.drop y.at_)).1.text,(tokP (s.drop y.at_)).1.n,y.at_⟩],y.r-1⟩/\y.r-1+1<=y.r/\y.at_+(tokP (s.drop y.at_)).1.text.length<=s.length:=by
 obtain⟨k,hr,hk,hl,I⟩:=Zi3 h hc;rw[if_neg (by rw[U];decide),if_neg R,if_neg (by rw[hi];decide)] at I;have h3:=h.2.2.1;obtain⟨n1,n2,_⟩:=Zv7 hi;rw[cY] at n2;refine⟨⟨?_,?_,?_,?_⟩,by omega,by omega⟩
 ·show y.at_+(tokP (s.drop y.at_)).1.text.length<=s.length
  omega
 ·show s.length<=y.at_+(tokP (s.drop y.at_)).1.text.length+(y.r-1)
  omega
 ·show(y.ts++ [_]).length<=y.at_+(tokP (s.drop y.at_)).1.text.length
  rw[aD];simp;omega
 ·rw[hr]
  exact I
theorem Ztp(s:List Nat):PureC E 44 [.str ab s] (.tup [.psl dc (Xm s).1 ab,.int ab .i64 (Xm s).2.1,.int ab .i64 (Xm s).2.2]):=by
 refine Za E_ok (Zd E_ok Yjn 400) ?_;rw[Ztn];delta qBWd qBWe qBWf qBWg qBWh qBWi qBWj;unfold Zi2 Zbg Zbf Zeg Zbe Zbd Zbc Zbb;refine⟨λh=> ?_,λh=> ?_⟩
 ·have h:(s.length:Int)>2000:=by simpa using h
  unfold Xm;rw[if_pos (by omega)];exact⟨rfl,rfl,rfl,trivial⟩
 have h:¬(s.length:Int)>2000:=by simpa using h
 have hp:Xm s=tksL s.length s 0 []:=by unfold Xm;rw[if_neg (by omega)]
 generalize Xm s=a2 at hp;refine⟨λx=>(x.1=ab->x.2.ts= [])/\TkI s a2 x.2,jd ⟨⟨0,[],s.length⟩,⟨λ_=>rfl,bb _,by show s.length<=0+s.length;omega,aw _,hp.symm⟩,rfl,⟨rfl,rfl,rfl,trivial⟩,trivial⟩,?_,?_⟩
 all_goals
  rintro y ⟨h0,R⟩
  replace R:TkI s a2 y:=R
  refine⟨λhq=> ?_,λhq=> ?_⟩
 ·have h0:y.ts= []:=h0 rfl
  have hq:(y.at_:Int)<s.length:=by simpa using hq
  refine⟨by omega,by omega,λc J=> ?_⟩;have J:s[y.at_]? =ae c:=J;have bl:∀n:Nat,((c:Int)==(n:Int))=ac->c=n:=λn h=>by
   have:(c:Int)=n:=by simpa using h
   omega
  have nb:∀n:Nat,((c:Int)==(n:Int))=ab->c≠n:=λn h e=>by subst e;simp at h
  have gb:blk c=ac->(∃(a1:TkX),((ab=ab->a1.ts= [])/\TkI s a2 a1)/\a1.3+(1:Nat)<=y.3/\ac=ac/\(s=s/\aH ar (0:Nat) (0:Nat)=aH ar (0:Nat) (0:Nat)/\wr af ((↑(TkX.at_ y):Int)+(1:Int))=(↑(TkX.at_ a1):Int)/\True)/\True):=λU=>
   ⟨⟨y.at_+1,y.ts,y.r-1⟩,⟨λ_=>h0,(Zv8 R J U).1⟩,(Zv8 R J U).2.1,rfl,⟨rfl,rfl,wr64 (by omega) (by omega),trivial⟩,trivial⟩
  refine⟨λh1=>jd (gb (by rw[bl 32 h1];rfl)),λh1=>⟨λh2=>jd (gb (by rw[bl 9 h2];rfl)),λh2=>⟨λh3=>jd (gb (by rw[bl 13 h3];rfl)),λh3=>⟨λh4=>jd (gb (by rw[bl 10 h4];rfl)),λh4=> ?_⟩⟩⟩⟩;have U:blk c=false:=by
   unfold blk;simp[nb 32 h1,nb 9 h2,nb 13 h3,nb 10 h4]
  have ea:ag (y.at_:Int)=y.at_:=by omega
  rw[ea];refine⟨λh5=> ?_,λh5=> ?_⟩
  ·have a0:c=35:=bl 35 h5
   refine⟨⟨by omega,by omega⟩,λI=> ?_,λI=> ?_⟩
   ·have I:idxL 10 0 (s.drop y.at_)<0:=by simpa using I
    have:=Z5g R J U a0 I;rw[this,h0];exact⟨rfl,rfl,rfl,trivial⟩
   ·have I:¬idxL 10 0 (s.drop y.at_)<0:=by simpa using I
    obtain⟨g1,g2,g3⟩:=Yb4 R J U a0 I;refine jd ⟨⟨y.at_+(idxL 10 0 (s.drop y.at_)).toNat+1,y.ts,y.r-1⟩,⟨λ_=>h0,g1⟩,g2,rfl,⟨rfl,rfl,?_,trivial⟩,trivial⟩;show wr af ((y.at_:Int)+wr af (idxL 10 0 (s.drop y.at_)+1))=((y.at_+(idxL 10 0 (s.drop y.at_)).toNat+1:Nat):Int);rw[show wr af (idxL 10 0 (s.drop y.at_)+1)=idxL 10 0 (s.drop y.at_)+1 from wr64 (by omega) (by omega)];rw[wr64 (by omega) (by omega)];omega
  ·have a0:c≠35:=nb 35 h5
   refine⟨⟨by omega,by omega⟩,⟨by rw[cY];omega,by rw[cY];omega⟩,λz hz=> ?_⟩;subst hz;refine⟨λI=> ?_,λI=> ?_⟩
   ·have I:(tokP (s.drop y.at_)).2≠0:=by simpa using I
    rw[Yb5 R J U a0 I];exact⟨rfl,rfl,rfl,trivial⟩
   ·have I:(tokP (s.drop y.at_)).2=0:=by simpa using I
    obtain⟨g1,g2,g3⟩:=Yb6 R J U a0 I;rw[h0] at g1;refine iH ⟨_,⟨(λh=>by cases h),g1⟩,g2,rfl,⟨rfl,⟨rfl,rfl,trivial⟩,?_,trivial⟩,⟨rfl,rfl⟩,trivial⟩;show wr af ((y.at_:Int)+((tokP (s.drop y.at_)).1.text.length:Int))=((y.at_+(tokP (s.drop y.at_)).1.text.length:Nat):Int);rw[wr64 (by omega) (by omega)];omega
 ·have hq:¬(y.at_:Int)<s.length:=by simpa using hq
  rw[Yb3 R (by omega),h0 rfl];exact⟨rfl,rfl,rfl,trivial⟩
 ·have hq:(y.at_:Int)<s.length:=by simpa using hq
  refine⟨by omega,by omega,λc J=> ?_⟩;have J:s[y.at_]? =ae c:=J;have bl:∀n:Nat,((c:Int)==(n:Int))=ac->c=n:=λn h=>by
   have:(c:Int)=n:=by simpa using h
   omega
  have nb:∀n:Nat,((c:Int)==(n:Int))=ab->c≠n:=λn h e=>by subst e;simp at h
  have gb:blk c=ac->∃(a1:TkX),((ac=ab->a1.ts= [])/\TkI s a2 a1)/\a1.3+(1:Nat)<=y.3/\ac=ac/\(s=s/\((0:Nat)=(0:Nat)/\aa (TkX.ts y)=aa (TkX.ts a1)/\True)/\wr af ((↑(TkX.at_ y):Int)+(1:Int))=(↑(TkX.at_ a1):Int)/\True)/\(TkX.ts y=TkX.ts a1/\(0:Nat)=(0:Nat))/\True:=λU=>
   ⟨⟨y.at_+1,y.ts,y.r-1⟩,⟨(λh=>by cases h),(Zv8 R J U).1⟩,(Zv8 R J U).2.1,rfl,⟨rfl,⟨rfl,rfl,trivial⟩,wr64 (by omega) (by omega),trivial⟩,⟨rfl,rfl⟩,trivial⟩
  refine⟨λh1=>iH (gb (by rw[bl 32 h1];rfl)),λh1=>⟨λh2=>iH (gb (by rw[bl 9 h2];rfl)),λh2=>⟨λh3=>iH (gb (by rw[bl 13 h3];rfl)),λh3=>⟨λh4=>iH (gb (by rw[bl 10 h4];rfl)),λh4=> ?_⟩⟩⟩⟩;have U:blk c=false:=by
   unfold blk;simp[nb 32 h1,nb 9 h2,nb 13 h3,nb 10 h4]
  have ea:ag (y.at_:Int)=y.at_:=by omega
  have h3:=R.2.2.1;rw[ea];refine⟨λh5=> ?_,λh5=> ?_⟩
  ·have a0:c=35:=bl 35 h5
   refine⟨⟨by omega,by omega⟩,λI=> ?_,λI=> ?_⟩
   ·have I:idxL 10 0 (s.drop y.at_)<0:=by simpa using I
    have:=Z5g R J U a0 I;rw[this];exact⟨⟨by omega,aW⟩,rfl,rfl,trivial⟩
   ·have I:¬idxL 10 0 (s.drop y.at_)<0:=by simpa using I
    obtain⟨g1,g2,g3⟩:=Yb4 R J U a0 I;refine iH ⟨_,⟨(λh=>by cases h),g1⟩,g2,rfl,⟨rfl,⟨rfl,rfl,trivial⟩,?_,trivial⟩,⟨rfl,rfl⟩,trivial⟩;show wr af ((y.at_:Int)+wr af (idxL 10 0 (s.drop y.at_)+1))=((y.at_+(idxL 10 0 (s.drop y.at_)).toNat+1:Nat):Int);rw[show wr af (idxL 10 0 (s.drop y.at_)+1)=idxL 10 0 (s.drop y.at_)+1 from wr64 (by omega) (by omega)];rw[wr64 (by omega) (by omega)];omega
  ·have a0:c≠35:=nb 35 h5
   refine⟨⟨by omega,by omega⟩,⟨by rw[cY];omega,by rw[cY];omega⟩,λz hz=> ?_⟩;subst hz;refine⟨λI=> ?_,λI=> ?_⟩
   ·have I:(tokP (s.drop y.at_)).2≠0:=by simpa using I
    rw[Yb5 R J U a0 I];exact⟨rfl,rfl,rfl,trivial⟩
   ·have I:(tokP (s.drop y.at_)).2=0:=by simpa using I
    obtain⟨g1,g2,g3⟩:=Yb6 R J U a0 I;refine⟨⟨aw _,bb _,by omega⟩,iH ⟨_,⟨(λh=>by cases h),g1⟩,g2,rfl,⟨rfl,⟨rfl,?_,trivial⟩,?_,trivial⟩,⟨?_,rfl⟩,trivial⟩⟩
    ·show y.ts.length+1=(y.ts++ [_]).length
     rw[aD];rfl
    ·show wr af ((y.at_:Int)+((tokP (s.drop y.at_)).1.text.length:Int))=((y.at_+(tokP (s.drop y.at_)).1.text.length:Nat):Int)
     rw[wr64 (by omega) (by omega)];omega
    ·show av y.ts.length y.ts++_=y.ts++_
     rw[aW]
 ·have hq:¬(y.at_:Int)<s.length:=by simpa using hq
  rw[Yb3 R (by omega)];exact⟨⟨by omega,aW⟩,rfl,rfl,trivial⟩
end
section
open Go.RowKit
section
variable {Y:Thy} {E:Eng Y}
def frzH(h:Hp Y) (bs:List Nat):Hp Y:=λb=>match memB b bs with|true=>frzB (h b)|false=>h b
noncomputable def frzA(E:Eng Y) (gth:List (SV Y)->Option Y.Th) (n:Nat) (S:Sum Y):Sum Y:=λargs h i k=>
 match args with
 |a::rest=>frzL (frzK E gth h n) rest λI bs=>S (a::I) (frzH h bs) i λr=>Ug (bs++r.mods) λm=>k ⟨r.v,r.n,m,patch (frzH h bs) i r,ar⟩
 | []=>False
theorem Zep{h:Hp Y} {bs:List Nat} {b:Nat} (I:frzH h bs b≠ar):h b≠none:=by
 intro e;apply I;unfold frzH;rw[e];cases memB b bs<;>rfl
theorem Yau{h:Hp Y} {bs:List Nat} {b:Nat} (I:b∉bs):frzH h bs b=h b:=by
 unfold frzH;cases J:memB b bs with
 |true=>exact absurd (memB_iff.1 J) I
 |false=>rfl
theorem Zb5(h:Hp Y) (bs:List Nat) (i:Nat) (r:Res Y):patch h i ⟨r.v,r.n,bs++r.mods,patch (frzH h bs) i r,ar⟩=patch (frzH h bs) i r:=by
 funext b;rw[Zp];by_cases c:b∈bs++r.mods\/(i<=b/\b<i+r.n)
 ·rw[if_pos c]
 ·rw[if_neg c,Zp]
  have I:b∉bs:=λh=>c (.inl (ez _ h));rw[if_neg (λh=>c (h.elim (λh=> .inl (dz _ h)) .inr)),Yau I]
theorem Znj{h:Hp Y} {bs:List Nat} {i n:Nat} {a0:List Nat} {σ σ':Pl} {g g':GH} {w w':World} {B:Nat} (hI:Inv E B σ h g w) (I:Stp i n a0 σ (frzG E h σ bs g w) w σ' g' w'):Stp i n (bs++a0) σ g w σ' g' w':=by
 refine⟨I.sig,I.snew,(U7 hI).trans I.gle,λr o v hv=> ?_,I.gmnew,λr hr hx=>I.heap r hr λb U=>hx b (dz _ U),I.size,I.os,I.tape,I.output,λb r z J R=> ?_⟩
 ·rcases I.gcnew r o v hv with J|J|⟨b,U,J⟩
  ·rcases Zbi J with⟨_,b,U,z,x,R,_⟩|R
   ·exact .inr (.inr ⟨b,ez _ U,z,R⟩)
   ·exact .inl R
  ·exact .inr (.inl J)
  ·exact .inr (.inr ⟨b,dz _ U,J⟩)
 ·rcases I.blk b r z J R with h3|⟨b',a1,h3⟩
  ·exact .inl h3
  ·exact .inr ⟨b',dz _ a1,h3⟩
theorem Ygh(hE:EngOk E) {gth:List (SV Y)->Option Y.Th} {n:Nat} {f:Nat} {S:Sum Y} (hS:SumOk E f S):SumOk E f (frzA E gth n S):=by
 refine⟨hS.good,λargs h i k hD R=> ?_⟩;unfold frzA at R;split at R
 case h_2=>exact R.elim
 rename_i a rest;obtain⟨a3,bs,R,o⟩:=Ul (Zbh hE n) R;obtain⟨r,R,hR,a8⟩:=hS.ok (a::a3) (frzH h bs) i _ (λb U=>hD b (Zep U)) R;rw[Xw] at R;have a4:∀(B:Nat) (σ:Pl) (g:GH) (w:World) (vals:List Value),Inv E B σ h g w->DenL E σ g (a::rest) vals->DenL E σ (frzG E h σ bs g w) (a::a3) vals:=by
  intro B σ g w vals J hd;have a6:=U7 (bs:=bs) J;refine⟨by rw[<-hd.1];simp[o.len],λj sv' u I h2=> ?_⟩;cases j with
  |zero=>
   simp at I;subst I;exact(hd.2 0 _ u rfl h2).mono (.refl _) a6
  |succ j=>
   have I:a3[j]? =ae sv':=by simpa using I
   have a5:j<rest.length:=by rw[<-o.len];exact(ak.1 I).1
   exact(o.den h σ g w B _ (λ_ _=>rfl) J a6 Zeh j _ sv' u (aj a5) I (hd.2 (j+1) _ u (by simpa using aj a5) h2)).mono (λb p h=>by cases h) (.refl _)
 refine⟨_,R,λb U=> ?_,?_⟩
 ·have U:b∈bs++r.mods:=U
  rcases bT.1 U with I|I
  ·obtain⟨y,hy,_⟩:=o.blk b I
   rw[hy];simp
  ·exact Zep (hR b I)
 rcases a8 with ht|⟨p,hp,ht⟩
 ·refine .inl ?_
  intro B σ g w vals hh a7 J hB a1 hd;obtain rfl:hh=h:=funext λb=>a7 b trivial;refine(ht B σ _ w vals (frzH hh bs) (λ_ _=>rfl) (Zi6 hE o.blk J) hB a1 (a4 B σ g w _ J hd)).mono ?_;rintro en w' ⟨u,he,σ',g',a2,a0,hv⟩;refine⟨u,he,σ',g',Znj J a2,?_,hv⟩;rw[Zb5];exact a0
 ·refine .inr ⟨p,hp,λB σ g w vals J hB a1 hd=> ?_⟩
  refine(ht B σ _ w vals (Zi6 hE o.blk J) hB a1 (a4 B σ g w _ J hd)).mono ?_;rintro en w' ⟨he,σ',g',a2,a0⟩;refine⟨he,σ',g',Znj J a2,?_⟩;rw[Zb5];exact a0
noncomputable def Zqn(E:Eng Y) (gth:List (SV Y)->Option Y.Th) (n:Nat) (S:Sum Y):Sum Y:=λargs h i k=>
 frzL (frzK E gth h n) args λI bs=>S I (frzH h bs) i λr=>Ug (bs++r.mods) λm=>k ⟨r.v,r.n,m,patch (frzH h bs) i r,ar⟩
theorem Zjc(hE:EngOk E) {gth:List (SV Y)->Option Y.Th} {n:Nat} {f:Nat} {S:Sum Y} (hS:SumOk E f S):SumOk E f (Zqn E gth n S):=by
 refine⟨hS.good,λargs h i k hD J=> ?_⟩;unfold Zqn at J;obtain⟨a5,bs,J,o⟩:=Ul (Zbh hE n) J;obtain⟨r,J,hR,a8⟩:=hS.ok a5 (frzH h bs) i _ (λb U=>hD b (Zep U)) J;rw[Xw] at J;have a3:∀(B:Nat) (σ:Pl) (g:GH) (w:World) (vals:List Value),Inv E B σ h g w->DenL E σ g args vals->DenL E σ (frzG E h σ bs g w) a5 vals:=by
  intro B σ g w vals I hd;have a6:=U7 (bs:=bs) I;refine⟨by rw[<-hd.1];exact o.len,λj a9 u R h2=> ?_⟩;have a4:j<args.length:=by rw[<-o.len];exact(ak.1 R).1
  exact(o.den h σ g w B _ (λ_ _=>rfl) I a6 Zeh j _ a9 u (aj a4) R (hd.2 j _ u (aj a4) h2)).mono (λb p h=>by cases h) (.refl _)
 refine⟨_,J,λb U=> ?_,?_⟩
 ·have U:b∈bs++r.mods:=U
  rcases bT.1 U with R|R
  ·obtain⟨y,hy,_⟩:=o.blk b R
   rw[hy];simp
  ·exact Zep (hR b R)
 rcases a8 with ht|⟨p,hp,ht⟩
 ·refine .inl ?_
  intro B σ g w vals hh a7 I hB a1 hd;obtain rfl:hh=h:=funext λb=>a7 b trivial;refine(ht B σ _ w vals (frzH hh bs) (λ_ _=>rfl) (Zi6 hE o.blk I) hB a1 (a3 B σ g w _ I hd)).mono ?_;rintro en w' ⟨u,he,σ',g',a2,a0,hv⟩;refine⟨u,he,σ',g',Znj I a2,?_,hv⟩;rw[Zb5];exact a0
 ·refine .inr ⟨p,hp,λB σ g w vals I hB a1 hd=> ?_⟩
  refine(ht B σ _ w vals (Zi6 hE o.blk I) hB a1 (a3 B σ g w _ I hd)).mono ?_;rintro en w' ⟨he,σ',g',a2,a0⟩;refine⟨he,σ',g',Znj I a2,?_⟩;rw[Zb5];exact a0
end
end
section
open Go
noncomputable def Z6g:Sum thy:=X6 (dA1 dS) (λ_=>True) (λx=>Xm x.1) λy=> .tup [.psl dc y.1 ab,.int ab .i64 y.2.1,.int ab .i64 y.2.2]
theorem Zzt:SumOk E 44 Z6g:=Zw E_ok (Zc (f:=44) rfl) λx _=>Ztp x.1
noncomputable def Z6h:Sum thy:=frzA E (λ_=>ar) 2 (sumM (mI (dA1 dCls) (n1 λ_=>rfl) dCl (λ_=>rfl)) (λx a=>x.1.length<1000000000/\a.1.length<=1000000000) λx a=>Xu a.1 x.1 x.2.1)
theorem Zzu:SumOk E 51 Z6h:=Ygh E_ok (X8 E_ok (Zc rfl) λx a h=>Zzx a.1 x.1 x.2.1 h.1 h.2)
structure QX where
 cs:List Cls
 fz:Nat
 l:List Tok
 ed:Int
 p:Int
 k:Nat
def Apa:Fr thy->Hp thy->Nat->Ann thy:=λT h i=>{X:=Bool×QX,fr:=λx=> [(0,T 0),(2,T 2),(3,T 3),(4,T 4),(6,T 6),(7,.int ab .i64 x.2.p)],bl:=λx=>(bOf (T 6),.raw [.psl dc x.2.l ab,.int ab .i64 x.2.ed] 0 ar)::(bOf (T 2),.raw ((cellsOf h (T 2)).take 2++ [match x.1 with|true=> .sl i 0 x.2.cs.length 9 ar|false=> .val (.slice ar 0 0)]) 0 ar)::((match x.1 with|true=> [(i,.rows bq x.2.cs x.2.fz)]|false=> [])++(blkP h (T 3)++blkP h (T 4))),src:=λx=>(match x.1 with|true=> [(i,3002)]|false=> []),md:= [bOf (T 6),bOf (T 2)],ih:=i+1,M:=i+60,meas:=λx=>x.2.k,ex:=ex2,al:=al2,exOk:=Zix,alOk:=Ziy}
noncomputable def Fpa:Fns thy:=addL (addS (addS (addS Fme 49 Z7k) 44 Z6g) 51 Z6h) 22 12 Apa E
theorem Yj4:FnsOk E Fpa:=Zm E_ok (Zb (Zb (Zb Zha Zud) Zzt) Zzu) _ _ _
abbrev Xk(t:Tar):Prop:=
 []=bN t/\(0:Int)=bB t/\au t= []/\True
abbrev Znl(R:Bool×QX->Prop) (a0:QX) (s:List Nat) (a1:Int) (x':PX) (J:List Nat) (U:Int) (y:List Tok×Int×Int):Prop:=
 ∃(I:QX),R (ab,I)/\I.6+(1:Nat)<=a0.6/\ac=ac/\(s=s/\(0:Nat)=(0:Nat)/\(0:Nat)=(0:Nat)/\(0:Nat)=(0:Nat)/\(0:Nat)=(0:Nat)/\
 a1=QX.p I/\True)/\((ao x'=QX.l I/\(ab=ac->ab=ac))/\ao (aE x')=QX.ed I/\True)/\(J=J/\wr af ((1:Int)+U)=
 wr af ((1:Int)+U)/\False/\True)/\(ao (aE y)=ao (aE y)/\True)/\(aE (aE y)=aE (aE y)/\True)/\True
abbrev Znm(I:Cls):=
 (bV (aJ (aC I)) (bX (aC I)) (bC (aC I)) (bD (aC I)) (bE (aC I)) (bF (aC I)) (bw (aC I)))
abbrev Znn(I:QX) (t:Tar) (a:Int) (e:Int):Prop:=
 decide ((↑(aa (bv (QX.l I))):Int)>(0:Int))=ac->∀(y:Int),y=hdT (QX.ed I) (bv (QX.l I))->(Xk t)/\y=a/\(160:Int)=e/\
 True
abbrev Zgp(I:QX):=
 (av (aa (QX.cs I)) (ct (0:Nat) (QX.cs I)))
abbrev qBY1:=(0:Nat)
abbrev qBY2(I:List Nat) (J:Int) (R:QX):=(I=I/\qBY1=qBY1/\qBY1=qBY1/\qBY1=qBY1/\qBY1=qBY1/\J=QX.p R/\True)
abbrev qBY3(I:PX):=(ao (aE I))
abbrev qBY4(I:QX):=(bv (QX.l I))
abbrev qBY5(I:QX):=(aa (QX.cs I))
abbrev qBY6(I:PX) (J:QX):=((ao I=QX.l J/\(ab=ac->ab=ac))/\ao (aE I)=QX.ed J/\True)
abbrev qBY7(I:List Tok×Int×Int):=(ao (aE I)=ao (aE I)/\True)
abbrev qBY8(I:List Tok×Int×Int):=(aE (aE I)=aE (aE I)/\True)
theorem Zzv(s:List Nat) (t:Tar) (a e:Int):Zj E Fpa (vc E Fpa 400) 22 [.str ab s] hp0 0 (λr=>ret E (patch hp0 0 r) r.v (.tup [.agg [.str ab t.name,.int ab .i64 t.for_,.psl bq t.clauses ab],.int ab .i64 a,.int ab .i64 e]))=(
 True/\∀(y:List Tok×Int×Int),y=Xm s->((aE (aE y) !=(0:Int))=ac->(Xk t)/\ao (aE y)=a/\aE (aE y)=e/\True)/\((aE (aE y) !=(0:Int))=ab->(isW [(116:Nat),(97:Nat),(114:Nat),(105:Nat),(102:Nat),(102:Nat)] (ao y)=ac->True/\(∀(a0:List Nat) (x':PX),Ziv (bv (ao y)) (↑(aa s):Int)=aT (a0,x')->(isW [(102:Nat),(111:Nat),(114:Nat)] (ao x')=ac->(WK.ki=WK.at_\/WK.ki=WK.ki\/WK.ki=WK.un)/\(∀(a1:Int) (a2:PX),Vj (WK.words WK.ki) (bv (ao x')) (qBY3 x')=aT (a1,a2)->(isW [(123:Nat)] (ao a2)=ac->∀(a5:Int),a5=hdT (qBY3 a2) (bv (ao a2))->∃(R:Bool×QX->Prop),((∃(I:QX),R (ab,I)/\ac=ac/\(qBY2 s a5 I)/\((bv (ao a2)=QX.l I/\(ab=ac->ab=ac))/\ao (aE a2)=QX.ed I/\True)/\(a0=a0/\wr af ((1:Int)+a1)=wr af ((1:Int)+a1)/\aH ar qBY1 qBY1=aH ar qBY1 qBY1/\True)/\(qBY7 y)/\(qBY8 y)/\True)\/∃(y:QX),R (ac,y)/\ac=ac/\False)/\(∀(I:QX),R (ab,I)->(isW [(99:Nat),(108:Nat),(97:Nat),(117:Nat),(115:Nat),(101:Nat)] (QX.l I)=ac->(aa (qBY4 I)+(1:Nat)<=(1000000000:Nat)/\qBY1<=(1000000000:Nat))/\(∀(a3:Cls) (x':PX),Xu [] (qBY4 I) (QX.ed I)=aT (a3,x')->∀(a4:Int),a4=hdT (qBY3 x') (ao x')->(Znl R I s a4 x' a0 a1 y)\/∃(U:QX),R (ac,U)/\U.6+(1:Nat)<=I.6/\ac=ac/\(qBY2 s a4 U)/\(qBY6 x' U)/\(a0=a0/\wr af ((1:Int)+a1)=wr af ((1:Int)+a1)/\(qBY1=qBY1/\(1:Nat)=aa (QX.cs U)/\True)/\True)/\([eP (aP a3) (aX a3) (Znm a3)]=QX.cs U/\qBY1=QX.fz U)/\(qBY7 y)/\(qBY8 y)/\True)/\∀(J:Int×Int),Xu [] (qBY4 I) (QX.ed I)=az J->(Xk t)/\ao J=a/\aE J=e/\True)/\(isW [(99:Nat),(108:Nat),(97:Nat),(117:Nat),(115:Nat),(101:Nat)] (QX.l I)=ab->(isW [(125:Nat)] (QX.l I)=ac->(Znn I t a e)/\(decide ((↑(aa (qBY4 I)):Int)>(0:Int))=ab->(a0=bN t/\wr af ((1:Int)+a1)=bB t/\au t= []/\True)/\(0:Int)=a/\(0:Int)=e/\True))/\(isW [(125:Nat)] (QX.l I)=ab->(Xk t)/\hdT (QX.ed I) (QX.l I)=a/\(160:Int)=e/\True)))/\∀(I:QX),R (ac,I)->(isW [(99:Nat),(108:Nat),(97:Nat),(117:Nat),(115:Nat),(101:Nat)] (QX.l I)=ac->(((↑(qBY5 I):Int)==(64:Int))=ac->(Xk t)/\QX.p I=a/\(2:Int)=e/\True)/\(((↑(qBY5 I):Int)==(64:Int))=ab->qBY1+aa (QX.cs I)<=aa (QX.cs I)/\(aa (qBY4 I)+(1:Nat)<=(1000000000:Nat)/\aa (Zgp I)<=(1000000000:Nat))/\(∀(a3:Cls) (x':PX),Xu (Zgp I) (qBY4 I) (QX.ed I)=aT (a3,x')->(aa (QX.cs I)<=aa (QX.cs I)/\mx2 (QX.fz I) (qBY5 I)<=aa (QX.cs I)/\(aa (QX.cs I)+(1:Nat))*(112:Nat)<=(140737488355328:Nat))/\∀(a4:Int),a4=hdT (qBY3 x') (ao x')->(Znl R I s a4 x' a0 a1 y)\/∃(U:QX),R (ac,U)/\U.6+(1:Nat)<=I.6/\ac=ac/\(qBY2 s a4 U)/\(qBY6 x' U)/\(a0=a0/\wr af ((1:Int)+a1)=wr af ((1:Int)+a1)/\(qBY1=qBY1/\aa (QX.cs I)+(1:Nat)=aa (QX.cs U)/\True)/\True)/\(av (qBY5 I) (QX.cs I)++ [eP (aP a3) (aX a3) (Znm a3)]=QX.cs U/\mx2 (QX.fz I) (qBY5 I)=QX.fz U)/\(qBY7 y)/\(qBY8 y)/\True)/\∀(J:Int×Int),Xu (Zgp I) (qBY4 I) (QX.ed I)=az
J->(Xk t)/\ao J=a/\aE J=e/\True))/\(isW [(99:Nat),(108:Nat),(97:Nat),(117:Nat),(115:Nat),(101:Nat)] (QX.l I)=ab->(isW [(125:Nat)] (QX.l I)=ac->(Znn I t a e)/\(decide ((↑(aa (qBY4 I)):Int)>(0:Int))=ab->(a0=bN t/\wr af ((1:Int)+a1)=bB t/\(qBY1+aa (QX.cs I)<=aa (QX.cs I)/\av (qBY5 I) (QX.cs I)=au t)/\True)/\(0:Int)=a/\(0:Int)=e/\True))/\(isW [(125:Nat)] (QX.l I)=ab->(Xk t)/\hdT (QX.ed I) (QX.l I)=a/\(160:Int)=e/\True)))/\(isW [(123:Nat)] (ao a2)=ab->(Xk t)/\hdT (qBY3 a2) (ao a2)=a/\(160:Int)=e/\True))/\∀(J:Int×Int),Vj (WK.words WK.ki) (bv (ao x')) (qBY3 x')=az J->(Xk t)/\ao J=a/\aE J=e/\True)/\(isW [(102:Nat),(111:Nat),(114:Nat)] (ao x')=ab->(Xk t)/\hdT (qBY3 x') (ao x')=a/\(160:Int)=e/\True))/\∀(J:Int×Int),Ziv (bv (ao y)) (↑(aa s):Int)=az J->(Xk t)/\ao J=a/\aE J=e/\True)/\(isW [(116:Nat),(97:Nat),(114:Nat),(105:Nat),(102:Nat),(102:Nat)] (ao y)=ab->(Xk t)/\hdT (↑(aa s):Int) (ao y)=a/\(160:Int)=e/\True))):=by kernel_rfl
theorem Ztw:∀{k:Nat} {more:Bool} {ts:List Tst} {l:List Tok} {e:Int} {I:List Tst} {x:PX},pTs k more ts l e= .ok (I,x)->x.1.length<=l.length
 |0,more,ts,l,e,I,x,h=>by
  unfold pTs at h
  injection h with h
  injection h with _ h
  subst h
  exact aw _
 |k+1,more,ts,l,e,I,x,h=>by
  unfold pTs at h
  split at h
  ·split at h
   ·cases h
   ·rename_i t z R
    have U:=(Zjh R).1
    have J:=Ztw h
    split at J
    ·rw[eX] at J
     omega
    ·omega
  ·injection h with h
   injection h with _ h
   subst h
   exact aw _
theorem Yj5{l:List Tok} {e:Int} {y:Ex} {x:PX} (h:pX l e= .ok (y,x)):x.1.length<=l.length:=by
 have:=Zt3 l e y x h;omega
theorem Ya5{R:List Nat} {ts:List Tst} {l:List Tok} {e:Int} {c:Cls} {x:PX} (h:pPay R ts l e= .ok (c,x)):x.1.length<=l.length:=by
 unfold pPay at h;split at h
 ·split at h
  ·cases h
  ·rename_i y z J
   have I:=Yj5 J;rw[eX] at I;split at h
   ·cases h
   ·split at h
    ·injection h with h
     injection h with _ h
     subst h;show z.1.tail.length<=l.length;rw[eX];omega
    ·cases h
 ·cases h
theorem Zdg{bs:List Cls} {l:List Tok} {e:Int} {c:Cls} {x:PX} (h:Xu bs l e= .ok (c,x)):x.1.length<=l.length:=by
 unfold Xu at h;split at h
 ·cases h
 ·rename_i nm z R
  have U:=Zbl R;split at h
  ·cases h
  ·unfold pAft at h
   split at h
   ·cases h
   ·rename_i ts y J
    have I:=Ztw J;have h3:=Ya5 h;split at I
    ·rw[eX] at I
     omega
    ·omega
def V1:List Nat:= [99,108,97,117,115,101]
def pCls:Nat->List Cls->List Tok->Int->PR (List Cls)
 |0,cs,l,e=> .ok (cs,l,e,())
 |k+1,cs,l,e=>if isW [99,108,97,117,115,101] l then(if cs.length=64 then .error (hdT e l,2) else match Xu cs l.tail e with
  | .error I=> .error I
  | .ok (c,x)=>pCls k (cs++ [c]) x.1 x.2.1) else .ok (cs,l,e,())
def pEnd(R:List Nat) (J:Int):PR (List Cls)->PR Tar
 | .error I=> .error I
 | .ok (cs,x)=>if isW [125] x.1 then(if 0<x.1.tail.length then .error (hdT x.2.1 x.1.tail,160) else .ok (⟨R,J,cs⟩,x.1.tail,x.2.1,())) else .error (hdT x.2.1 x.1,160)
def pTar(l:List Tok) (e:Int):PR Tar:=
 if isW [116,97,114,105,102,102] l then
  match Ziv l.tail e with
  | .error I=> .error I
  | .ok (J,x)=>
   if isW [102,111,114] x.1 then
    match Vj WK.ki.words x.1.tail x.2.1 with
    | .error I=> .error I
    | .ok (k,z)=>if isW [123] z.1 then pEnd J (wr .i64 (1+k)) (pCls (z.1.tail.length+1) [] z.1.tail z.2.1) else .error (hdT z.2.1 z.1,160)
   else .error (hdT x.2.1 x.1,160)
 else .error (hdT e l,160)
def zT:Tar:=⟨[],0,[]⟩
def outT:PR Tar->Tar×Int×Int
 | .ok y=>(y.1,0,0)
 | .error I=>(zT,I.1,I.2)
def Wh(s:List Nat):Tar×Int×Int:=if(Xm s).2.2≠0 then(zT,(Xm s).2.1,(Xm s).2.2) else outT (pTar (Xm s).1 s.length)
theorem Zgq:∀{k:Nat} {s:List Nat} {p:Nat} {ts:List Tok},ts.length<=p->p<=s.length->(tksL k s p ts).1.length<=s.length
 |0,s,p,ts,I,J=>by unfold tksL;exact bR I J
 |k+1,s,p,ts,I,J=>by
  unfold tksL
  split
  ·exact bR I J
  ·rename_i c U
   have a0:=(ak.1 U).1
   split
   ·exact Zgq (by omega) a0
   ·split
    ·split
     ·exact bR I J
     ·have:=(Zto 10 (s.drop p) 0).1
      rw[cY] at this
      exact Zgq (by omega) (by omega)
    ·split
     ·exact bb _
     ·rename_i R
      have R:(tokP (s.drop p)).2=0:=by simpa using R
      obtain⟨n1,n2,_⟩:=Zv7 R
      rw[cY] at n2
      exact Zgq (by rw[aD];simp;omega) (by omega)
theorem Zjf(s:List Nat):(Xm s).1.length<=2000:=by
 unfold Xm;split
 ·exact bb _
 ·have:=Zgq (k:=s.length) (s:=s) (p:=0) (ts:= []) (aw _) (bb _)
  omega
theorem Zjg(c:Cls):eP (aP c) (aX c) (bV (aJ (aC c)) (bX (aC c)) (bC (aC c)) (bD (aC c)) (bE (aC c)) (bF (aC c)) (bw (aC c)))=c:=by
 obtain⟨a,b,p⟩:=c;cases p;rfl
theorem Zzw(s:List Nat):PureC E 22 [.str ab s] (.tup [.agg [.str ab (Wh s).1.name,.int ab .i64 (Wh s).1.for_,.psl bq (Wh s).1.clauses ab],.int ab .i64 (Wh s).2.1,.int ab .i64 (Wh s).2.2]):=by
 refine Za E_ok (Zd E_ok Yj4 400) ?_;rw[Zzv];delta qBY1 qBY2 qBY3 qBY4 qBY5 qBY6 qBY7 qBY8;unfold Zgp Znn Znm Znl Xk;refine⟨trivial,λy hy=> ?_⟩;have a0:y.1.length<=2000:=hy▸Zjf s;have I:Wh s=if y.2.2≠0 then(zT,y.2.1,y.2.2) else outT (pTar y.1 s.length):=by subst hy;rfl
 generalize Wh s=res at I;refine⟨λh=> ?_,λh=> ?_⟩
 ·have h:y.2.2≠0:=by simpa using h
  rw[if_pos h] at I;subst I;exact⟨⟨rfl,rfl,rfl,trivial⟩,rfl,rfl,trivial⟩
 have h:y.2.2=0:=by simpa using h
 rw[if_neg (by rw[h];decide)] at I;unfold pTar at I;refine⟨λh1=>⟨trivial,λnm x hx=>⟨λh2=>⟨.inr (.inl rfl),λfo z hz=>⟨λh3=> ?_,λh3=> ?_⟩,λer he=> ?_⟩,λh2=> ?_⟩,λer he=> ?_⟩,λh1=> ?_⟩
 rotate_left
 ·rw[if_pos h1,hx] at I
  simp only[if_pos h2,hz,h3] at I;subst I;exact⟨⟨rfl,rfl,rfl,trivial⟩,rfl,rfl,trivial⟩
 ·rw[if_pos h1,hx] at I
  simp only[if_pos h2,he] at I;subst I;exact⟨⟨rfl,rfl,rfl,trivial⟩,rfl,rfl,trivial⟩
 ·rw[if_pos h1,hx] at I
  simp only[h2] at I;subst I;exact⟨⟨rfl,rfl,rfl,trivial⟩,rfl,rfl,trivial⟩
 ·rw[if_pos h1,he] at I
  subst I;exact⟨⟨rfl,rfl,rfl,trivial⟩,rfl,rfl,trivial⟩
 ·rw[h1] at I
  subst I;exact⟨⟨rfl,rfl,rfl,trivial⟩,rfl,rfl,trivial⟩
 rw[if_pos h1,hx] at I;simp only[if_pos h2,hz,if_pos h3] at I;have l1:=Z4 h1;have l2:=Zbl hx;have l3:=Z4 h2;have l4:z.1.length<=x.1.tail.length:=by
  unfold Vj at hz;split at hz
  ·injection hz with hz
   injection hz with _ hz
   subst hz;show x.1.tail.tail.length<=_;rw[eX (l:=x.1.tail)];omega
  ·cases hz
 have l5:=Z4 h3;intro q hq;subst hq
 refine⟨λv=>(v.1=ab->v.2.cs= [])/\outT (pEnd nm (wr .i64 (1+fo)) (pCls v.2.k v.2.cs v.2.l v.2.ed))=res/\v.2.p=hdT v.2.ed v.2.l/\v.2.l.length<v.2.k/\v.2.l.length<=2000/\v.2.fz<=v.2.cs.length/\v.2.cs.length<=64,
  .inl ⟨⟨[],0,z.1.tail,z.2.1,hdT z.2.1 z.1.tail,z.1.tail.length+1⟩,⟨λ_=>rfl,I.symm,rfl,eF _,?_,aw _,bb _⟩,rfl,⟨rfl,rfl,rfl,rfl,rfl,rfl,trivial⟩,⟨⟨rfl,λh=>h⟩,rfl,trivial⟩,⟨rfl,rfl,rfl,trivial⟩,⟨rfl,trivial⟩,⟨rfl,trivial⟩,trivial⟩,?_,?_⟩
 ·show z.1.tail.length<=2000
  omega
 all_goals
  rintro v ⟨v0,v1,v2,v3,v4,v5,v6⟩
  replace v1:outT (pEnd nm (wr .i64 (1+fo)) (pCls v.k v.cs v.l v.ed))=res:=v1
  replace v2:v.p=hdT v.ed v.l:=v2
  replace v3:v.l.length<v.k:=v3
  replace v4:v.l.length<=2000:=v4
  replace v5:v.fz<=v.cs.length:=v5
  replace v6:v.cs.length<=64:=v6
  obtain⟨k,hk⟩:∃k,v.k=k+1:=⟨v.k-1,by omega⟩;rw[hk] at v1;unfold pCls at v1;refine⟨λU=> ?_,λU=>⟨λw2=>⟨λJ=> ?_,λJ=> ?_⟩,λw2=> ?_⟩⟩
 ·have v0:v.cs= []:=v0 rfl
  rw[if_pos U,v0,if_neg (by simp)] at v1;have l6:=Z4 U;refine⟨⟨by omega,by omega⟩,λc x' hc a ha=> ?_,λer he=> ?_⟩
  ·subst ha
   rw[hc] at v1;have l7:=Zdg hc;refine .inr ⟨⟨[c],0,x'.1,x'.2.1,hdT x'.2.1 x'.1,k⟩,⟨λh=>(by cases h),v1,rfl,(by show x'.1.length<k;omega),(by show x'.1.length<=2000;omega),bb _,(by show 1<=64;decide)⟩,(by show k+1<=v.k;omega),rfl,⟨rfl,rfl,rfl,rfl,rfl,rfl,trivial⟩,⟨⟨rfl,λh=>h⟩,rfl,trivial⟩,⟨rfl,rfl,⟨rfl,rfl,trivial⟩,trivial⟩,⟨?_,rfl⟩,⟨rfl,trivial⟩,⟨rfl,trivial⟩,trivial⟩;rw[Zjg]
  ·rw[he] at v1
   subst v1;exact⟨⟨rfl,rfl,rfl,trivial⟩,rfl,rfl,trivial⟩
 ·rw[if_neg (by rw[U];decide)] at v1
  simp only[pEnd,if_pos w2] at v1;have J:0<v.l.tail.length:=by
   have:(0:Int)<v.l.tail.length:=by simpa only[decide_eq_true_eq] using J
   omega
  rw[if_pos J] at v1;intro a ha;subst ha;subst v1;exact⟨⟨rfl,rfl,rfl,trivial⟩,rfl,rfl,trivial⟩
 ·have v0:v.cs= []:=v0 rfl
  rw[if_neg (by rw[U];decide)] at v1;simp only[pEnd,if_pos w2] at v1;have J:¬0<v.l.tail.length:=by
   have:¬(0:Int)<v.l.tail.length:=by simpa only[decide_eq_false_iff_not] using J
   omega
  rw[if_neg J,v0] at v1;subst v1;exact⟨⟨rfl,rfl,rfl,trivial⟩,rfl,rfl,trivial⟩
 ·rw[if_neg (by rw[U];decide)] at v1
  simp only[pEnd,w2] at v1;subst v1;exact⟨⟨rfl,rfl,rfl,trivial⟩,rfl,rfl,trivial⟩
 ·have l6:=Z4 U
  rw[if_pos U] at v1;rw[dd,aW];refine⟨λR=> ?_,λR=>⟨by omega,⟨by omega,by omega⟩,λc x' hc=>⟨⟨aw _,by rw[Zk6];omega,by omega⟩,λa ha=> ?_⟩,λer he=> ?_⟩⟩
  ·have R:v.cs.length=64:=by
    have w5:(v.cs.length:Int)=64:=eq_of_beq R;omega
   rw[if_pos R] at v1;subst v1;exact⟨⟨rfl,rfl,rfl,trivial⟩,v2,rfl,trivial⟩
  ·subst ha
   have R:v.cs.length≠64:=λe=>by rw[e] at R;simp at R
   rw[if_neg R,hc] at v1;have l7:=Zdg hc;refine .inr ⟨⟨v.cs++ [c],mx2 v.fz v.cs.length,x'.1,x'.2.1,hdT x'.2.1 x'.1,k⟩,⟨λh=>(by cases h),v1,rfl,(by show x'.1.length<k;omega),(by show x'.1.length<=2000;omega),?_,?_⟩,(by show k+1<=v.k;omega),rfl,⟨rfl,rfl,rfl,rfl,rfl,rfl,trivial⟩,⟨⟨rfl,λh=>h⟩,rfl,trivial⟩,⟨rfl,rfl,⟨rfl,?_,trivial⟩,trivial⟩,⟨?_,rfl⟩,⟨rfl,trivial⟩,⟨rfl,trivial⟩,trivial⟩
   ·show mx2 v.fz v.cs.length<=(v.cs++ [c]).length
    rw[Zk6,aD];omega
   ·show(v.cs++ [c]).length<=64
    rw[aD];simp;omega
   ·show v.cs.length+1=(v.cs++ [c]).length
    rw[aD];rfl
   ·rw[Zjg]
  ·have R:v.cs.length≠64:=λe=>by rw[e] at R;simp at R
   rw[if_neg R,he] at v1;subst v1;exact⟨⟨rfl,rfl,rfl,trivial⟩,rfl,rfl,trivial⟩
 ·rw[if_neg (by rw[U];decide)] at v1
  simp only[pEnd,if_pos w2] at v1;have J:0<v.l.tail.length:=by
   have:(0:Int)<v.l.tail.length:=by simpa only[decide_eq_true_eq] using J
   omega
  rw[if_pos J] at v1;intro a ha;subst ha;subst v1;exact⟨⟨rfl,rfl,rfl,trivial⟩,rfl,rfl,trivial⟩
 ·rw[if_neg (by rw[U];decide)] at v1
  simp only[pEnd,if_pos w2] at v1;have J:¬0<v.l.tail.length:=by
   have:¬(0:Int)<v.l.tail.length:=by simpa only[decide_eq_false_iff_not] using J
   omega
  rw[if_neg J] at v1;subst v1;exact⟨⟨rfl,rfl,⟨by omega,aW⟩,trivial⟩,rfl,rfl,trivial⟩
 ·rw[if_neg (by rw[U];decide)] at v1
  simp only[pEnd,w2] at v1;subst v1;exact⟨⟨rfl,rfl,rfl,trivial⟩,rfl,rfl,trivial⟩
end
section
open Go
def decN(n:Int):List Nat:=(Lib.itoa n).map cJ
theorem Ztt(w:World):Ext w w:=⟨rfl,rfl,rfl,aw _,λ_ _=>rfl⟩
theorem Zzp(x:Int) (I:0<=x) (J:x<=18446744073709551615):PureC E 252 [.int ab .u64 x] (.int ab .i64 (Lib.bitLen x.toNat)):=by
 refine Uy λg w U hd=> ?_;obtain⟨u,rfl,R⟩:=Ydv hd;cases R;refine(Any.bits_Len64 Tryz.lays129 x w I J).mono ?_;rintro e w' ⟨rfl,rfl⟩;exact⟨_,rfl,.int _ _ _,Ztt _⟩
theorem Ya2(x:Nat) (h:x<=64):PureC E 251 [.int ab .i64 x] (.int ab .i64 (Lib.l10 x)):=by
 refine Uy λg w J hd=> ?_;obtain⟨u,rfl,I⟩:=Ydv hd;cases I;refine(Any.internal_strconv_log10Pow2 Tryz.lays317 x h w).mono ?_;rintro e R ⟨rfl,rfl⟩;exact⟨_,rfl,.int _ _ _,Ztt _⟩
theorem Yj0(l:List UInt8):toL ⟨l.toArray⟩=l.map cJ:=rfl
theorem Zzq(x:Nat) (h:x<100):PureC E 243 [.int ab .i64 x] (.str ab ((Lib.decDigits x).map cJ)):=by
 refine Uy λg w J hd=> ?_;obtain⟨u,rfl,I⟩:=Ydv hd;cases I;refine(Any.internal_strconv_small Tryz.lays283 x h w).mono ?_;rintro e R ⟨rfl,rfl⟩;exact⟨_,rfl,.str _ (Yj0 _),Ztt _⟩
noncomputable def dU64:Dc E Int:=dInt .u64
noncomputable def Ycb:Sum thy:=X6 (dA1 dU64) (λx=>0<=x.1/\x.1<=18446744073709551615) (λx=>Lib.bitLen x.1.toNat) λ(y:Nat)=> .int ab .i64 y
theorem Z50:SumOk E 252 Ycb:=Zw E_ok (Zc rfl) λx h=>Zzp x.1 h.1 h.2
noncomputable def Sl10:Sum thy:=X6 (dA1 dN) (λx=>0<=x.1/\x.1<=64) (λx=>Lib.l10 x.1.toNat) λ(y:Nat)=> .int ab .i64 y
theorem Ygk:SumOk E 251 Sl10:=Zw E_ok (Zc rfl) λx h=>by
 have:=Ya2 x.1.toNat (by omega);rw[show((x.1.toNat:Nat):Int)=x.1 by omega] at this;exact this
noncomputable def Fnd:Fns thy:=addS (addS F0 252 Ycb) 251 Sl10
abbrev Ygl(I:Nat):=
 ((↑I:Int)==(↑((0:Nat)+(1:Nat)+(1:Nat)+(1:Nat)+(1:Nat)+(1:Nat)+(1:Nat)+(1:Nat)+(1:Nat)+(1:Nat)+(1:Nat)+(1:Nat)+(1:Nat)+(1
 :Nat)+(1:Nat)+(1:Nat)+(1:Nat)+(1:Nat)+(1:Nat)+(1:Nat)):Int))
abbrev Ygm(I:Nat):=
 ((↑I:Int)==(↑((0:Nat)+(1:Nat)+(1:Nat)+(1:Nat)+(1:Nat)+(1:Nat)+(1:Nat)+(1:Nat)+(1:Nat)+(1:Nat)+(1:Nat)+(1:Nat)+(1:Nat)+(1
 :Nat)+(1:Nat)+(1:Nat)+(1:Nat)+(1:Nat)+(1:Nat)):Int))
abbrev Ygn(I:Nat):=
 ((↑I:Int)==(↑((0:Nat)+(1:Nat)+(1:Nat)+(1:Nat)+(1:Nat)+(1:Nat)+(1:Nat)+(1:Nat)+(1:Nat)+(1:Nat)+(1:Nat)+(1:Nat)+(1:Nat)+(1
 :Nat)+(1:Nat)+(1:Nat)+(1:Nat)+(1:Nat)):Int))
abbrev Ygo(I:Nat):=
 ((↑I:Int)==(↑((0:Nat)+(1:Nat)+(1:Nat)+(1:Nat)+(1:Nat)+(1:Nat)+(1:Nat)+(1:Nat)+(1:Nat)+(1:Nat)+(1:Nat)+(1:Nat)+(1:Nat)+(1
 :Nat)+(1:Nat)+(1:Nat)+(1:Nat)):Int))
abbrev Ygp(I:Nat):=
 ((↑I:Int)==(↑((0:Nat)+(1:Nat)+(1:Nat)+(1:Nat)+(1:Nat)+(1:Nat)+(1:Nat)+(1:Nat)+(1:Nat)+(1:Nat)+(1:Nat)+(1:Nat)+(1:Nat)+(1
 :Nat)+(1:Nat)+(1:Nat)):Int))
abbrev Ygq(I:Nat):=
 ((↑I:Int)==(↑((0:Nat)+(1:Nat)+(1:Nat)+(1:Nat)+(1:Nat)+(1:Nat)+(1:Nat)+(1:Nat)+(1:Nat)+(1:Nat)+(1:Nat)+(1:Nat)+(1:Nat)+(1
 :Nat)+(1:Nat)):Int))
abbrev Ygr(I:Nat):=
 ((↑I:Int)==(↑((0:Nat)+(1:Nat)+(1:Nat)+(1:Nat)+(1:Nat)+(1:Nat)+(1:Nat)+(1:Nat)+(1:Nat)+(1:Nat)+(1:Nat)+(1:Nat)+(1:Nat)+(1
 :Nat)):Int))
abbrev Ygs(I:Nat):=
 ((↑I:Int)==(↑((0:Nat)+(1:Nat)+(1:Nat)+(1:Nat)+(1:Nat)+(1:Nat)+(1:Nat)+(1:Nat)+(1:Nat)+(1:Nat)+(1:Nat)+(1:Nat)+(1:Nat)):
 Int))
abbrev Ygt(I:Nat):=
 ((↑I:Int)==(↑((0:Nat)+(1:Nat)+(1:Nat)+(1:Nat)+(1:Nat)+(1:Nat)+(1:Nat)+(1:Nat)+(1:Nat)+(1:Nat)+(1:Nat)+(1:Nat)):Int))
abbrev Ygu(I:Nat):=
 ((↑I:Int)==(↑((0:Nat)+(1:Nat)+(1:Nat)+(1:Nat)+(1:Nat)+(1:Nat)+(1:Nat)+(1:Nat)+(1:Nat)+(1:Nat)+(1:Nat)):Int))
abbrev Z51(I:Nat):=
 ((↑I:Int)==(↑((0:Nat)+(1:Nat)+(1:Nat)+(1:Nat)+(1:Nat)+(1:Nat)+(1:Nat)+(1:Nat)+(1:Nat)+(1:Nat)):Int))
abbrev Z52(I:Nat):=
 ((↑I:Int)==(↑((0:Nat)+(1:Nat)+(1:Nat)+(1:Nat)+(1:Nat)+(1:Nat)+(1:Nat)+(1:Nat)+(1:Nat)):Int))
abbrev Z53(I:Nat):=
 ((↑I:Int)==(↑((0:Nat)+(1:Nat)+(1:Nat)+(1:Nat)+(1:Nat)+(1:Nat)+(1:Nat)+(1:Nat)):Int))
abbrev Z54(I:Nat):=
 ((↑I:Int)==(↑((0:Nat)+(1:Nat)+(1:Nat)+(1:Nat)+(1:Nat)+(1:Nat)+(1:Nat)):Int))
abbrev qBZ1(I:Nat):=((↑I:Int)+(1:Int))
abbrev qBZ2(I:Nat):=((↑I:Int)+(0:Int))
abbrev qBZ3:=(1:Nat)
abbrev qBZ4:=(0:Nat)
abbrev qBZ5:=(↑(qBZ4+qBZ3+qBZ3+qBZ3+qBZ3+qBZ3):Int)
theorem Ygv(u:Int) (v:Int):Zj E Fnd (vc E Fnd 400) 244 [.int ab .u64 u] hp0 0 (λr=>ret E (patch hp0 0 r) r.v (.int ab .i64 v))=(
 ((0:Int)<=u/\u<=(18446744073709551615:Int))/\∀(y:Nat),y=Lib.bitLen (ag u)->((0:Int)<=(↑y:Int)/\(↑y:Int)<=(64:Int))/\∀(I:Nat),I=Lib.l10 (ag (↑y:Int))->(0:Int)<=(↑I:Int)/\(↑I:Int)+(1:Int)<=(↑(20:Nat):Int)/\(((↑I:Int)==(↑qBZ4:Int))=ac->(decide (u>=(1:Int))=ac->wr af (qBZ1 I)=v)/\(decide (u>=(1:Int))=ab->wr af (qBZ2 I)=v))/\(((↑I:Int)==(↑qBZ4:Int))=ab->(((↑I:Int)==(↑(qBZ4+qBZ3):Int))=ac->(decide (u>=(10:Int))=ac->wr af (qBZ1 I)=v)/\(decide (u>=(10:Int))=ab->wr af (qBZ2 I)=v))/\(((↑I:Int)==(↑(qBZ4+qBZ3):Int))=ab->(((↑I:Int)==(↑(qBZ4+qBZ3+qBZ3):Int))=ac->(decide (u>=(100:Int))=ac->wr af (qBZ1 I)=v)/\(decide (u>=(100:Int))=ab->wr af (qBZ2 I)=v))/\(((↑I:Int)==(↑(qBZ4+qBZ3+qBZ3):Int))=ab->(((↑I:Int)==(↑(qBZ4+qBZ3+qBZ3+qBZ3):Int))=ac->(decide (u>=(1000:Int))=ac->wr af (qBZ1 I)=v)/\(decide (u>=(1000:Int))=ab->wr af (qBZ2 I)=v))/\(((↑I:Int)==(↑(qBZ4+qBZ3+qBZ3+qBZ3):Int))=ab->(((↑I:Int)==(↑(qBZ4+qBZ3+qBZ3+qBZ3+qBZ3):Int))=ac->(decide (u>=(10000:Int))=ac->wr af (qBZ1 I)=v)/\(decide (u>=(10000:Int))=ab->wr af (qBZ2 I)=v))/\(((↑I:Int)==(↑(qBZ4+qBZ3+qBZ3+qBZ3+qBZ3):Int))=ab->(((↑I:Int)==qBZ5)=ac->(decide (u>=(100000:Int))=ac->wr af (qBZ1 I)=v)/\(decide (u>=(100000:Int))=ab->wr af (qBZ2 I)=v))/\(((↑I:Int)==qBZ5)=ab->((Z54 I)=ac->(decide (u>=(1000000:Int))=ac->wr af (qBZ1 I)=v)/\(decide (u>=(1000000:Int))=ab->wr af (qBZ2 I)=v))/\((Z54 I)=ab->((Z53 I)=ac->(decide (u>=(10000000:Int))=ac->wr af (qBZ1 I)=v)/\(decide (u>=(10000000:Int))=ab->wr af (qBZ2 I)=v))/\((Z53 I)=ab->((Z52 I)=ac->(decide (u>=(100000000:Int))=ac->wr af (qBZ1 I)=v)/\(decide (u>=(100000000:Int))=ab->wr af (qBZ2 I)=v))/\((Z52 I)=ab->((Z51 I)=ac->(decide (u>=(1000000000:Int))=ac->wr af (qBZ1 I)=v)/\(decide (u>=(1000000000:Int))=ab->wr af (qBZ2 I)=v))/\((Z51 I)=ab->((Ygu I)=ac->(decide (u>=(10000000000:Int))=ac->wr af (qBZ1 I)=v)/\(decide (u>=(10000000000:Int))=ab->wr af (qBZ2 I)=v))/\((Ygu I)=ab->((Ygt I)=ac->(decide (u>=(100000000000:Int))=ac->wr af (qBZ1 I)=v)/\(decide (u>=(100000000000:Int))=ab->wr af (qBZ2 I)=v))/\((Ygt I)=ab->((Ygs I)=ac->(decide (u>=(1000000000000:Int))=ac->wr af (qBZ1 I)=v)/\(decide (u>=(1000000000000:Int))=ab->wr af (qBZ2 I)=v))/\((Ygs I)=ab->((Ygr I)=ac->(decide (u>=(10000000000000:Int))=ac->wr af (qBZ1 I)=v)/\(decide (u>=(10000000000000:Int))=ab->wr af (qBZ2 I)=v))/\((Ygr I)=ab->((Ygq I)=ac->(decide (u>=(100000000000000:Int))=ac->wr af (qBZ1 I)=v)/\(decide (u>=(100000000000000:Int))=ab->wr af (qBZ2 I)=v))/\((Ygq I)=ab->((Ygp I)=ac->(decide (u>=(1000000000000000:Int))=ac->wr af (qBZ1 I)=v)/\(decide (u>=(1000000000000000:Int))=ab->wr af (qBZ2 I)=v))/\((Ygp I)=ab->((Ygo I)=ac->(decide (u>=(10000000000000000:Int))=ac->wr af (qBZ1 I)=v)/\(decide (u>=(10000000000000000:Int))=ab->wr af (qBZ2 I)=v))/\((Ygo I)=ab->((Ygn I)=
ac->(decide (u>=(100000000000000000:Int))=ac->wr af (qBZ1 I)=v)/\(decide (u>=(100000000000000000:Int))=ab->wr af (qBZ2 I)=v))/\((Ygn I)=ab->((Ygm I)=ac->(decide (u>=(1000000000000000000:Int))=ac->wr af (qBZ1 I)=v)/\(decide (u>=(1000000000000000000:Int))=ab->wr af (qBZ2 I)=v))/\((Ygm I)=ab->((Ygl I)=ac->(decide (u>=(10000000000000000000:Int))=ac->wr af (qBZ1 I)=v)/\(decide (u>=(10000000000000000000:Int))=ab->wr af (qBZ2 I)=v))/\((Ygl I)=ab->True))))))))))))))))))))):=by kernel_rfl
theorem Yj1:FnsOk E Fnd:=Zb (Zb F0_ok Z50) Ygk
theorem blA:∀f x,Lib.bitLenAux f x<=f
 |0,x=>aw _
 |f+1,x=>by
  unfold Lib.bitLenAux
  split
  ·exact bb _
  ·have:=blA f (x/2)
   omega
theorem bl64(x:Nat):Lib.bitLen x<=64:=blA 64 x
theorem Ygw(u:Nat) (R:1<=u) (h2:u<18446744073709551616):PureC E 244 [.int ab .u64 (u:Int)] (.int ab .i64 (Lib.nDigits u)):=by
 refine Za E_ok (Zd E_ok Yj1 400) ?_;rw[Ygv];delta qBZ1 qBZ2 qBZ3 qBZ4 qBZ5;unfold Z54 Z53 Z52 Z51 Ygu Ygt Ygs Ygr Ygq Ygp Ygo Ygn Ygm Ygl;refine⟨⟨by omega,by omega⟩,λy hy=> ?_⟩;have U:y=Lib.bitLen u:=by rw[hy,show ag (u:Int)=u by omega]
 obtain⟨J,k2⟩:=Lib.numDigits_eq u R h2;have a0:Lib.bitLen u<=64:=bl64 u;refine⟨⟨by omega,by omega⟩,λt I=> ?_⟩;have I:t=Lib.l10 (Lib.bitLen u):=by rw[I,show ag (y:Int)=y by omega,U]
 rw[<-I] at J k2;generalize Lib.nDigits u=d at*;clear I U hy a0;refine⟨by omega,by omega,?_⟩;have hc:t=0\/t=1\/t=2\/t=3\/t=4\/t=5\/t=6\/t=7\/t=8\/t=9\/t=10\/t=11\/t=12\/t=13\/t=14\/t=15\/t=16\/t=17\/t=18\/t=19:=by omega
 have w:∀n:Int,0<=n->n<=20->wr .i64 n=n:=λn h0 R=>wr64 (by omega) (by omega);rcases hc with rfl|rfl|rfl|rfl|rfl|rfl|rfl|rfl|rfl|rfl|rfl|rfl|rfl|rfl|rfl|rfl|rfl|rfl|rfl|rfl
 all_goals
  simp;refine⟨λh=> ?_,λh=> ?_⟩
  ·rw[w _ (by decide) (by decide)]
   rw[if_pos (by omega)] at J;omega
  ·rw[w _ (by decide) (by decide)]
   rw[if_neg (by omega)] at J;omega
end
section
open Go
def Wk(op:Int):Int:=if op=3\/op=4 then 1 else if op=5 then 2 else 3
def idxI(v:Int):Nat->List Int->Int
 |_,[]=> -1
 |k,x::r=>if v=x then(k:Int) else idxI v (k+1) r
def txU(d:List Int):List (List Nat):=
 (if 0<=idxI 1 0 d then[WK.un.words.getD (idxI 1 0 d).toNat []] else[])++(if 0<=idxI (-1) 0 d then[sPer,WK.un.words.getD (idxI (-1) 0 d).toNat []] else[])
def txS:List (List (List Nat))->List (List Nat)->List (List Nat)
 |t::r,s::I=>t++s::txS r I
 |_,_=> []
def par(op least:Int) (t:List (List Nat)):List (List Nat):=if least<=Wk op then t else Zf0::(t++ [Vs])
def sgnO(op:Int):List Nat:=if op=3 then Zsz else if op=4 then Zkv else sMul
def txN(op n:Int) (u:List Int) (os:List Int) (ts:List (List (List Nat))):List (List Nat):=
 if op=1 then decN n::txU u
 else if op=2 then[WK.at_.words.getD n.toNat []]
 else if op=11 then sIf::Zf0::txS ts [Zri,V5,V5,Vs]
 else if op=3\/op=4\/op=5 then par (os.getD 0 0) (Wk op) (ts.getD 0 [])++sgnO op::par (os.getD 1 0) (Wk op+1) (ts.getD 1 [])
 else WK.ca.words.getD (op-6).toNat []::Zf0::txS ts [V5,Vs]
mutual
def txX:Ex->List (List Nat)
 | .mk op n d0 d1 d2 d3 l=>txN op n [d0,d1,d2,d3] (l.map aJ) (txL l)
def txL:List Ex->List (List (List Nat))
 | []=> []
 |x::r=>txX x::txL r
end
def sPay:List Nat:= [112,97,121]
def Ydr:List Nat:= [59]
def Zsd:List Nat:= [116,97,114,105,102,102]
def sFor:List Nat:= [102,111,114]
def sLb:List Nat:= [123]
def sRb:List Nat:= [125]
def txW(w:Tst):List (List Nat):=WK.at_.words.getD w.attr.toNat []::(if w.low=w.high then[sIs,decN w.low] else[sIn,decN w.low,Zrm,decN w.high])
def txTs:Nat->List Tst->List (List Nat)
 |_,[]=> []
 |i,w::r=>(if i=0 then Zls else sAnd)::(txW w++txTs (i+1) r)
def txC(c:Cls):List (List Nat):=V1::c.name::(txTs 0 c.when_++sPay::(txX c.pay++ [Ydr]))
def txCs:List Cls->List (List Nat)
 | []=> []
 |c::r=>txC c++txCs r
def Zmh(t:Tar):List (List Nat):=Zsd::t.name::sFor::WK.ki.words.getD (t.for_-1).toNat []::sLb::(txCs t.clauses++ [sRb])
def Zcc:List (List Nat)->List Nat
 | []=> []
 | [w]=>w
 |w::r=>w++32::Zcc r
noncomputable def Uq(t:Tar):List Nat×Int:=if Ya t≠0 then([],Ya t) else if 2000<(Zcc (Zmh t)).length then([],2) else(Zcc (Zmh t),0)
theorem Zkn{w:List Nat} {r:List (List Nat)} (h:r≠ []):Zcc (w::r)=w++32::Zcc r:=by
 cases r with
 |nil=>exact absurd rfl h
 |cons x r=>rfl
def SepL(s t:List Nat):Prop:=(∀c,s.getLast? =ae c->isLD c=ab)\/(∀c,t.head? =ae c->isLD c=ab)
def atT(p:Nat) (t:Tok):Tok:=⟨t.kind,t.text,t.n,p⟩
def TokW(w:List Nat):Prop:=(tokP w).2=0/\(tokP w).1.text=w/\w≠ []
theorem Zc3{f:Int->Bool}:∀{w:List Nat},(∀c∈w,f c=ac)->spn f w=w.length
 | [],_=>rfl
 |c::r,h=>by
  unfold spn
  rw[if_pos (h c (by simp)),Zc3 λc I=>h c (by simp[I])]
  rfl
theorem SepL.tail{w s t:List Nat} (J:s≠ []) (h:SepL (w++s) t):SepL s t:=by
 rcases h with h|h
 ·refine .inl λc I=>h c ?_
  rw[List.getLast?_append,I];rfl
 ·exact .inr h
def tkS(w:List Nat):Tok:=atT 0 (tokP w).1
def sT(t:Tok):Tok:=atT 0 t
end
section
open Go
def ndZ(u:Int) (k:Res thy->Prop):List Int->Prop
 | []=>True
 |j::r=>((Lib.nDigits u.toNat:Int)=j->k (quiet [] (.int ac .i64 j)))/\ndZ u k r
noncomputable def SndZ:Sum thy:=λargs _ _ k=>
 match args with
 | [.int _ .u64 u]=>(1<=u/\u<10000000000000000)/\ndZ u k [1,2,3,4,5,6,7,8,9,10,11,12,13,14,15,16]
 |_=>False
noncomputable def SsmZ:Sum thy:=X6 (dA1 dN) (λx=>0<=x.1/\x.1<100) (λx=>(Lib.itoa x.1).map cJ) λy=> .str ab y
noncomputable def FitZ:Fns thy:=addS (addS F0 244 SndZ) 243 SsmZ
def smZ:List Nat:= [48,48,48,49,48,50,48,51,48,52,48,53,48,54,48,55,48,56,48,57,49,48,49,49,49,50,49,51,49,52,49,53,49,54,49,55,49,56,49,57,50,48,50,49,50,50,50,51,50,52,50,53,50,54,50,55,50,56,50,57,51,48,51,49,51,50,51,51,51,52,51,53,51,54,51,55,51,56,51,57,52,48,52,49,52,50,52,51,52,52,52,53,52,54,52,55,52,56,52,57,53,48,53,49,53,50,53,51,53,52,53,53,53,54,53,55,53,56,53,57,54,48,54,49,54,50,54,51,54,52,54,53,54,54,54,55,54,56,54,57,55,48,55,49,55,50,55,51,55,52,55,53,55,54,55,55,55,56,55,57,56,48,56,49,56,50,56,51,56,52,56,53,56,54,56,55,56,56,56,57,57,48,57,49,57,50,57,51,57,52,57,53,57,54,57,55,57,56,57,57]
def pZ(b:Int) (K:Nat->Nat->Prop):Prop:=0<=wr .u32 (b+1)/\wr .u32 (b+1)+1<=(smZ.length:Int)/\∀x:Nat,smZ[(wr .u32 (b+1)).toNat]? =ae x->0<=b/\b+1<=(smZ.length:Int)/\∀y:Nat,smZ[b.toNat]? =ae y->K (ag (x:Int)%256) (ag (y:Int)%256)
def e8Z(u:Int) (L:List Nat) (K:List Nat->Prop):Prop:=
 pZ (wr .u32 (eE (eE (wr .u32 (eE u 100000000)) 10000) 100*2)) λa b=>
 pZ (wr .u32 (wr .u32 (dj (eE (wr .u32 (eE u 100000000)) 10000) 100)*2)) λc d=>
 pZ (wr .u32 (eE (wr .u32 (dj (wr .u32 (eE u 100000000)) 10000)) 100*2)) λe f=>
 pZ (wr .u32 (wr .u32 (dj (wr .u32 (dj (wr .u32 (eE u 100000000)) 10000)) 100)*2)) λg h=>K (h::g::f::e::d::c::b::a::L)
def e4Z(v:Int) (L:List Nat) (K:List Nat->Prop):Prop:=
 pZ (wr .u32 (eE (eE v 10000) 100*2)) λa b=>
 pZ (wr .u32 (wr .u32 (dj (eE v 10000) 100)*2)) λc d=>K (d::c::b::a::L)
def e2Z(v:Int) (L:List Nat) (K:List Nat->Prop):Prop:=pZ (wr .u32 (eE v 100*2)) λa b=>K (b::a::L)
def e1Z(v:Int) (L:List Nat) (K:List Nat->Prop):Prop:=K (ag (wr .u8 (wr .u32 (48+v)))%256::L)
def loZ:Nat->Int->List Nat->(List Nat->Prop)->Prop
 |0,_,L,K=>K L
 |1,v,L,K=>e1Z v L K
 |2,v,L,K=>e2Z v L K
 |3,v,L,K=>e2Z v L λL=>e1Z (wr .u32 (dj v 100)) L K
 |4,v,L,K=>e4Z v L K
 |5,v,L,K=>e4Z v L λL=>e1Z (wr .u32 (dj v 10000)) L K
 |6,v,L,K=>e4Z v L λL=>e2Z (wr .u32 (dj v 10000)) L K
 |7,v,L,K=>e4Z v L λL=>e2Z (wr .u32 (dj v 10000)) L λL=>e1Z (wr .u32 (dj (wr .u32 (dj v 10000)) 100)) L K
 |_,_,_,_=>False
def hiZ(j:Nat) (u:Int) (L:List Nat) (K:List Nat->Prop):Prop:=
 if j<8 then loZ j (wr .u32 u) L K
 else e8Z u L λL=>if j<16 then loZ (j-8) (wr .u32 (wr .u64 (dj u 100000000))) L K else e8Z (wr .u64 (dj u 100000000)) L K
def finZ(n:Int) (v:List Nat) (L:List Nat):Prop:=(decide (n<0)=ac->ag 45%256::L=v)/\(decide (n<0)=ab->L=v)
def allZ(u n:Int) (v:List Nat):List Nat->Prop
 | []=>True
 |j::r=>((Lib.nDigits u.toNat:Int)=j->hiZ j u [] (finZ n v))/\allZ u n v r
def itZ(u n:Int) (v:List Nat):Prop:=(1<=u/\u+1<=10000000000000000)/\allZ u n v [1,2,3,4,5,6,7,8,9,10,11,12,13,14,15,16]
theorem Zyr(n:Int) (v:List Nat):Zj E FitZ (vc E FitZ 2000) 158 [.int ab .i64 n] hp0 0 (λr=>ret E (patch hp0 0 r) r.v (.str ab v))=(
 ∃(Q:Bool->Prop),((decide (0<=n)=ac->(decide (n<100)=ac->Q ac)/\(decide (n<100)=ab->Q ab))/\(decide (0<=n)=ab->Q ab))/\(Q ac->(0<=n/\n+1<=100)/\∀(y:List Nat),y=List.map cJ (Lib.itoa n)->y=v)/\
  (Q ab->(decide (n<0)=ac->itZ (wr .u64 (0-wr .u64 n)) n v)/\(decide (n<0)=ab->itZ (wr .u64 n) n v))):=by kernel_rfl
theorem Z4s{u:Int} {k:Res thy->Prop}:∀{l:List Int},ndZ u k l->∀j∈l,(Lib.nDigits u.toNat:Int)=j->k (quiet [] (.int ac .i64 j))
 | [],_,j,I,_=>by cases I
 |x::r,h,j,I,e=>by
  rcases aM.1 I with rfl|I
  ·exact h.1 e
  ·exact Z4s h.2 j I e
theorem Z4t:∀(k u:Nat),u<10^(k+1)->Lib.nDigits u<=k+1
 |0,u,h=>by rw[Lib.nDigits_small (by simpa using h)];exact aw _
 |k+1,u,h=>by
  by_cases I:u<10
  ·rw[Lib.nDigits_small I];omega
  ·rw[Lib.nDigits_big I]
   rw[Nat.pow_succ] at h
   have:=Z4t k (u/10) (by omega)
   omega
theorem in16(d:Nat) (I:1<=d) (J:d<=16):(d:Int)∈ [(1:Int),2,3,4,5,6,7,8,9,10,11,12,13,14,15,16]:=by
 have:d=1\/d=2\/d=3\/d=4\/d=5\/d=6\/d=7\/d=8\/d=9\/d=10\/d=11\/d=12\/d=13\/d=14\/d=15\/d=16:=by omega
 rcases this with rfl|rfl|rfl|rfl|rfl|rfl|rfl|rfl|rfl|rfl|rfl|rfl|rfl|rfl|rfl|rfl<;>decide
theorem Yfk:SumOk E 244 SndZ:=by
 have U:SumOk E 244 (X6 (dA1 dU64) (λx=>1<=x.1/\x.1<10000000000000000) (λx=>Lib.nDigits x.1.toNat) λ(y:Nat)=> .int ac .i64 y):=Zw E_ok (Zc rfl) λx h=>by
  have:=Ygw x.1.toNat (by omega) (by omega);rw[show((x.1.toNat:Nat):Int)=x.1 by omega] at this;intro g w a0 hI hd;refine(this g w a0 hI hd).mono ?_;rintro en w' ⟨u,he,g',J,R,h3⟩;cases h3;exact⟨_,he,g',J,R,.int _ _ _⟩
 refine⟨U.good,λargs h i k hD I=> ?_⟩;unfold SndZ at I;split at I
 case h_2=>exact I.elim
 rename_i l u;obtain⟨⟨J,R⟩,I⟩:=I;refine U.ok _ h i k hD ⟨⟨J,R⟩,λy hy=> ?_⟩;subst hy;have hn:=Z4t 15 u.toNat (by show u.toNat<10000000000000000;omega);have hp:=Lib.nDigits_pos u.toNat;refine Z4s I _ (in16 _ hp hn) rfl
theorem Yfl:SumOk E 243 SsmZ:=Zw E_ok (Zc rfl) λx h=>by
 have:=Zzq x.1.toNat (by omega);rw[show((x.1.toNat:Nat):Int)=x.1 by omega] at this;have e:Lib.itoa x.1=Lib.decDigits x.1.toNat:=by unfold Lib.itoa;rw[if_neg (by omega)]
 rw[e];exact this
theorem Yfm:FnsOk E FitZ:=Zb (Zb F0_ok Yfk) Yfl
def smVZ(i:Nat):Nat:=if i%2=0 then 48+i/2/10 else 48+i/2%10
theorem Z4u:∀i,i<200->smZ[i]? =ae (smVZ i):=by decide+kernel
theorem Yfn:smZ.length=200:=by decide+kernel
theorem Yjh(x:Int):wr .u64 x=x%18446744073709551616:=rfl
theorem Zfe(x:Int):wr .u32 x=x%4294967296:=rfl
theorem wuZ8(x:Int):wr .u8 x=x%256:=rfl
theorem Zs8{m:Nat} (hm:m<100) {b:Int} (hb:b=((m*2:Nat):Int)) {K:Nat->Nat->Prop} (h:K (48+m%10) (48+m/10)):pZ b K:=by
 have e1:wr .u32 (b+1)=((m*2+1:Nat):Int):=by rw[Zfe];omega
 unfold pZ;rw[e1,Yfn,bx];refine⟨by omega,by omega,λx I=>⟨by omega,by omega,λy J=> ?_⟩⟩;rw[Z4u _ (by omega)] at I;rw[hb,bx,Z4u _ (by omega)] at J;cases I;cases J;rw[bx,bx];have R:smVZ (m*2+1)%256=48+m%10:=by unfold smVZ;rw[if_neg (by omega)];omega
 have U:smVZ (m*2)%256=48+m/10:=by unfold smVZ;rw[if_pos (by omega)];omega
 rw[R,U];exact h
def dgZ(u j:Nat):Nat:=48+u/10^j%10
theorem Ybw(u:Nat) {L:List Nat} {K:List Nat->Prop} (h:K (dgZ u 7::dgZ u 6::dgZ u 5::dgZ u 4::dgZ u 3::dgZ u 2::dgZ u 1::dgZ u 0::L)):e8Z (u:Int) L K:=by
 refine Zs8 (m:=u%100000000%10000%100) (by omega) (by simp(disch:=omega) only[Zfe,cU,cw];omega) ?_;refine Zs8 (m:=u%100000000%10000/100) (by omega) (by simp(disch:=omega) only[Zfe,cU,cw];omega) ?_;refine Zs8 (m:=u%100000000/10000%100) (by omega) (by simp(disch:=omega) only[Zfe,cU,cw];omega) ?_;refine Zs8 (m:=u%100000000/10000/100) (by omega) (by simp(disch:=omega) only[Zfe,cU,cw];omega) ?_
 refine Eq.mp (congrArg K ?_) h;simp only[dgZ,cZ,and_true,cI]
 repeat' apply aA
 all_goals omega
theorem Zvt(v:Nat) {L:List Nat} {K:List Nat->Prop} (h:K (dgZ v 3::dgZ v 2::dgZ v 1::dgZ v 0::L)):e4Z (v:Int) L K:=by
 refine Zs8 (m:=v%10000%100) (by omega) (by simp(disch:=omega) only[Zfe,cU,cw];omega) ?_;refine Zs8 (m:=v%10000/100) (by omega) (by simp(disch:=omega) only[Zfe,cU,cw];omega) ?_;refine Eq.mp (congrArg K ?_) h;simp only[dgZ,cZ,and_true,cI]
 repeat' apply aA
 all_goals omega
theorem Zvu(v:Nat) {L:List Nat} {K:List Nat->Prop} (h:K (dgZ v 1::dgZ v 0::L)):e2Z (v:Int) L K:=by
 refine Zs8 (m:=v%100) (by omega) (by simp(disch:=omega) only[Zfe,cU,cw];omega) ?_;refine Eq.mp (congrArg K ?_) h;simp only[dgZ,cZ,and_true,cI]
 repeat' apply aA
 all_goals omega
theorem Zvv(v:Nat) (I:v<10) {L:List Nat} {K:List Nat->Prop} (h:K (dgZ v 0::L)):e1Z (v:Int) L K:=by
 have e:ag (wr .u8 (wr .u32 (48+(v:Int))))%256=dgZ v 0:=by unfold dgZ;rw[wuZ8,Zfe];simp only[cI];omega
 unfold e1Z;rw[e];exact h
theorem q2Z(v:Nat) (I:v<10000):wr .u32 (dj (v:Int) 100)=((v/100:Nat):Int):=by simp(disch:=omega) only[Zfe,cw];omega
theorem q4Z(v:Nat) (I:v<4294967296):wr .u32 (dj (v:Int) 10000)=((v/10000:Nat):Int):=by simp(disch:=omega) only[Zfe,cw];omega
def dlZ(u j:Nat):List Nat:=(cK j).map λt=>dgZ u (j-1-t)
theorem Ybx:∀(j:Nat),j<=7->∀(v:Nat),v<10^j->∀{L:List Nat} {K:List Nat->Prop},K (dlZ v j++L)->loZ j (v:Int) L K
 |0,_,v,_,L,K,h=>h
 |1,_,v,I,L,K,h=>Zvv v (by simpa using I) h
 |2,_,v,_,L,K,h=>Zvu v h
 |3,_,v,I,L,K,h=>by
  show e2Z (v:Int) L λL=>e1Z (wr .u32 (dj (v:Int) 100)) L K
  refine Zvu v ?_
  rw[q2Z v (by simp only[cI] at I;omega)]
  refine Zvv _ (by simp only[cI] at I;omega) (Eq.mp (congrArg K ?_) h)
  simp only[dlZ,dgZ,cK,eS,cg,dI,da,ee,cZ,and_true,gG,cI]
  repeat' apply aA
  all_goals omega
 |4,_,v,_,L,K,h=>Zvt v h
 |5,_,v,I,L,K,h=>by
  show e4Z (v:Int) L λL=>e1Z (wr .u32 (dj (v:Int) 10000)) L K
  refine Zvt v ?_
  rw[q4Z v (by simp only[cI] at I;omega)]
  refine Zvv _ (by simp only[cI] at I;omega) (Eq.mp (congrArg K ?_) h)
  simp only[dlZ,dgZ,cK,eS,cg,dI,da,ee,cZ,and_true,gG,cI]
  repeat' apply aA
  all_goals omega
 |6,_,v,I,L,K,h=>by
  show e4Z (v:Int) L λL=>e2Z (wr .u32 (dj (v:Int) 10000)) L K
  refine Zvt v ?_
  rw[q4Z v (by simp only[cI] at I;omega)]
  refine Zvu _ (Eq.mp (congrArg K ?_) h)
  simp only[dlZ,dgZ,cK,eS,cg,dI,da,ee,cZ,and_true,gG,cI]
  repeat' apply aA
  all_goals omega
 |7,_,v,I,L,K,h=>by
  show e4Z (v:Int) L λL=>e2Z (wr .u32 (dj (v:Int) 10000)) L λL=>e1Z (wr .u32 (dj (wr .u32 (dj (v:Int) 10000)) 100)) L K
  refine Zvt v ?_
  rw[q4Z v (by simp only[cI] at I;omega)]
  refine Zvu _ ?_
  rw[q2Z _ (by simp only[cI] at I;omega)]
  refine Zvv _ (by simp only[cI] at I;omega) (Eq.mp (congrArg K ?_) h)
  simp only[dlZ,dgZ,cK,eS,cg,dI,da,ee,cZ,and_true,gG,cI]
  repeat' apply aA
  all_goals omega
 |j+8,J,_,_,_,_,_=>by omega
theorem Ylb(u j:Nat):dlZ u (j+8)=dlZ (u/100000000) j++ [dgZ u 7,dgZ u 6,dgZ u 5,dgZ u 4,dgZ u 3,dgZ u 2,dgZ u 1,dgZ u 0]:=by
 unfold dlZ;rw[List.range_add,fD]
 congr 1
 ·refine ji λt I=> ?_
  have I:=List.mem_range.1 I;unfold dgZ;rw[Nat.div_div_eq_div_mul,show(100000000:Nat)=10^8 by decide,<-kA,show 8+(j-1-t)=j+8-1-t by omega]
 ·simp only[cK,eS,cg,dI]
  rw[show j+8-1-(j+0)=7 by omega,show j+8-1-(j+1)=6 by omega,show j+8-1-(j+2)=5 by omega,show j+8-1-(j+3)=4 by omega,show j+8-1-(j+4)=3 by omega,show j+8-1-(j+5)=2 by omega,show j+8-1-(j+6)=1 by omega,show j+8-1-(j+7)=0 by omega]
theorem Yji(j u:Nat) (hj:j<=16) (I:u<10^j) (a1:u<18446744073709551616) {K:List Nat->Prop} (h:K (dlZ u j)):hiZ j (u:Int) [] K:=by
 unfold hiZ;have J:wr .u64 (dj (u:Int) 100000000)=((u/100000000:Nat):Int):=by simp(disch:=omega) only[Yjh,cw];omega
 split
 ·rename_i U
  have R:u<10000000:=bZ I (gu (by decide) (by omega:j<=7));rw[show wr .u32 (u:Int)=(u:Int) by rw[Zfe];omega];exact Ybx j (by omega) u I (by rw[List.append_nil];exact h)
 ·rename_i U
  obtain⟨k,rfl⟩:∃k,j=k+8:=⟨j-8,by omega⟩;have hd:u/100000000<10^k:=by
   rw[kA] at I;exact Nat.div_lt_of_lt_mul (by rw[Nat.mul_comm];exact I)
  rw[Ylb] at h;refine Ybw u ?_;split
  ·rename_i a0
   rw[J,Nat.add_sub_cancel];have R:u/100000000<10000000:=bZ hd (gu (by decide) (by omega:k<=7));rw[show wr .u32 ((u/100000000:Nat):Int)=((u/100000000:Nat):Int) by rw[Zfe];omega];exact Ybx k (by omega) _ hd h
  ·obtain rfl:k=8:=by omega
   rw[J];refine Ybw _ ?_;exact h
theorem Z4v(u k:Nat) (h:Lib.nDigits u=k):(Lib.decDigits u).map cJ=dlZ u k:=by
 rw[Lib.decDigits_eq,List.map_map,h];refine ji λt _=> ?_;show(Lib.dg u (k-1-t)).toNat=_;unfold Lib.dg dgZ;rw[gF];omega
theorem Z4w{u n:Int} {v:List Nat}:∀{l:List Nat},(∀j∈l,Lib.nDigits u.toNat=j->hiZ j u [] (finZ n v))->allZ u n v l
 | [],_=>trivial
 |j::r,h=>⟨λe=>h j List.mem_cons_self (Int.ofNat.inj e),Z4w λi hi=>h i (List.mem_cons_of_mem _ hi)⟩
theorem Zys(u:Nat) (hu:u<10000000000000000):PureC E 158 [.int ab .i64 (u:Int)] (.str ab (decN u)):=by
 refine Za E_ok (Zd E_ok Yfm 2000) ?_;rw[Zyr];have a0:decN (u:Int)=(Lib.decDigits u).map cJ:=by
  unfold decN Lib.itoa;rw[if_neg (by omega)];rfl
 by_cases hs:u<100
 ·refine⟨λb=>b=ac,⟨λ_=>⟨λ_=>rfl,λh=> ?_⟩,λh=> ?_⟩,λ_=>⟨⟨by omega,by omega⟩,λy hy=>hy⟩,λh=>by cases h⟩
  ·exact absurd h (by simp;omega)
  ·exact absurd h (by simp)
 refine⟨λb=>b=ab,⟨λ_=>⟨λh=> ?_,λ_=>rfl⟩,λ_=>rfl⟩,λh=>(by cases h),λ_=>⟨λh=> ?_,λ_=> ?_⟩⟩
 ·exact absurd h (by simp;omega)
 ·exact absurd h (by simp)
 have U:wr .u64 (u:Int)=u:=by rw[Yjh];omega
 rw[U];refine⟨⟨by omega,by omega⟩,Z4w λj _ I=> ?_⟩;rw[bx] at I;have R:=Lib.lt_pow_nDigits u;have J:=Z4t 15 u hu;rw[I] at R J;refine Yji j u J R (by omega) ⟨λh=> ?_,λ_=> ?_⟩
 ·exact absurd h (by simp)
 ·rw[a0,Z4v u j I]
theorem Z4x(u:Nat) (I:u<10000000000000):PureC E 158 [.int ab .i64 (u:Int)] (.str ab (decN u)):=Zys u (by omega)
end
section
open Go.RowKit
section
variable {Y:Thy} {E:Eng Y}
def celS(E:Eng Y) (th:Y.Th) (I:Option (List (Y.dom th)×Nat)) (c:Nat):SV Y:=
 match I with
 |some p=> .sl c 0 p.1.length (E.w th) ar
 |none=> .val (.slice ar 0 0)
def hpP(E:Eng Y) (th:Y.Th) (I:Option (List (Y.dom th)×Nat)):Hp Y:=λb=>
 match aL b 0 with
 |true=>ae (.raw [celS E th I 1] 0 ar)
 |false=>(match aL b 1 with
  |true=>(match I with|some p=>ae (.rows th p.1 p.2)|none=>ar)
  |false=>ar)
def fzO{α:Type} (I:Option (α×Nat)):Nat:=match I with|some p=>p.2|none=>0
def mdO{α:Type} (I:Option (α×Nat)) (b c:Nat):List Nat:=match I with|some _=> [b,c]|none=> [b]
def prnR(E:Eng Y) (th:Y.Th) (J:Option (List (Y.dom th)×Nat)) (b c i:Nat) (I:List (Y.dom th)):Res Y:=
 ⟨.tup [],1,mdO J b c,λx=>match aL x b with|true=>ae (.raw [.sl i 0 I.length (E.w th) ar] 0 ar)|false=>at1 i (ae (.rows th I (fzO J))) x,ar⟩
def PrnC(E:Eng Y) (f:Nat) (th:Y.Th) (args:List (SV Y)) (I:Option (List (Y.dom th)×Nat)) (J:List (Y.dom th)):Prop:=
 ∀(b c:Nat) (h:Hp Y) (i:Nat) (tg:Option Y.Th),h b=ae (.raw [celS E th I c] 0 tg)->(∀p,I=ae p->h c=ae (.rows th p.1 p.2)/\b≠c)->Va E f (.ptr b 0::args) h i (prnR E th I b c i J)
def prnK(E:Eng Y) (th:Y.Th) (I:Option (List (Y.dom th)×Nat)) (J:List (Y.dom th)) (r:Res Y):Prop:=
 match r.v,patch (hpP E th I) 2 r 0 with
 | .tup [],ae (.raw [.sl c 0 n w ar] 0 _)=>
  (match Nat.ble 1 c&&aL w (E.w th),patch (hpP E th I) 2 r c with
  |true,ae (.rows U L R)=>Uz L λL=>L=J/\n=J.length/\R=fzO I
  |_,_=>False)
 |_,_=>False
theorem Yko(th:Y.Th) (I:Option (List (Y.dom th)×Nat)):hpP E th I 0=ae (.raw [celS E th I 1] 0 ar):=rfl
theorem Zam{th:Y.Th} {I:Option (List (Y.dom th)×Nat)} {x:Nat} {y:Blk Y} (h:hpP E th I x=ae y):(x=0/\y= .raw [celS E th I 1] 0 ar)\/(x=1/\∃p,I=ae p/\y= .rows th p.1 p.2):=by
 match x,h with
 |0,h=>rw[Yko] at h;cases h;exact .inl ⟨rfl,rfl⟩
 |1,h=>
  cases I with
  |none=>cases h
  |some p=>
   have h:ae (Blk.rows th p.1 p.2:Blk Y)=ae y:=h;cases h;exact .inr ⟨rfl,p,rfl,rfl⟩
 |x+2,h=>cases h
theorem Yc3(th:Y.Th) (R:Option (List (Y.dom th)×Nat)):DomLt (hpP E th R) 2:=λb I=>by
 obtain⟨y,J⟩:=aU.1 I;rcases Zam J with⟨rfl,_⟩|⟨rfl,_⟩<;>omega
def σP{α:Type} (I:Option α) (σ:Pl) (b c:Nat):Pl:=λx=>
 match aL x 0 with
 |true=>σ b
 |false=>(match aL x 1 with
  |true=>(match I with|some _=>σ c|none=>ar)
  |false=>ar)
theorem σP_cases{α:Type} {I:Option α} {σ:Pl} {b c x:Nat} {q:Nat×Nat} (h:σP I σ b c x=ae q):(x=0/\σ b=ae q)\/(x=1/\(∃p,I=ae p)/\σ c=ae q):=by
 match x,h with
 |0,h=>exact .inl ⟨rfl,h⟩
 |1,h=>
  cases I with
  |none=>cases h
  |some p=>exact .inr ⟨rfl,⟨p,rfl⟩,h⟩
 |x+2,h=>cases h
theorem mdO_mem{α:Type} {I:Option (α×Nat)} {b c x:Nat}:x∈mdO I b c↔x=b\/(x=c/\∃p,I=ae p):=by
 cases I with
 |none=>simp[mdO]
 |some p=>simp[mdO]
open Classical in
theorem Xv(hE:EngOk E) {call:Nat->List (SV Y)->Hp Y->Nat->(Res Y->Prop)->Prop} (d8:Wy E call) {f:Nat} {th:Y.Th} {args:List (SV Y)} {st:Option (List (Y.dom th)×Nat)} {l':List (Y.dom th)} (ha:nidL 0 args=ac)
 (hk:call f (.ptr 0 0::args) (hpP E th st) 2 (prnK E th st l')):PrnC E f th args st l':=by
 intro b c h i tg hb hc
 obtain⟨r,hr,hR,b4⟩:=d8 f _ _ _ _ (Yc3 th st) hk
 have f7:∀x∈r.mods,x=0\/(x=1/\∃p,st=ae p):=by
  intro x U
  obtain⟨y,hy⟩:=aU.1 (hR x U)
  rcases Zam hy with⟨R,_⟩|⟨R,p,h2,_⟩
  ·exact .inl R
  ·exact .inr ⟨R,p,h2⟩
 unfold prnK at hr
 split at hr
 case h_2=>exact hr.elim
 rename_i c' n' w' f8 hv hp0
 split at hr
 case h_2=>exact hr.elim
 rename_i a0 L c8 b1 a8
 obtain⟨e,hr⟩:=Yx hr
 subst e
 obtain⟨rfl,rfl,rfl⟩:l'=L/\n'=l'.length/\c8=fzO st:=⟨hr.1.symm,hr.2⟩
 rw[aq,Nat.ble_eq] at b1
 obtain⟨b1,hw⟩:=b1
 have hw:=ax hw
 subst hw
 replace b4:Va E f (.ptr 0 0::args) (hpP E a0 st) 2 r:=b4.resolve_right (by rintro⟨p,J,_⟩;rw[hv] at J;cases J)
 intro B σ g W c7 hh f1 hI hB e0 hd
 obtain rfl:hh=h:=funext λb=>f1 b trivial
 obtain⟨rb,zb,a2,d7⟩:=hI.blk b _ hb
 have b7:hh b≠none:=by rw[hb];simp
 have F0:σP st σ b c 0=σ b:=rfl
 have F1:∀p,st=ae p->σP st σ b c 1=σ c:=by rintro p rfl;rfl
 have bc:∀p,st=ae p->b≠c:=λp J=>(hc p J).2
 have cn:∀p,st=ae p->hh c≠none:=λp J=>by rw[(hc p J).1];simp
 have c6:∀p q z z',st=ae p->σ b=ae (q,z)->σ c=ae (q,z')->False:=λp q z z' J R h2=>bc p J (hI.inj b c q z z' b7 (cn p J) R h2)
 have c9:Inv E B (σP st σ b c) (hpP E a0 st) g W:=by
  refine⟨hI.gc,hI.gm,λx y U=> ?_,λx x' r z z' R h2 h3 h4=> ?_,λx r' z' I=> ?_,λx y r' z' o v U I hv=> ?_,λx y r' z' U I=> ?_,hI.glob⟩
  ·rcases Zam U with⟨rfl,rfl⟩|⟨rfl,p,J,rfl⟩
   ·refine⟨rb,zb,a2,?_⟩
    obtain⟨arr,e,k1,k2,k3,k4,k5⟩:=d7
    refine⟨arr,e,k1,k2,k3,λj sv hj=> ?_,trivial⟩
    cases j with
    |succ j=>cases hj
    |zero=>
     have hj:ae (celS E a0 st 1)=ae sv:=hj
     cases hj
     obtain⟨v,m1,m2⟩:=k4 0 _ (show([celS E a0 st c]:List (SV Y))[0]? =ae _ from rfl)
     refine⟨v,m1,?_⟩
     cases st with
     |none=>exact Zx hE m2 (λb p hb=>by omega) (show nid 0 (celS E a0 ar 1)=ac from rfl)
     |some p=>
      obtain⟨r1,z1,c1,rfl,k1,k2,k3,k4,k5⟩:=W2 (show Den E σ g (.sl c 0 p.1.length (E.w a0) ar) v from m2)
      exact .sl (E:=E) (b:=1) k1 k2 k3 k4 k5
   ·obtain⟨r1,z1,k1,arr,e,k2,k3,k4,k5,k6⟩:=hI.blk c _ (hc p J).1
    refine⟨r1,z1,(F1 p J).trans k1,arr,e,k2,k3,k4,λj sv hj=> ?_,k6⟩
    obtain⟨v,m1,m2⟩:=k5 j sv hj
    have hn:nid 0 sv=true:=by
     obtain⟨q,p,x,rfl,J,hq,I⟩:=Yw hE a0 _ hj
     exact Zs (hE.encI _ _ _) I
    exact⟨v,m1,Zx hE m2 (λb p hb=>by omega) hn⟩
  ·rcases σP_cases h3 with⟨rfl,h3⟩|⟨rfl,⟨p,J⟩,h3⟩<;>rcases σP_cases h4 with⟨rfl,h4⟩|⟨rfl,⟨p',e9⟩,h4⟩
   ·rfl
   ·exact(c6 p' _ _ _ e9 h3 h4).elim
   ·exact(c6 p _ _ _ J h4 h3).elim
   ·rfl
  ·rcases σP_cases I with⟨rfl,I⟩|⟨rfl,_,I⟩
   ·exact hI.base b _ _ I
   ·exact hI.base c _ _ I
  ·rcases Zam U with⟨rfl,rfl⟩|⟨rfl,p,J,rfl⟩
   ·have h2:o<0:=hI.fz b _ _ _ o v hb I hv
    omega
   ·rw[F1 p J] at I
    exact hI.fz c _ _ _ o v (hc p J).1 I hv
  ·rcases Zam U with⟨rfl,rfl⟩|⟨rfl,p,J,rfl⟩
   ·exact hI.fm b _ _ _ hb I
   ·rw[F1 p J] at I
    exact hI.fm c _ _ _ (hc p J).1 I
 have d9:DenL E (σP st σ b c) g (.ptr 0 0::args) c7.toList:=by
  refine⟨by rw[<-hd.1];rfl,λj sv u R h2=> ?_⟩
  cases j with
  |zero=>
   simp at R;subst R
   have:=hd.2 0 _ u rfl h2
   cases this
   rename_i I
   exact .ptr (E:=E) (b:=0) I
  |succ j=>
   have R:args[j]? =ae sv:=by simpa using R
   exact Zx hE (hd.2 (j+1) sv u (by simpa using R) h2) (λb p hb=>by omega) (Zs ha R)
 refine(b4 B _ g W c7 _ (λ_ _=>rfl) c9 hB (λx R h2=>by match x,R with|x+2,_=>rfl) d9).mono ?_
 rintro en w' ⟨u,he,σ',g',hS,a3,c4⟩
 have b0:σ' 0=ae (rb,zb):=hS.sig 0 _ a2
 obtain⟨r1,z1,k1⟩:∃r1 z1,σ' c'=ae (r1,z1):=by
  obtain⟨r1,z1,m1,_⟩:=a3.blk c' _ a8
  exact⟨r1,z1,m1⟩
 have b8:c'≠0:=by omega
 have e6:patch (hpP E a0 st) 2 r 0≠none:=by rw[hp0];simp
 have e8:patch (hpP E a0 st) 2 r c'≠none:=by rw[a8];simp
 have b2:r1≠rb:=by
  rintro rfl
  exact b8 (a3.inj c' 0 _ _ _ e8 e6 k1 b0)
 have c2:W.heap.size<=r1\/∃z' p,st=ae p/\σ c=ae (r1,z'):=by
  cases b3:σP st σ b c c' with
  |some q=>
   have:=hS.sig c' _ b3
   rw[k1] at this;cases this
   rcases σP_cases b3 with⟨h0,_⟩|⟨_,⟨p,J⟩,h2⟩
   ·exact absurd h0 b8
   ·exact .inr ⟨z1,p,J,h2⟩
  |none=>
   rcases hS.blk c' r1 z1 b3 k1 with R|⟨b',R,z',h2⟩
   ·exact .inl R
   ·rcases σP_cases h2 with⟨rfl,h3⟩|⟨_,⟨p,J⟩,h3⟩
    ·rw[a2] at h3;cases h3;exact absurd rfl b2
    ·exact .inr ⟨z',p,J,h3⟩
 have c0:∀q,q<W.heap.size->q≠rb->(∀p z,st=ae p->σ c≠ae (q,z))->w'.heap[q]? =W.heap[q]? :=by
  intro q hq a9 e7
  refine hS.heap q hq λb' f5 z' f3=> ?_
  rcases σP_cases f3 with⟨rfl,h2⟩|⟨_,⟨p,J⟩,h2⟩
  ·rw[a2] at h2;cases h2;exact a9 rfl
  ·exact e7 p z' J h2
 have hi:σ i=none:=e0 i (aw _) (by show i<i+1;omega)
 have a5:b≠i:=by rintro rfl;rw[a2] at hi;cases hi
 have f6:∀p,st=ae p->c≠i:=by
  rintro p J rfl
  obtain⟨r2,z2,m1,_⟩:=hI.blk c _ (hc p J).1
  rw[hi] at m1;cases m1
 have f0:∀x,patch hh i (prnR E a0 st b c i l') x=if x=b then ae (.raw [.sl i 0 l'.length (E.w a0) ar] 0 ar) else if x=i then ae (.rows a0 l' (fzO st)) else if x=c/\(∃p,st=ae p) then ar else hh x:=by
  intro x
  rw[Zp]
  by_cases e1:x=b
  ·subst e1
   rw[if_pos (.inl (mdO_mem.2 (.inl rfl))),if_pos rfl]
   show(match aL x x with|true=>_|false=>_)=_
   rw[fC]
  ·rw[if_neg e1]
   have d6:aL x b=false:=by
    cases e:aL x b with
    |true=>exact absurd (ax e) e1
    |false=>rfl
   have b9:(prnR E a0 st b c i l').h x=at1 i (ae (.rows a0 l' (fzO st))) x:=by
    show(match aL x b with|true=>_|false=>_)=_
    rw[d6]
   by_cases e2:x=i
   ·subst e2
    rw[if_pos (.inr ⟨aw _,(by show x<x+1;omega)⟩),if_pos rfl,b9]
    unfold at1
    rw[fC]
   ·rw[if_neg e2]
    have d5:at1 i (ae (.rows a0 l' (fzO st):Blk Y)) x=none:=by
     unfold at1
     cases e:aL x i with
     |true=>exact absurd (ax e) e2
     |false=>rfl
    by_cases e3:x=c/\∃p,st=ae p
    ·rw[if_pos e3,if_pos (.inl (mdO_mem.2 (.inr e3))),b9,d5]
    ·rw[if_neg e3,if_neg]
     rintro(k|k)
     ·rcases mdO_mem.1 k with k|k
      ·exact e1 k
      ·exact e3 k
     ·have k:i<=x/\x<i+1:=k
      omega
 have src:∀x y,patch hh i (prnR E a0 st b c i l') x=ae y->(x=b/\y= .raw [.sl i 0 l'.length (E.w a0) ar] 0 ar)\/(x=i/\y= .rows a0 l' (fzO st))\/(x≠i/\x≠b/\(∀p,st=ae p->x≠c)/\hh x=ae y):=by
  intro x y hy
  rw[f0] at hy
  split at hy
  ·rename_i e
   cases hy
   exact .inl ⟨e,rfl⟩
  ·rename_i e
   split at hy
   ·rename_i e2
    cases hy
    exact .inr (.inl ⟨e2,rfl⟩)
   ·rename_i e2
    split at hy
    ·cases hy
    ·rename_i e3
     exact .inr (.inr ⟨e2,e,λp J U=>e3 ⟨U,p,J⟩,hy⟩)
 have a4:(match aL i i with|true=>σ' c'|false=>σ i)=ae (r1,z1):=by rw[fC];exact k1
 have a1:∀x,x≠i->(match aL x i with|true=>σ' c'|false=>σ x)=σ x:=by
  intro x U
  cases e:aL x i with
  |true=>exact absurd (ax e) U
  |false=>rfl
 have a6:∀x y q z',x≠b->(∀p,st=ae p->x≠c)->hh x=ae y->σ x=ae (q,z')->q<W.heap.size/\q≠rb/\(∀p z,st=ae p->σ c≠ae (q,z)):=by
  intro x y q z' U b5 hy I
  have c5:hh x≠none:=by rw[hy];simp
  refine⟨(hI.base x q z' I).2,?_,λp z J hq=>b5 p J (hI.inj x c _ _ _ c5 (cn p J) I hq)⟩
  rintro rfl
  exact U (hI.inj x b _ _ _ c5 b7 I a2)
 have b6:∀x y q z',x≠b->(∀p,st=ae p->x≠c)->hh x=ae y->σ x=ae (q,z')->q≠r1:=by
  rintro x y q z' U b5 hy I rfl
  obtain⟨m1,m2,m3⟩:=a6 x y q z' U b5 hy I
  rcases c2 with R|⟨z2,p,J,R⟩
  ·omega
  ·exact m3 p z2 J R
 have f4:rb<W.heap.size:=(hI.base b _ _ a2).2
 refine⟨_,he,λx=>match aL x i with|true=>σ' c'|false=>σ x,g',⟨λx p U=> ?_,λx p U=> ?_,hS.gle,λq o v hv=> ?_,hS.gmnew,λq hq a9=> ?_,hS.size,hS.os,hS.tape,hS.output,λx q z' U a7=> ?_⟩,?_,?_⟩
 ·exact(a1 x (λe=>by rw[e,hi] at U;cases U)).trans U
 ·by_cases e:x=i
  ·exact .inr (by show i<=x/\x<i+1;omega)
  ·have U:(match aL x i with|true=>σ' c'|false=>σ x)=ae p:=U
   rw[a1 x e] at U
   exact .inl U
 ·rcases hS.gcnew q o v hv with R|R|⟨b',R,z',h2⟩
  ·exact .inl R
  ·exact .inr (.inl R)
  ·rcases σP_cases h2 with⟨rfl,h2⟩|⟨_,J,h2⟩
   ·exact .inr (.inr ⟨b,mdO_mem.2 (.inl rfl),_,h2⟩)
   ·exact .inr (.inr ⟨c,mdO_mem.2 (.inr ⟨rfl,J⟩),_,h2⟩)
 ·exact c0 q hq (λe=>a9 b (mdO_mem.2 (.inl rfl)) zb (by rw[a2,e])) λp z J=>a9 c (mdO_mem.2 (.inr ⟨rfl,p,J⟩)) z
 ·have a7:(match aL x i with|true=>σ' c'|false=>σ x)=ae (q,z'):=a7
  by_cases e:x=i
  ·subst e
   rw[a4] at a7;cases a7
   rcases c2 with R|⟨z2,p,J,R⟩
   ·exact .inl R
   ·exact .inr ⟨c,mdO_mem.2 (.inr ⟨rfl,p,J⟩),z2,R⟩
  ·rw[a1 x e,U] at a7;cases a7
 ·refine⟨a3.gc,a3.gm,λx y U=> ?_,λx x' q f9 g0 R h2 h3 h4=> ?_,λx q z' I=> ?_,λx y q z' o v U I hv=> ?_,λx y q z' U I=> ?_,a3.glob⟩
  ·rcases src x y U with⟨rfl,rfl⟩|⟨rfl,rfl⟩|⟨e1,e2,e3,e4⟩
   ·refine⟨rb,zb,(a1 x a5).trans a2,?_⟩
    obtain⟨r2,z2,m1,arr,e,n1,n2,n3,n4,n5⟩:=a3.blk 0 _ hp0
    rw[b0] at m1;cases m1
    refine⟨arr,e,n1,n2,n3,λj sv hj=> ?_,trivial⟩
    cases j with
    |succ j=>cases hj
    |zero=>
     have hj:ae (SV.sl i 0 l'.length (E.w a0) ar:SV Y)=ae sv:=hj
     cases hj
     obtain⟨v,q1,q2⟩:=n4 0 _ (show([.sl c' 0 l'.length (E.w a0) ar]:List (SV Y))[0]? =ae _ from rfl)
     refine⟨v,q1,?_⟩
     obtain⟨r3,z3,c3,rfl,u1,u2,u3,u4,u5⟩:=W2 (show Den E σ' g' (.sl c' 0 l'.length (E.w a0) ar) v from q2)
     refine .sl (E:=E) (b:=i) (z:=z3) ?_ u2 u3 u4 u5
     show(match aL i i with|true=>σ' c'|false=>σ i)=_
     rw[fC]
     exact u1
   ·refine⟨r1,z1,a4,?_⟩
    obtain⟨r2,z2,m1,m2⟩:=a3.blk c' _ a8
    rw[k1] at m1;cases m1
    obtain⟨arr,e,m1,m3,m4,m5,m6⟩:=m2
    refine⟨arr,e,m1,m3,m4,λj sv hj=> ?_,m6⟩
    obtain⟨v,n1,n2⟩:=m5 j sv hj
    have hn:nid 0 sv=true:=by
     obtain⟨q,p,x,rfl,J,hq,I⟩:=Yw hE a0 _ hj
     exact Zs (hE.encI _ _ _) I
    exact⟨v,n1,Zx hE n2 (λb p hb=>by omega) hn⟩
   ·obtain⟨q,z',m1,m2⟩:=hI.blk x y e4
    obtain⟨m3,m4,m5⟩:=a6 x y q z' e2 e3 e4 m1
    refine⟨q,z',(a1 x e1).trans m1,?_⟩
    refine m2.mono (λx p U=> ?_) hS.gle (c0 q m3 m4 m5)
    show(match aL x i with|true=>σ' c'|false=>σ x)=ae p
    rw[a1 x (λe=>by rw[e,hi] at U;cases U)]
    exact U
  ·obtain⟨y,hy⟩:=aU.1 R
   obtain⟨y',f2⟩:=aU.1 h2
   rcases src x y hy with⟨rfl,rfl⟩|⟨rfl,rfl⟩|⟨e1,e2,e3,e4⟩<;>rcases src x' y' f2 with⟨rfl,rfl⟩|⟨rfl,rfl⟩|⟨d1,d2,d3,d4⟩
   ·rfl
   ·rw[a1 x a5,a2] at h3;cases h3
    rw[a4] at h4;cases h4
    exact absurd rfl b2
   ·rw[a1 x a5,a2] at h3;cases h3
    rw[a1 x' d1] at h4
    exact absurd rfl (a6 x' y' _ _ d2 d3 d4 h4).2.1
   ·rw[a4] at h3;cases h3
    rw[a1 x' a5,a2] at h4;cases h4
    exact absurd rfl b2
   ·rfl
   ·rw[a4] at h3;cases h3
    rw[a1 x' d1] at h4
    exact absurd rfl (b6 x' y' _ _ d2 d3 d4 h4)
   ·rw[a1 x' a5,a2] at h4;cases h4
    rw[a1 x e1] at h3
    exact absurd rfl (a6 x y _ _ e2 e3 e4 h3).2.1
   ·rw[a4] at h4;cases h4
    rw[a1 x e1] at h3
    exact absurd rfl (b6 x y _ _ e2 e3 e4 h3)
   ·rw[a1 x e1] at h3
    rw[a1 x' d1] at h4
    exact hI.inj x x' q _ _ (by rw[e4];simp) (by rw[d4];simp) h3 h4
  ·by_cases e:x=i
   ·subst e
    rw[a4] at I;cases I
    exact a3.base c' _ _ k1
   ·rw[a1 x e] at I
    exact⟨(hI.base x q z' I).1,bZ (hI.base x q z' I).2 hS.size⟩
  ·rcases src x y U with⟨rfl,rfl⟩|⟨rfl,rfl⟩|⟨e1,e2,e3,e4⟩
   ·rw[a1 x a5,a2] at I;cases I
    have h2:o<0:=a3.fz 0 _ _ _ o v hp0 b0 hv
    omega
   ·rw[a4] at I;cases I
    exact a3.fz c' _ _ _ o v a8 k1 hv
   ·rw[a1 x e1] at I
    obtain⟨m3,m4,m5⟩:=a6 x y q z' e2 e3 e4 I
    rcases hS.gcnew q o v hv with R|R|⟨b',R,z2,h2⟩
    ·exact hI.fz x y q z' o v e4 I R
    ·omega
    ·rcases σP_cases h2 with⟨rfl,h3⟩|⟨_,⟨p,J⟩,h3⟩
     ·rw[a2] at h3;cases h3;exact absurd rfl m4
     ·exact absurd h3 (m5 p z2 J)
  ·rcases src x y U with⟨rfl,rfl⟩|⟨rfl,rfl⟩|⟨e1,e2,e3,e4⟩
   ·rw[a1 x a5,a2] at I;cases I
    exact a3.fm 0 _ _ _ hp0 b0
   ·rw[a4] at I;cases I
    exact a3.fm c' _ _ _ a8 k1
   ·rw[a1 x e1] at I
    obtain⟨m3,m4,m5⟩:=a6 x y q z' e2 e3 e4 I
    cases e5:g'.obj q with
    |none=>rfl
    |some es=>
     rcases hS.gmnew q es e5 with k|k
     ·rw[hI.fm x y q z' e4 I] at k;cases k
     ·omega
 ·rw[hv] at c4
  exact Zx hE c4 (λb p hb=>by omega) (show nid 0 (SV.tup ([]:List (SV Y)))=ac from rfl)
def sumB(E:Eng Y) (th:Y.Th) {α:Type} (d:DcL E α) (pre:List (Y.dom th)->α->Prop) (f:List (Y.dom th)->α->List (Y.dom th)):Sum Y:=λargs h i k=>
 match args with
 | .ptr b 0::rest=>
  (match h b,d.dec rest with
  |some (.raw [.sl c 0 len w ar] 0 _),ae x=>
   (match h c,aL w (E.w th)&& !(aL b c) with
   |some (.rows J l fz),ac=>Uz l λl=>(len=l.length/\fz<=l.length/\pre l x)/\∀I,I=f l x->k (prnR E th (ae (l,fz)) b c i I)
   |_,_=>False)
  |some (.raw [.val (.slice ar 0 0)] 0 _),ae x=>pre [] x/\∀I,I=f [] x->k (prnR E th ar b 0 i I)
  |_,_=>False)
 |_=>False
def Yc4(E:Eng Y) (f:Nat) (th:Y.Th) (args:List (SV Y)) (F:List (Y.dom th)->List (Y.dom th)) (P:List (Y.dom th)->Prop):Prop:=
 (∀l fz,fz<=l.length->P l->PrnC E f th args (ae (l,fz)) (F l))/\(P []->PrnC E f th args ar (F []))
theorem PrnC.of_dec{α:Type} {d:DcL E α} {f:Nat} {th:Y.Th} {args:List (SV Y)} {x:α} {U:Option (List (Y.dom th)×Nat)} {l':List (Y.dom th)} (hd:d.dec args=ae x) (h:PrnC E f th (d.enc x) U l'):PrnC E f th args U l':=by
 obtain⟨k1,k2,k3⟩:=d.ok _ _ hd;intro b c hp i tg h1 h2 B σ g w a3 hh a2 hI hB a1 I;refine h b c hp i tg h1 h2 B σ g w a3 hh a2 hI hB a1 ⟨?_,λj a0 u J R=> ?_⟩
 ·rw[<-I.1,aB,aB,k2]
 ·cases j with
  |zero=>exact I.2 0 a0 u J R
  |succ j=>
   obtain⟨sv,h7,h8⟩:=k3 σ g j a0 (by simpa using J);exact h8 u (I.2 (j+1) sv u (by simpa using h7) R)
theorem Ze0(hE:EngOk E) {th:Y.Th} {α:Type} {f:Nat} (hg:FnGood E.P f) {d:DcL E α} {pre:List (Y.dom th)->α->Prop} {F:List (Y.dom th)->α->List (Y.dom th)} (J:∀x,Yc4 E f th (d.enc x) (λl=>F l x) (λl=>pre l x)):SumOk E f (sumB E th d pre F):=by
 refine⟨hg,λargs h i k hD I=> ?_⟩;unfold sumB at I;split at I
 case h_2=>exact I.elim
 rename_i b rest;split at I
 case h_3=>exact I.elim
 ·rename_i c len w tg x U hx
  split at I
  case h_2=>exact I.elim
  rename_i a6 l fz hc R;rw[aq,bh] at R;obtain⟨R,a1⟩:=R;have R:=ax R;have a1:=nb a1;obtain⟨e,a5⟩:=Yx I;clear I;subst e;subst R;obtain⟨⟨rfl,a4,a3⟩,a2⟩:=a5;refine⟨_,a2 _ rfl,λb' a0=> ?_,.inl (PrnC.of_dec hx ((J x).1 l fz a4 a3) b c h i tg U λp J=> ?_)⟩
  ·rcases mdO_mem.1 (show b'∈mdO (ae (l,fz)) b c from a0) with rfl|⟨rfl,_⟩
   ·rw[U];simp
   ·rw[hc];simp
  ·cases J
   exact⟨hc,a1⟩
 ·rename_i tg x U hx
  obtain⟨a3,a2⟩:=I;refine⟨_,a2 _ rfl,λb' a0=> ?_,.inl (PrnC.of_dec hx ((J x).2 a3) b 0 h i tg U λp J=>by cases J)⟩;rcases mdO_mem.1 (show b'∈mdO (ar:Option (List (Y.dom th)×Nat)) b 0 from a0) with rfl|⟨_,_,h2⟩
  ·rw[U];simp
  ·cases h2
end
end
section
open Go
theorem Z3w{F:Fns thy} (J:FnsOk E F) {n:Nat} {f:Nat} {th:Th} {args:List (SV thy)} {I:Option (List (thy.dom th)×Nat)} {l':List (thy.dom th)} (R:nidL 0 args=ac) (U:Zj E F (vc E F n) f (.ptr 0 0::args) (hpP E th I) 2 (prnK E th I l')):PrnC E f th args I l':=
 Xv E_ok (Zd E_ok J n) R U
def Aixi:Fr thy->Hp thy->Nat->Ann thy:=λT h i=>{X:=LX,fr:=λx=> [(0,T 0),(1,T 1),(7,T 7),(8,.int ab .i64 x.k)],bl:=λx=> [],src:=λ_=> [],md:= [],ih:=i,M:=i+30,meas:=λx=>x.r}
noncomputable def Fixi:Fns thy:=addL F0 207 2 Aixi E
theorem Z9n(l:List Int) (s:Int) (v:Int):Zj E Fixi (vc E Fixi 400) 207 [.psl jV l ab,.int ab .i64 s] hp0 0 (λr=>ret E (patch hp0 0 r) r.v (.int ab .i64 v))=(
∃(R:LX->Prop),(∃(x:LX),R x/\ac=ac/\((l=l/\(ab=ac->ab=ac))/\s=s/\(↑(aa l):Int)=(↑(aa l):Int)/\(0:Int)=(↑(LX.k x):Int)/\True)/\True)/\∀(x:LX),R x->(decide ((↑(LX.k x):Int)<(↑(aa l):Int))=ac->(0:Int)<=(↑(LX.k x):Int)/\(↑(LX.k x):Int)+(1:Int)<=(↑(aa l):Int)/\∀(I:Int),l[ag (↑(LX.k x):Int)]? =ae I->((s==I)=ac->(↑(LX.k x):Int)=v)/\((s==I)=ab->∃(J:LX),R J/\J.2+(1:Nat)<=x.2/\ac=ac/\((l=l/\(ab=ac->ab=ac))/\s=s/\(↑(aa l):Int)=(↑(aa l):Int)/\wr af ((↑(LX.k x):Int)+(1:Int))=(↑(LX.k J):Int)/\True)/\True))/\(decide ((↑(LX.k x):Int)<(↑(aa l):Int))=ab->(-1:Int)=v)):=by kernel_rfl
noncomputable def dIs:Dc E (List Int):=(Zcv (E:=E) jV:Dc E (List (thy.dom jV)))
noncomputable def Sixi:Sum thy:=Zqn E (λ_=>ar) 2 (X6 (dA2 dIs dN) (λx=>x.1.length<=1000000000) (λx=>idxI x.2.1 0 x.1) λy=> .int ab .i64 y)
noncomputable def Yi6:Sum thy:=X6 (dA1 dN) (λx=>0<=x.1/\x.1<10000000000000) (λx=>decN x.1) λy=> .str ab y
noncomputable def Fpu:Fns thy:=addS (addS (addS F0 55 Zm5) 207 Sixi) 158 Yi6
abbrev qCD6:=(↑(4:Nat):Int)
abbrev qCD4:=(0:Int)
abbrev qCD3:=(ag qCD6-ag qCD4)
abbrev qCD1(I:Int) (J:Int) (R:Int) (d0:Int):=(av qCD3 (ct (ag qCD4) [I,J,R,d0]))
abbrev qCD2:=((4:Nat)=(4:Nat)/\qCD4<=qCD4/\qCD4<=qCD6/\qCD6<=qCD6/\(qCD4+(1:Int)<=qCD6\/qCD4=qCD4))
abbrev qCD5:=(↑(aa (WK.words WK.un)):Int)
theorem Zyi(l:List (List Nat)) (fz:Nat) (a b c d:Int) (I:List (List Nat)):Zj E Fpu (vc E Fpu 400) 160 [.ptr 0 0,dimA a b c d] (hpP E dm (ae (l,fz))) 2 (prnK E dm (ae (l,fz)) I)=(
 qCD2/\ag qCD4+qCD3<=(4:Nat)/\aa (qCD1 a b c d)<=(1000000000:Nat)/\∀(y:Int),y=idxI (1:Int) (0:Nat) (qCD1 a b c d)->(decide (y>=qCD4)=ac->qCD4<=y/\y+(1:Int)<=qCD5/\∀(x:List Nat),(WK.words WK.un)[ag y]? =ae x->(aa l<=aa l/\fz<=aa l/\(aa l+(1:Nat))*(16:Nat)<=(140737488355328:Nat))/\qCD2/\ag qCD4+qCD3<=(4:Nat)/\aa (qCD1 a b c d)<=(1000000000:Nat)/\∀(y:Int),y=idxI (-1:Int) (0:Nat) (qCD1 a b c d)->(decide (y>=qCD4)=ac->qCD4<=y/\y+(1:Int)<=qCD5/\∀(J:List Nat),(WK.words WK.un)[ag y]? =ae J->(aa l+(1:Nat)<=aa (av (aa l) l++ [x])/\fz<=aa l+(1:Nat)/\(aa l+(1:Nat)+(2:Nat))*(16:Nat)<=(140737488355328:Nat))/\av (aa l+(1:Nat)) (av (aa l) l++ [x])++ [[(112:Nat),(101:Nat),(114:Nat)],J]=I/\aa l+(1:Nat)+(2:Nat)=aa I/\fz=fzO (ae (l,fz)))/\(decide (y>=qCD4)=ab->av (aa l) l++ [x]=I/\aa l+(1:Nat)=aa I/\fz=fzO (ae (l,fz))))/\(decide (y>=qCD4)=ab->qCD2/\ag qCD4+qCD3<=(4:Nat)/\aa (qCD1 a b c d)<=(1000000000:Nat)/\∀(y:Int),y=idxI (-1:Int) (0:Nat) (qCD1 a b c d)->(decide (y>=qCD4)=ac->qCD4<=y/\y+(1:Int)<=qCD5/\∀(x:List Nat),(WK.words WK.un)[ag y]? =ae x->(aa l<=aa l/\fz<=aa l/\(aa l+(2:Nat))*(16:Nat)<=(140737488355328:Nat))/\av (aa l) l++ [[(112:Nat),(101:Nat),(114:Nat)],x]=I/\aa l+(2:Nat)=aa I/\fz=fzO (ae (l,fz)))/\(decide (y>=qCD4)=ab->l=I/\aa l=aa I/\fz=fzO (ae (l,fz))))):=by kernel_rfl
theorem Z3x{v:Int} {l:List Int}:∀{k:Nat} {x:Int},l[k]? =ae x->idxI v k (l.drop k)=if v=x then(k:Int) else idxI v (k+1) (l.drop (k+1)):=by
 intro k x h;rw[Z0 h];rfl
theorem Z9o(l:List Int) (s:Int) (hl:l.length<=1000000000):PureC E 207 [.psl jV l ab,.int ab .i64 s] (.int ab .i64 (idxI s 0 l)):=by
 have R:FnsOk E Fixi:=Zm E_ok F0_ok _ _ _;refine Za E_ok (Zd E_ok R 400) ?_;rw[Z9n];simp only[and_true,true_and,decide_eq_true_eq,decide_eq_false_iff_not,beq_iff_eq,beq_eq_false_iff_ne,imp_self];refine⟨λx=>x.k<=l.length/\idxI s x.k (l.drop x.k)=idxI s 0 l/\x.r=l.length-x.k,⟨⟨0,l.length,[],0⟩,⟨(by dsimp only;omega),rfl,rfl⟩,rfl⟩,?_⟩;rintro x ⟨hk,I,hr⟩;refine aA (λU=>⟨by omega,by omega,λy J=> ?_⟩) (λU=> ?_)
 ·have J:l[x.k]? =ae y:=J
  rw[Z3x J] at I;refine⟨λe=> ?_,λe=> ?_⟩
  ·rw[if_pos e] at I;exact I
  ·rw[if_neg e] at I
   exact⟨⟨x.k+1,l.length-(x.k+1),[],0⟩,⟨(by dsimp only;omega),I,rfl⟩,by show l.length-(x.k+1)+1<=x.r;omega,wr64 (by omega) (by omega)⟩
 ·rw[bK (by omega)] at I
  exact I
theorem Ye4:SumOk E 207 Sixi:=Zjc E_ok (Zw E_ok (Zc rfl) λx h=>Z9o x.1 x.2.1 h)
theorem Z9p:SumOk E 158 Yi6:=Zw E_ok (Zc rfl) λx h=>by
 have:=Z4x x.1.toNat (by omega);rw[show((x.1.toNat:Nat):Int)=x.1 by omega] at this;exact this
theorem Zvl:FnsOk E Fpu:=Zb (Zb (Zb F0_ok Zfg) Ye4) Z9p
theorem Zs0:∀{v:Int} {l:List Int} {k:Nat},idxI v k l<k+l.length
 |v,[],k=>by unfold idxI;simp;omega
 |v,x::l,k=>by
  unfold idxI
  split
  ·simp;omega
  ·have:=Zs0 (v:=v) (l:=l) (k:=k+1)
   simp at this⊢;omega
theorem Zvm{y:Int} (J:0<=y) {x:List Nat} (I:(WK.words WK.un)[ag y]? =ae x):WK.un.words.getD y.toNat []=x:=by
 simp[ah,I]
theorem Z9q(l:List (List Nat)) (fz:Nat) (a b c d:Int) (hf:fz<=l.length) (hl:l.length+8<=1000000000):PrnC E 160 dm [dimA a b c d] (ae (l,fz)) (l++txU [a,b,c,d]):=by
 refine Z3w Zvl (n:=400) rfl ?_;rw[Zyi];delta qCD6 qCD4 qCD3 qCD1 qCD2 qCD5;have i1:=Zs0 (v:=1) (l:= [a,b,c,d]) (k:=0);have i2:=Zs0 (v:= -1) (l:= [a,b,c,d]) (k:=0);have U:(WK.words WK.un).length=4:=rfl;have l4:(aa [a,b,c,d]:Int)=4:=rfl;have e:av (ag (↑(4:Nat):Int)-ag (0:Int)) (ct (ag (0:Int)) [a,b,c,d])= [a,b,c,d]:=rfl;rw[e];clear e;refine⟨by decide,by decide,by show 4<=1000000000;decide,λy R=>⟨λh=> ?_,λh=> ?_⟩⟩
 ·have h:0<=y:=by simpa using h
  rw[<-R] at i1;refine⟨h,by rw[U];omega,λx hx=>⟨⟨aw _,hf,by omega⟩,by decide,by decide,by show 4<=1000000000;decide,λz J=>⟨λI=> ?_,λI=> ?_⟩⟩⟩
  ·have I:0<=z:=by simpa using I
   rw[<-J] at i2;refine⟨I,by rw[U];omega,λx2 a0=>⟨⟨by simp,by omega,by omega⟩,?_⟩⟩;have:txU [a,b,c,d]= [x,sPer,x2]:=by
    unfold txU;rw[<-R,<-J,if_pos h,if_pos I,Zvm h hx,Zvm I a0];rfl
   rw[this,aW];have e2:av (l.length+1) (l++ [x])=l++ [x]:=bm (by simp);rw[e2];simp[sPer,fzO]
  ·have I:¬0<=z:=by simpa using I
   have:txU [a,b,c,d]= [x]:=by
    unfold txU;rw[<-R,<-J,if_pos h,if_neg I,Zvm h hx];rfl
   rw[this];simp[fzO]
 ·have h:¬0<=y:=by simpa using h
  refine⟨by decide,by decide,by show 4<=1000000000;decide,λz J=>⟨λI=> ?_,λI=> ?_⟩⟩
  ·have I:0<=z:=by simpa using I
   rw[<-J] at i2;refine⟨I,by rw[U];omega,λx2 a0=>⟨⟨aw _,hf,by omega⟩,?_⟩⟩;have:txU [a,b,c,d]= [sPer,x2]:=by
    unfold txU;rw[<-R,<-J,if_neg h,if_pos I,Zvm I a0];rfl
   rw[this];simp[sPer,fzO]
  ·have I:¬0<=z:=by simpa using I
   have:txU [a,b,c,d]= []:=by
    unfold txU;rw[<-R,<-J,if_neg h,if_neg I];rfl
   rw[this];simp[fzO]
noncomputable def Sunp:Sum thy:=sumB E dm dDim (λl x=>1<=l.length/\l.length+8<=1000000000) λ(l:List (List Nat)) x=>l++txU [x.1.getD 0 0,x.1.getD 1 0,x.1.getD 2 0,x.1.getD 3 0]
theorem Ye5:SumOk E 160 Sunp:=Ze0 E_ok (Zc rfl) λx=>⟨λl fz I h=>Z9q l fz _ _ _ _ I h.2,λh=>absurd h.1 (by decide)⟩
noncomputable def Sxp(m:Nat):Sum thy:=sumB E dm dExp (λl x=>x.1.sz<m/\Zn x.1=ac/\1<=l.length/\l.length+8*x.1.sz+8<=1000000000) λ(l:List (List Nat)) x=>l++txX x.1
theorem Zs1(n:Int) (v:Int):Zj E F0 (vc E F0 400) 162 [.int ab .i64 n] hp0 0 (λr=>ret E (patch hp0 0 r) r.v (.int ab .i64 v))=(
((n==(3:Int))=ac->(1:Int)=v)/\((n==(3:Int))=ab->((n==(4:Int))=ac->(1:Int)=v)/\((n==(4:Int))=ab->((n==(5:Int))=ac->(2:Int)=v)/\((n==(5:Int))=ab->(3:Int)=v)))):=by kernel_rfl
noncomputable def Z3y:Sum thy:=X6 (dA1 dN) (λ_=>True) (λx=>Wk x.1) λy=> .int ab .i64 y
noncomputable def Fop'(m:Nat):Fns thy:=addS (addS F0 162 Z3y) 101 (Sxp m)
abbrev qCD7(I:Ex):=(bV (aJ I) (bX I) (bC I) (bD I) (bE I) (bF I) (bw I))
abbrev qCD8(I:List (List Nat)):=(av (aa I) I++ [[(40:Nat)]])
theorem Zyj(m:Nat) (l:List (List Nat)) (fz:Nat) (x:Ex) (n:Int) (J:List (List Nat)):Zj E (Fop' m) (vc E (Fop' m) 400) 161 [.ptr 0 0,exA x,.int ab .i64 n] (hpP E dm (ae (l,fz))) 2 (prnK E dm (ae (l,fz)) J)=(
 True/\∀(y:Int),y=Wk (aJ x)->(decide (y>=n)=ac->(aa l=aa l/\fz<=aa l/\Ex.sz (qCD7 x)+(1:Nat)<=m/\Zn (qCD7 x)=ac/\(1:Nat)<=aa l/\aa l+(8:Nat)*Ex.sz (qCD7 x)+(8:Nat)<=(1000000000:Nat))/\∀(I:List (List Nat)),I=l++txX (qCD7 x)->I=J/\aa I=aa J/\fzO (ae (l,fz))=fzO (ae (l,fz)))/\(decide (y>=n)=ab->(aa l<=aa l/\fz<=aa l/\(aa l+(1:Nat))*(16:Nat)<=(140737488355328:Nat))/\(aa l+(1:Nat)=aa (qCD8 l)/\fz<=aa (qCD8 l)/\Ex.sz (qCD7 x)+(1:Nat)<=m/\Zn (qCD7 x)=ac/\(1:Nat)<=aa (qCD8 l)/\aa (qCD8 l)+(8:Nat)*Ex.sz (qCD7 x)+(8:Nat)<=(1000000000:Nat))/\∀(I:List (List Nat)),I=av (aa l) l++ [[(40:Nat)]]++txX (qCD7 x)->(aa I<=aa I/\fzO (ae (av (aa l) l++ [[(40:Nat)]],fz))<=aa I/\(aa I+(1:Nat))*(16:Nat)<=(140737488355328:Nat))/\av (aa I) I++ [[(41:Nat)]]=J/\aa I+(1:Nat)=aa J/\fzO (ae (av (aa l) l++ [[(40:Nat)]],fz))=fzO (ae (l,fz)))):=by kernel_rfl
noncomputable def Yi7(m:Nat):Sum thy:=sumB E dm Ykg (λl x=>x.1.sz<m/\Zn x.1=ac/\1<=l.length/\l.length+8*x.1.sz+10<=1000000000) λ(l:List (List Nat)) x=>l++par x.1.op x.2.1 (txX x.1)
noncomputable def Fxp'(m:Nat):Fns thy:=addS (addS (addS (addS Fpu 160 Sunp) 162 Z3y) 101 (Sxp m)) 161 (Yi7 m)
theorem Zyk(n:Int):PureC E 162 [.int ab .i64 n] (.int ab .i64 (Wk n)):=by
 refine Za E_ok (Zd E_ok F0_ok 400) ?_;rw[Zs1];unfold Wk;refine⟨λh=> ?_,λh=>⟨λI=> ?_,λI=>⟨λJ=> ?_,λJ=> ?_⟩⟩⟩
 all_goals simp at*
 all_goals simp[*]
theorem Zpy:SumOk E 162 Z3y:=Zw E_ok (Zc rfl) λx _=>Zyk x.1
def PxOk(m:Nat):Prop:=∀x:Ex,x.sz<m->Zn x=ac->∀(l:List (List Nat)) (fz:Nat),fz<=l.length->1<=l.length->l.length+8*x.sz+8<=1000000000->PrnC E 101 dm [exA x] (ae (l,fz)) (l++txX x)
theorem Z3z{m:Nat} (h:PxOk m):SumOk E 101 (Sxp m):=Ze0 E_ok (Zc rfl) λx=>⟨λl fz J I=>h x.1 I.1 I.2.1 l fz J I.2.2.1 I.2.2.2,λI=>absurd I.2.2.1 (by decide)⟩
theorem Ye6{m:Nat} (h:PxOk m):FnsOk E (Fop' m):=Zb (Zb F0_ok Zpy) (Z3z h)
mutual
theorem Xl:∀(x:Ex),(txX x).length+2<=8*x.sz
 | .mk op n a b c d l=>by
  have h:=Z30 l
  have R:∀I:List (List Nat),(txS (txL l) I).length+0<=8*Ex.szL l:=λI=>Z31 (txL l) I (8*Ex.szL l) h
  have hU:(txU [a,b,c,d]).length<=3:=by
   unfold txU
   rw[aD]
   split<;>split<;>simp
  have J:∀op least t,(par op least t).length<=t.length+2:=by
   intro op least t
   unfold par
   split
   ·omega
   ·simp
  have h2:=Z9r (txL l) _ h
  rw[txX,Ex.sz]
  unfold txN
  split
  ·rw[aB];omega
  ·split
   ·simp;omega
   ·split
    ·have:=R [Zri,V5,V5,Vs]
     rw[aB,aB]
     omega
    ·split
     ·rw[aD,aB]
      have U:=J ((l.map aJ).getD 0 0) (Wk op) ((txL l).getD 0 [])
      have a2:=J ((l.map aJ).getD 1 0) (Wk op+1) ((txL l).getD 1 [])
      omega
     ·have:=R [V5,Vs]
      rw[aB,aB]
      omega
theorem Z30:∀(l:List Ex),((txL l).map λt=>t.length+2).sum<=8*Ex.szL l
 | []=>by simp[txL]
 |x::r=>by
  have I:=Xl x
  have J:=Z30 r
  rw[txL,Ex.szL,cg,kh]
  omega
theorem Z31:∀(ts:List (List (List Nat))) (I:List (List Nat)) (b:Nat),(ts.map λt=>t.length+2).sum<=b->(txS ts I).length+0<=b
 | [],_,_,h=>by simp[txS]
 |t::r,[],_,h=>by simp[txS]
 |t::r,s::I,b,h=>by
  rw[cg,kh] at h
  have:=Z31 r I (b-(t.length+2)) (by omega)
  rw[txS,aD,aB]
  omega
theorem Z9r:∀(ts:List (List (List Nat))) (b:Nat),(ts.map λt=>t.length+2).sum<=b->(ts.getD 0 []).length+(ts.getD 1 []).length<=b
 | [],_,_=>by simp
 | [t],_,h=>by simp at h⊢;omega
 |t::u::r,_,h=>by simp at h⊢;omega
end
theorem Z9s{m:Nat} (hm:PxOk m) (l:List (List Nat)) (fz:Nat) (x:Ex) (n:Int) (J:x.sz<m) (R:Zn x=ac) (I:fz<=l.length) (U:1<=l.length) (hl:l.length+8*x.sz+10<=1000000000):PrnC E 161 dm [exA x,.int ab .i64 n] (ae (l,fz)) (l++par x.op n (txX x)):=by
 refine Z3w (Ye6 hm) (n:=400) rfl ?_;rw[Zyj];delta qCD7 qCD8;have ht:=Xl x;simp only[fzO,aW,Ex.eta,forall_eq,decide_eq_true_eq,decide_eq_false_iff_not,true_and,and_true];refine⟨λh=>⟨⟨I,J,R,U,by omega⟩,?_⟩,λh=>⟨⟨aw _,I,by omega⟩,⟨by simp,by simp;omega,J,R,by simp,by simp;omega⟩,⟨aw _,by simp;omega,by simp;omega⟩,?_⟩⟩
 ·have:par x.op n (txX x)=txX x:=by unfold par;rw[if_pos h]
  rw[this];exact⟨rfl,rfl⟩
 ·have:par x.op n (txX x)=Zf0::(txX x++ [Vs]):=by unfold par;rw[if_neg h]
  rw[this];simp[Zf0,Vs];omega
theorem Z9t{m:Nat} (h:PxOk m):SumOk E 161 (Yi7 m):=Ze0 E_ok (Zc rfl) λx=>⟨λl fz J I=>Z9s h l fz x.1 x.2.1 I.1 I.2.1 J I.2.2.1 I.2.2.2,λI=>absurd I.2.2.1 (by decide)⟩
theorem Ye7{m:Nat} (h:PxOk m):FnsOk E (Fxp' m):=Zb (Zb (Zb (Zb Zvl Ye5) Zpy) (Z3z h)) (Z9t h)
end
section
open Go
def dD(u:Nat):List Nat:=(Lib.decDigits u).map cJ
theorem Zen{u:Nat} (h:u<10):dD u= [48+u]:=by
 unfold dD;rw[Lib.decDigits,dif_pos h];have:(fe (48+u)).toNat=48+u:=by
  rw[gF];omega
 simp only[cg,dI,this]
theorem Zqm{u:Nat} (h:¬u<10):dD u=dD (u/10)++ [48+u%10]:=by
 unfold dD;rw[Lib.decDigits,dif_neg h];have:(fe (48+u%10)).toNat=48+u%10:=by
  rw[gF];omega
 rw[fD];simp only[cg,dI,this]
theorem Z5t{n:Int} (h:0<=n):decN n=dD n.toNat:=by
 unfold decN dD Lib.itoa;rw[if_neg (by omega)]
theorem Zwk:∀{a b:List Nat} {n m:Int},numL n a=(m,0)->numL n (a++b)=numL m b
 | [],b,n,m,h=>by
  unfold numL at h
  cases h
  rfl
 |c::r,b,n,m,h=>by
  unfold numL at h
  rw[da]
  unfold numL
  split at h
  ·cases h
  ·rename_i I
   rw[if_neg I,Zwk h]
   cases b<;>rfl
theorem Yar(u:Nat):dD u≠ []:=by
 by_cases h:u<10
 ·rw[Zen h];simp
 ·rw[Zqm h];simp
theorem Yjq:∀(u:Nat),u<=1099511627776->numL 0 (dD u)=((u:Int),0):=by
 intro u
 induction u using ir with
 |_ u I=>
  intro J;by_cases h:u<10
  ·rw[Zen h]
   unfold numL;rw[if_neg (by omega)];unfold numL
   congr 1
   omega
  ·rw[Zqm h,Zwk (I (u/10) (by omega) (by omega))]
   unfold numL;rw[if_neg (by omega)];unfold numL
   congr 1
   omega
theorem Yjr:∀(u:Nat),∀c∈dD u,isD (c:Int)=true:=by
 intro u
 induction u using ir with
 |_ u J=>
  have one:∀k:Nat,k<10->isD ((48+k:Nat):Int)=true:=by
   intro k R;unfold isD;simp;omega
  by_cases h:u<10
  ·rw[Zen h]
   intro c I;rw[cd] at I;subst I;exact one u h
  ·rw[Zqm h]
   intro c I;rcases bT.1 I with I|I
   ·exact J (u/10) (by omega) c I
   ·rw[cd] at I
    subst I;exact one _ (by omega)
theorem Yga:∀(u:Nat),1<(dD u).length->(dD u).head?≠ae 48:=by
 intro u
 induction u using ir with
 |_ u R=>
  by_cases h:u<10
  ·rw[Zen h]
   intro J;simp at J
  ·rw[Zqm h]
   intro _;have e:(dD (u/10)++ [48+u%10]).head? =(dD (u/10)).head? :=by
    cases hd:dD (u/10) with
    |nil=>exact absurd hd (Yar _)
    |cons x r=>rfl
   rw[e];by_cases I:u/10<10
   ·rw[Zen I]
    intro k;injection k with k
    omega
   ·refine R (u/10) (by omega) ?_
    rw[Zqm I,aD];have:=Yar (u/10/10);cases hd:dD (u/10/10) with
    |nil=>exact absurd hd this
    |cons x r=>simp
theorem Z5u{n:Int} (J:0<=n) (h1:n<=1099511627776):tokP (decN n)=(⟨2,decN n,n,0⟩,0):=by
 rw[Z5t J];have a0:=Yar n.toNat;have hd:=Yjr n.toNat;have hn:=Yjq n.toNat (by omega);have U:=Yga n.toNat;have R:((n.toNat:Nat):Int)=n:=by omega
 generalize dD n.toNat=w at*;cases w with
 |nil=>exact absurd rfl a0
 |cons c r=>
  rw[W4];have I:=hd c (by simp);have hl:isL (c:Int)=false:=by
   unfold isD at I;unfold isL;simp at I⊢;omega
  rw[if_neg (by rw[hl];decide),if_pos I,Zc3 hd,aW];have:numb (c::r)=(n,0):=by
   unfold numb;rw[if_neg (λk=>U k.1 k.2),hn,R]
  rw[this]
theorem Zgo{n:Int} (I:0<=n) (J:n<=1099511627776):TokW (decN n):=by
 refine⟨by rw[Z5u I J],by rw[Z5u I J],?_⟩;rw[Z5t I];exact Yar _
theorem Ylg{c:Nat} (h:wb c=ac):isLD (c:Int)=true:=by
 unfold wb at h;unfold isLD isL isD;simp at h⊢;omega
theorem Zwl{s:List Nat} (h:Um s=ac):tokP s=(⟨1,s,0,0⟩,0):=by
 unfold Um at h;rw[aq,aq,decide_eq_true_eq] at h;obtain⟨⟨U,I⟩,R⟩:=h;cases s with
 |nil=>cases I
 |cons c r=>
  have J:isL (c:Int)=true:=by
   unfold lowF at I;unfold isL;simp at I⊢;omega
  rw[W4,if_pos J,Zc3 λc J=>Ylg (eD.1 R c J),if_neg (by omega),aW]
theorem Zi9{s:List Nat} (h:Um s=ac):TokW s:=by
 refine⟨by rw[Zwl h],by rw[Zwl h],?_⟩;rintro rfl;simp[Um,lowF] at h
theorem Yas:∀k:WK,∀w∈k.words,Um w=true:=by
 intro k;cases k<;>decide
theorem Yjs{k:WK} {i:Nat} (h:i<k.words.length):k.words.getD i []∈k.words:=by
 have:k.words.getD i []=k.words[i]:=by simp[ah,h]
 rw[this];exact fV h
theorem Ygb{k:WK} {i:Nat} (h:i<k.words.length):Um (k.words.getD i [])=true:=Yas k _ (Yjs h)
end
section
open Go
def d0:List Int:= [0,0,0,0]
theorem Z8h{a b c d:Int} (h:Zck [a,b,c,d]=ac):in1 a=ac/\in1 b=ac/\in1 c=ac/\in1 d=true:=by
 rw[Zp5] at h;rw[aq] at h
 simpa using h.1
theorem Zdt{a:Int} (h:in1 a=ac):a= -1\/a=0\/a=1:=by
 unfold in1 at h;simp at h;omega
def UnF(u:List Int):Prop:=(u=d0/\txU u= [])\/(∃i,i<4/\u=incD d0 (i:Nat)/\txU u= [WK.un.words.getD i []])\/(∃j,j<4/\u=decD d0 (j:Nat)/\txU u= [sPer,WK.un.words.getD j []])\/(∃i,i<4/\∃j,j<4/\u=decD (incD d0 (i:Nat)) (j:Nat)/\txU u= [WK.un.words.getD i [],sPer,WK.un.words.getD j []])
instance (u:List Int):Decidable (UnF u):=by unfold UnF;infer_instance
theorem unF{a b c d:Int} (h:Zck [a,b,c,d]=ac):UnF [a,b,c,d]:=by
 obtain⟨I,J,R,hd⟩:=Z8h h;revert h;rcases Zdt I with rfl|rfl|rfl<;>rcases Zdt J with rfl|rfl|rfl<;>rcases Zdt R with rfl|rfl|rfl<;>rcases Zdt hd with rfl|rfl|rfl
 all_goals(clear I J R hd;decide)
theorem Zkp{op n:Int} {u:List Int} {k:Nat} (h:Zdh op n u k=ac):1<=op/\op<=11/\0<=n/\n<=Zz0 op/\k=Zk8 op/\Zck u=ac/\(op=1\/u= [0,0,0,0]):=by
 unfold Zdh at h;simp only[aq,be,decide_eq_true_eq] at h;obtain⟨⟨⟨⟨⟨⟨I,J⟩,R⟩,U⟩,h5⟩,h6⟩,h7⟩:=h;exact⟨I,J,R,U,h5,h6,h7⟩
theorem len2{α:Type} {l:List α} (h:l.length=2):∃a b,l= [a,b]:=by
 match l,h with
 | [a,b],_=>exact⟨a,b,rfl⟩
end
section
open Go
abbrev Zgf(x:Ex) (J:List (List Nat)) (l:List (List Nat)) (fz:Nat) (m:Nat) (U:List (List Nat)):Prop:=
 (wr af (aJ x-(3:Int))==(↑(0:Nat):Int))=ab->((wr af (aJ x-(3:Int))==(↑((0:Nat)+(1:Nat)):Int))=ac->(aa J<=
 aa J/\fzO (ae (l,fz))<=aa J/\(aa J+(1:Nat))*(16:Nat)<=(140737488355328:Nat))/\(0:Int)<=(1:Int)/\(1:Int)+(1:Int)
 <=(↑(aa (bw x)):Int)/\∀(I:Ex),(bw x)[ag (1:Int)]? =ae I->True/\∀(y:Int),y=Wk (aJ x)->(aa J+(1:Nat)=
 aa (av (aa J) J++ [[(45:Nat)]])/\fzO (ae (l,fz))<=aa (av (aa J) J++ [[(45:Nat)]])/\Ex.sz (bV (aJ
 I) (bX I) (bC I) (bD I) (bE I) (bF I) (bw I))+(1:Nat)<=m/\Zn (bV (aJ I) (bX I) (bC I) (bD I) (bE I) (bF I)
 (bw I))=ac/\(1:Nat)<=aa (av (aa J) J++ [[(45:Nat)]])/\aa (av (aa J) J++ [[(45:Nat)]])+(8:Nat)
 *Ex.sz (bV (aJ I) (bX I) (bC I) (bD I) (bE I) (bF I) (bw I))+(10:Nat)<=(1000000000:Nat))/\∀(R:List (List Nat)),R=
 av (aa J) J++ [[(45:Nat)]]++par (aJ (bV (aJ I) (bX I) (bC I) (bD I) (bE I) (bF I) (bw I))) (wr af (y+
 (1:Int))) (txX (bV (aJ I) (bX I) (bC I) (bD I) (bE I) (bF I) (bw I)))->R=U/\aa R=aa U/\fzO (ae (av
 (aa J) J++ [[(45:Nat)]],fzO (ae (l,fz))))=fzO (ae (l,fz)))/\((wr af (aJ x-(3:Int))==(↑((0:Nat)+(1:Nat)):Int))=ab->((wr
 af (aJ x-(3:Int))==(↑((0:Nat)+(1:Nat)+(1:Nat)):Int))=ac->(aa J<=aa J/\fzO (ae (l,fz))<=aa J/\
 (aa J+(1:Nat))*(16:Nat)<=(140737488355328:Nat))/\(0:Int)<=(1:Int)/\(1:Int)+(1:Int)<=(↑(aa (bw x)):Int)/\∀(I:Ex),(bw
 x)[ag (1:Int)]? =ae I->True/\∀(y:Int),y=Wk (aJ x)->(aa J+(1:Nat)=aa (av (aa J) J++ [[(42:Nat)]])
 /\fzO (ae (l,fz))<=aa (av (aa J) J++ [[(42:Nat)]])/\Ex.sz (bV (aJ I) (bX I) (bC I) (bD I) (bE I) (bF I)
 (bw I))+(1:Nat)<=m/\Zn (bV (aJ I) (bX I) (bC I) (bD I) (bE I) (bF I) (bw I))=ac/\(1:Nat)<=aa (av
 (aa J) J++ [[(42:Nat)]])/\aa (av (aa J) J++ [[(42:Nat)]])+(8:Nat)*Ex.sz (bV (aJ I) (bX I) (bC I)
 (bD I) (bE I) (bF I) (bw I))+(10:Nat)<=(1000000000:Nat))/\∀(R:List (List Nat)),R=av (aa J) J++ [[(42:Nat)]]++par
 (aJ (bV (aJ I) (bX I) (bC I) (bD I) (bE I) (bF I) (bw I))) (wr af (y+(1:Int))) (txX (bV (aJ I) (bX I) (bC I)
 (bD I) (bE I) (bF I) (bw I)))->R=U/\aa R=aa U/\fzO (ae (av (aa J) J++ [[(42:Nat)]],fzO (ae (l,
 fz))))=fzO (ae (l,fz)))/\((wr af (aJ x-(3:Int))==(↑((0:Nat)+(1:Nat)+(1:Nat)):Int))=ab->True))
abbrev Zgg(x:Ex) (J:List (List Nat)) (l:List (List Nat)) (fz:Nat) (m:Nat) (U:List (List Nat)):Prop:=
 (wr af (aJ x-(3:Int))==(↑(0:Nat):Int))=ac->(aa J<=aa J/\fzO (ae (l,fz))<=aa J/\(aa J+(1:
 Nat))*(16:Nat)<=(140737488355328:Nat))/\(0:Int)<=(1:Int)/\(1:Int)+(1:Int)<=(↑(aa (bw x)):Int)/\∀(I:Ex),(bw x)[ag (1:Int)]? =
 ae I->True/\∀(y:Int),y=Wk (aJ x)->(aa J+(1:Nat)=aa (av (aa J) J++ [[(43:Nat)]])/\fzO (ae (l,fz))<=
 aa (av (aa J) J++ [[(43:Nat)]])/\Ex.sz (bV (aJ I) (bX I) (bC I) (bD I) (bE I) (bF I) (bw I))+(1:Nat)<=
 m/\Zn (bV (aJ I) (bX I) (bC I) (bD I) (bE I) (bF I) (bw I))=ac/\(1:Nat)<=aa (av (aa J) J++ [[(43:
 Nat)]])/\aa (av (aa J) J++ [[(43:Nat)]])+(8:Nat)*Ex.sz (bV (aJ I) (bX I) (bC I) (bD I) (bE I) (bF I)
 (bw I))+(10:Nat)<=(1000000000:Nat))/\∀(R:List (List Nat)),R=av (aa J) J++ [[(43:Nat)]]++par (aJ (bV (aJ I) (bX
 I) (bC I) (bD I) (bE I) (bF I) (bw I))) (wr af (y+(1:Int))) (txX (bV (aJ I) (bX I) (bC I) (bD I) (bE I) (bF
 I) (bw I)))->R=U/\aa R=aa U/\fzO (ae (av (aa J) J++ [[(43:Nat)]],fzO (ae (l,fz))))=fzO (ae (l,fz))
abbrev Y7(I:Ex):=
 (bV (aJ I) (bX I) (bC I) (bD I) (bE I) (bF I) (bw I))
abbrev Vh(I:Ex):=
 (bV (aJ I) (bX I) (bC I) (bD I) (bE I) (bF I) (bw I))
abbrev Vi(I:Ex):=
 (bV (aJ I) (bX I) (bC I) (bD I) (bE I) (bF I) (bw I))
abbrev Zgh(l:List (List Nat)) (fz:Nat) (I:Ex) (m:Nat):Prop:=
 aa l=aa l/\fz<=aa l/\Ex.sz (Y7 I)+(1:Nat)<=m/\Zn (Y7 I)=ac/\(1:Nat)<=aa l/\aa l+(8:Nat)*
 Ex.sz (Y7 I)+(10:Nat)<=(1000000000:Nat)
abbrev Zd2(I:Ex):=
 (bV (aJ I) (bX I) (bC I) (bD I) (bE I) (bF I) (bw I))
abbrev qCG3(I:List (List Nat)):=(aa I)
abbrev qCGe:=(40:Nat)
abbrev qCGa(I:List (List Nat)) (J:Nat):=(ae (av (qCG3 I) I++ [[(105:Nat),(102:Nat)],[qCGe]],J))
abbrev qCG1(I:List (List Nat)) (J:List (List Nat)) (R:Nat):=(ae (av (qCG3 I) I++ [[(60:Nat)]],fzO (qCGa J R)))
abbrev qCGf:=(44:Nat)
abbrev qCG2(I:List (List Nat)):=(av (qCG3 I) I++ [[qCGf]])
abbrev qCG4:=(140737488355328:Nat)
abbrev qCG5(I:Ex):=(↑(aa (bw I)):Int)
abbrev qCG6(I:List (List Nat)):=(av (qCG3 I) I++ [[(105:Nat),(102:Nat)],[qCGe]])
abbrev qCG7:=(0:Int)
abbrev qCG8:=(1:Nat)
abbrev qCG9:=(1:Int)
abbrev qCGb:=(1000000000:Nat)
abbrev qCGc(I:List (List Nat)):=(av (qCG3 I) I++ [[(60:Nat)]])
abbrev qCGd(I:List (List Nat)):=(aa I+qCG8)
abbrev qCGg:=(8:Nat)
abbrev qCGh:=(16:Nat)
abbrev qCGi:=(3:Int)
abbrev qCGj(I:List (List Nat)) (J:List (List Nat)) (R:List (List Nat)) (d0:Nat):=(ae (av (qCG3 I) I++ [[qCGf]],fzO (qCG1 J R d0)))
theorem Zx7(m:Nat) (l:List (List Nat)) (fz:Nat) (x:Ex) (l':List (List Nat)):Zj E Fpu (vc E (Fxp' m) 400) 101 [.ptr 0 0,exA x] (hpP E dm (ae (l,fz))) 2 (prnK E dm (ae (l,fz)) l')=(
 ((aJ x==qCG9)=ac->(qCG7<=bX x/\bX x+qCG9<=(10000000000000:Int))/\∀(y:List Nat),y=decN (bX x)->(aa l<=aa l/\fz<=aa l/\(qCGd l)*qCGh<=qCG4)/\(aa l+qCG8=aa (av (qCG3 l) l++ [y])/\fz<=aa (av (qCG3 l) l++ [y])/\qCG8<=aa (av (qCG3 l) l++ [y])/\aa (av (qCG3 l) l++ [y])+qCGg<=qCGb)/\∀(I:List (List Nat)),I=av (qCG3 l) l++ [y]++txU [bC x,bD x,bE x,bF x]->I=l'/\aa I=aa l'/\fzO (ae (av (qCG3 l) l++ [y],fz))=fzO (ae (l,fz)))/\((aJ x==qCG9)=ab->((aJ x==(2:Int))=ac->qCG7<=bX x/\bX x+qCG9<=(↑(aa (WK.words WK.at_)):Int)/\∀(J:List Nat),(WK.words WK.at_)[ag (bX x)]? =ae J->(aa l<=aa l/\fz<=aa l/\(qCGd l)*qCGh<=qCG4)/\av (qCG3 l) l++ [J]=l'/\aa l+qCG8=aa l'/\fz=fzO (ae (l,fz)))/\((aJ x==(2:Int))=ab->((aJ x==(11:Int))=ac->(aa l<=aa l/\fz<=aa l/\(aa l+(2:Nat))*qCGh<=qCG4)/\qCG7<=qCG7/\qCG7+qCG9<=(qCG5 x)/\∀(J:Ex),(bw x)[ag qCG7]? =ae J->(aa l+(2:Nat)=aa (qCG6 l)/\fz<=aa (qCG6 l)/\Ex.sz (Y7 J)+qCG8<=m/\Zn (Y7 J)=ac/\qCG8<=aa (qCG6 l)/\aa (qCG6 l)+qCGg*Ex.sz (Y7 J)+qCGg<=qCGb)/\∀(I:List (List Nat)),I=av (qCG3 l) l++ [[(105:Nat),(102:Nat)],[qCGe]]++txX (Y7 J)->(aa I<=aa I/\fzO (qCGa l fz)<=aa I/\(qCGd I)*qCGh<=qCG4)/\qCG7<=qCG9/\qCG9+qCG9<=(qCG5 x)/\∀(a0:Ex),(bw x)[ag qCG9]? =ae a0->(aa I+qCG8=aa (qCGc I)/\fzO (qCGa l fz)<=aa (qCGc I)/\Ex.sz (Vh a0)+qCG8<=m/\Zn (Vh a0)=ac/\qCG8<=aa (qCGc I)/\aa (qCGc I)+qCGg*Ex.sz (Vh a0)+qCGg<=qCGb)/\∀(R:List (List Nat)),R=av (qCG3 I) I++ [[(60:Nat)]]++txX (Vh a0)->(aa R<=aa R/\fzO (qCG1 I l fz)<=aa R/\(qCGd R)*qCGh<=qCG4)/\qCG7<=(2:Int)/\(2:Int)+qCG9<=(qCG5 x)/\∀(a1:Ex),(bw x)[ag (2:Int)]? =ae a1->(aa R+qCG8=aa (qCG2 R)/\fzO (qCG1 I l fz)<=aa (qCG2 R)/\Ex.sz (Vi a1)+qCG8<=m/\Zn (Vi a1)=ac/\qCG8<=aa (qCG2 R)/\aa (qCG2 R)+qCGg*Ex.sz (Vi a1)+qCGg<=qCGb)/\∀(U:List (List Nat)),U=av (qCG3 R) R++ [[qCGf]]++txX (Vi a1)->(aa U<=aa U/\fzO (qCGj R I l fz)<=aa U/\(qCGd U)*qCGh<=qCG4)/\qCG7<=qCGi/\qCGi+qCG9<=(qCG5 x)/\∀(a3:Ex),(bw x)[ag qCGi]? =ae a3->(aa U+qCG8=aa (qCG2 U)/\fzO (qCGj R I l fz)<=aa (qCG2 U)/\Ex.sz (Zd2 a3)+qCG8<=m/\Zn (Zd2 a3)=ac/\qCG8<=aa (qCG2 U)/\aa (qCG2 U)+qCGg*Ex.sz (Zd2 a3)+qCGg<=qCGb)/\∀(a2:List (List Nat)),a2=av (qCG3 U) U++ [[qCGf]]++txX (Zd2 a3)->(aa a2<=aa a2/\fzO (ae (av (qCG3 U) U++ [[qCGf]],fzO (qCGj R I l fz)))<=aa a2/\(qCGd a2)*qCGh<=qCG4)/\av (qCG3 a2) a2++ [[(41:Nat)]]=l'/\aa a2+qCG8=aa l'/\fzO (ae (av (qCG3 U) U++ [[qCGf]],fzO (qCGj R I l fz)))=fzO (ae (l,fz)))/\((aJ x==(11:Int))=ab->((aJ x==qCGi)=ac->qCG7<=qCG7/\qCG7+qCG9<=(qCG5 x)/\∀(J:Ex),(bw x)[ag qCG7]? =ae J->True/\∀(y:Int),y=Wk (aJ x)->(Zgh l fz J m)/\∀(I
:List (List Nat)),I=l++par (aJ (Y7 J)) y (txX (Y7 J))->qCG7<=wr af (aJ x-qCGi)/\wr af (aJ x-qCGi)+qCG9<=(↑(3:Nat):Int)/\(Zgg x I l fz m l')/\(Zgf x I l fz m l'))/\((aJ x==qCGi)=ab->((aJ x==(4:Int))=ac->qCG7<=qCG7/\qCG7+qCG9<=(qCG5 x)/\∀(J:Ex),(bw x)[ag qCG7]? =ae J->True/\∀(y:Int),y=Wk (aJ x)->(Zgh l fz J m)/\∀(I:List (List Nat)),I=l++par (aJ (Y7 J)) y (txX (Y7 J))->qCG7<=wr af (aJ x-qCGi)/\wr af (aJ x-qCGi)+qCG9<=(↑(3:Nat):Int)/\(Zgg x I l fz m l')/\(Zgf x I l fz m l'))/\((aJ x==(4:Int))=ab->((aJ x==(5:Int))=ac->qCG7<=qCG7/\qCG7+qCG9<=(qCG5 x)/\∀(J:Ex),(bw x)[ag qCG7]? =ae J->True/\∀(y:Int),y=Wk (aJ x)->(Zgh l fz J m)/\∀(I:List (List Nat)),I=l++par (aJ (Y7 J)) y (txX (Y7 J))->qCG7<=wr af (aJ x-qCGi)/\wr af (aJ x-qCGi)+qCG9<=(↑(3:Nat):Int)/\(Zgg x I l fz m l')/\(Zgf x I l fz m l'))/\((aJ x==(5:Int))=ab->qCG7<=wr af (aJ x-(6:Int))/\wr af (aJ x-(6:Int))+qCG9<=(↑(aa (WK.words WK.ca)):Int)/\∀(J:List Nat),(WK.words WK.ca)[ag (wr af (aJ x-(6:Int)))]? =ae J->(aa l<=aa l/\fz<=aa l/\(aa l+(2:Nat))*qCGh<=qCG4)/\qCG7<=qCG7/\qCG7+qCG9<=(qCG5 x)/\∀(a0:Ex),(bw x)[ag qCG7]? =ae a0->(aa l+(2:Nat)=aa (av (qCG3 l) l++ [J,[qCGe]])/\fz<=aa (av (qCG3 l) l++ [J,[qCGe]])/\Ex.sz (Vh a0)+qCG8<=m/\Zn (Vh a0)=ac/\qCG8<=aa (av (qCG3 l) l++ [J,[qCGe]])/\aa (av (qCG3 l) l++ [J,[qCGe]])+qCGg*Ex.sz (Vh a0)+qCGg<=qCGb)/\∀(I:List (List Nat)),I=av (qCG3 l) l++ [J,[qCGe]]++txX (Vh a0)->(aa I<=aa I/\fzO (ae (av (qCG3 l) l++ [J,[qCGe]],fz))<=aa I/\(qCGd I)*qCGh<=qCG4)/\qCG7<=qCG9/\qCG9+qCG9<=(qCG5 x)/\∀(a1:Ex),(bw x)[ag qCG9]? =ae a1->(aa I+qCG8=aa (qCG2 I)/\fzO (ae (av (qCG3 l) l++ [J,[qCGe]],fz))<=aa (qCG2 I)/\Ex.sz (Vi a1)+qCG8<=m/\Zn (Vi a1)=ac/\qCG8<=aa (qCG2 I)/\aa (qCG2 I)+qCGg*Ex.sz (Vi a1)+qCGg<=qCGb)/\∀(R:List (List Nat)),R=av (qCG3 I) I++ [[qCGf]]++txX (Vi a1)->(aa R<=aa R/\fzO (ae (av (qCG3 I) I++ [[qCGf]],fzO (ae (av (qCG3 l) l++ [J,[qCGe]],fz))))<=aa R/\(qCGd R)*qCGh<=qCG4)/\av (qCG3 R) R++ [[(41:Nat)]]=l'/\aa R+qCG8=aa l'/\fzO (ae (av (qCG3 I) I++ [[qCGf]],fzO (ae (av (qCG3 l) l++ [J,[qCGe]],fz))))=fzO (ae (l,fz))))))))):=by kernel_rfl
theorem Ykw(op n a b c d:Int) (l:List Ex):aJ (.mk op n a b c d l)=op:=rfl
theorem n_mk(op n a b c d:Int) (l:List Ex):bX (.mk op n a b c d l)=n:=rfl
theorem Ykx(op n a b c d:Int) (l:List Ex):bC (.mk op n a b c d l)=a:=rfl
theorem Yky(op n a b c d:Int) (l:List Ex):bD (.mk op n a b c d l)=b:=rfl
theorem Ykz(op n a b c d:Int) (l:List Ex):bE (.mk op n a b c d l)=c:=rfl
theorem Yk0(op n a b c d:Int) (l:List Ex):bF (.mk op n a b c d l)=d:=rfl
theorem l_mk(op n a b c d:Int) (l:List Ex):bw (.mk op n a b c d l)=l:=rfl
theorem u_mk(op n a b c d:Int) (l:List Ex):Ex.u (.mk op n a b c d l)= [a,b,c,d]:=rfl
theorem len4{α:Type} {l:List α} (h:l.length=4):∃a b c d,l= [a,b,c,d]:=by
 match l,h with
 | [a,b,c,d],_=>exact⟨a,b,c,d,rfl⟩
theorem Zso(op least:Int) (t:List (List Nat)):(par op least t).length<=t.length+2:=by
 unfold par;split
 ·omega
 ·simp
theorem Zu9:∀m,PxOk m
 |0=>λx h=>by omega
 |m+1=>by
  intro x hx hf l fz a1 h1 hl
  have hm:=Zu9 m
  refine Xv E_ok (Xj E_ok Zvl λf N c=>(Zf4 E_ok (Ye7 hm) 400 f N c).1) rfl ?_
  show Zj E Fpu (vc E (Fxp' m) 400) 101 [.ptr 0 0,exA x] (hpP E dm (ae (l,fz))) 2 (prnK E dm (ae (l,fz)) (l++txX x))
  rw[Zx7];delta qCG3 qCGe qCGa qCG1 qCGf qCG2 qCG4 qCG5 qCG6 qCG7 qCG8 qCG9 qCGb qCGc qCGd qCGg qCGh qCGi qCGj
  unfold Zd2 Zgh Vi Vh Y7 Zgg Zgf
  simp only[fzO,aW,Ex.eta,forall_eq,beq_iff_eq,beq_eq_false_iff_ne,ne_eq]
  rw[Zdi,aq] at hf
  obtain⟨hh,a0⟩:=hf
  have R:∀y∈x.l,Zn y=true:=formL_iff.1 a0
  rw[Ex.sz_eq] at hx hl
  obtain⟨op,n,a,b,c,d,xs⟩:=x
  simp only[Ykw,n_mk,Ykx,Yky,Ykz,Yk0,l_mk,u_mk] at*
  obtain⟨g1,g2,g3,g4,g5,g6,g7⟩:=Zkp hh
  have a2:txX (.mk op n a b c d xs)=txN op n [a,b,c,d] (xs.map aJ) (txL xs):=by rw[txX]
  rw[a2]
  clear hh a0 a2
  have w0:wr .i64 0=0:=by decide
  have w1:wr .i64 1=1:=by decide
  have w2:wr .i64 2=2:=by decide
  have w3:wr .i64 3=3:=by decide
  have t3:Wk 3=1:=rfl
  have t4:Wk 4=1:=rfl
  have t5:Wk 5=2:=rfl
  refine⟨λq1=> ?_,λq1=>⟨λq2=> ?_,λq2=>⟨λq3=> ?_,λq3=>⟨λq4=> ?_,λq4=>⟨λq5=> ?_,λq5=>⟨λq6=> ?_,λq6=> ?_⟩⟩⟩⟩⟩⟩
  ·subst q1
   have h4:n<=1099511627776:=g4
   refine⟨⟨g3,by omega⟩,⟨aw _,a1,by omega⟩,⟨by simp,by simp;omega,by simp,by simp;omega⟩,?_⟩
   simp[txN]
  ·subst q2
   have h4:n<=15:=g4
   have L:WK.at_.words.length=16:=rfl
   refine⟨g3,by rw[L];omega,λw hw=>⟨⟨aw _,a1,by omega⟩,?_⟩⟩
   have:WK.at_.words.getD n.toNat []=w:=by simp[ah,hw]
   unfold txN
   rw[if_neg (by decide),if_pos rfl,this]
   simp
  ·subst q3
   obtain⟨I,J,x3,x4,rfl⟩:=len4 (show xs.length=4 from g5)
   have s:I.sz+(J.sz+(x3.sz+(x4.sz+0)))+1<m+1:=hx
   have s':l.length+8*(I.sz+(J.sz+(x3.sz+(x4.sz+0)))+1)+8<=1000000000:=hl
   have p1:=Xl I
   have p2:=Xl J
   have p3:=Xl x3
   have p4:=Xl x4
   have U:=R I (by simp)
   have f2:=R J (by simp)
   have f3:=R x3 (by simp)
   have f4:=R x4 (by simp)
   simp[U,f2,f3,f4,txN,txS,txL,sIf,Zf0,Zri,V5,Vs]
   omega
  ·subst q4
   obtain⟨I,J,rfl⟩:=len2 (show xs.length=2 from g5)
   have s:I.sz+(J.sz+0)+1<m+1:=hx
   have s':l.length+8*(I.sz+(J.sz+0)+1)+8<=1000000000:=hl
   have p1:=Xl I
   have p2:=Xl J
   have U:=R I (by simp)
   have f2:=R J (by simp)
   have r1:=Zso I.op 1 (txX I)
   simp[w0,w1,w2,w3,t3,U,f2,txN,txL,sgnO,Zsz]
   omega
  ·subst q5
   obtain⟨I,J,rfl⟩:=len2 (show xs.length=2 from g5)
   have s:I.sz+(J.sz+0)+1<m+1:=hx
   have s':l.length+8*(I.sz+(J.sz+0)+1)+8<=1000000000:=hl
   have p1:=Xl I
   have p2:=Xl J
   have U:=R I (by simp)
   have f2:=R J (by simp)
   have r1:=Zso I.op 1 (txX I)
   simp[w0,w1,w2,w3,t4,U,f2,txN,txL,sgnO,Zkv]
   omega
  ·subst q6
   obtain⟨I,J,rfl⟩:=len2 (show xs.length=2 from g5)
   have s:I.sz+(J.sz+0)+1<m+1:=hx
   have s':l.length+8*(I.sz+(J.sz+0)+1)+8<=1000000000:=hl
   have p1:=Xl I
   have p2:=Xl J
   have U:=R I (by simp)
   have f2:=R J (by simp)
   have r1:=Zso I.op 2 (txX I)
   simp[w0,w1,w2,w3,t5,U,f2,txN,txL,sgnO,sMul]
   omega
  ·have L:WK.ca.words.length=5:=rfl
   obtain⟨I,J,rfl⟩:=len2 (show xs.length=2 by rw[g5];unfold Zk8;rw[if_neg (by omega),if_neg (by omega)])
   have s:I.sz+(J.sz+0)+1<m+1:=hx
   have s':l.length+8*(I.sz+(J.sz+0)+1)+8<=1000000000:=hl
   have p1:=Xl I
   have p2:=Xl J
   have U:=R I (by simp)
   have f2:=R J (by simp)
   have wo:wr .i64 (op-6)=op-6:=wr64 (by omega) (by omega)
   simp only[wo]
   refine⟨by omega,by rw[L];omega,λw hw=> ?_⟩
   have e:WK.ca.words.getD (op-6).toNat []=w:=by simp[ah,hw]
   have q7:¬(op=3\/op=4\/op=5):=by omega
   unfold txN
   rw[if_neg q1,if_neg q2,if_neg q3,if_neg q7,e]
   simp[U,f2,txS,txL,Zf0,V5,Vs]
   omega
end
section
open Go
def CsOk:List (List Nat)->List Cls->Prop
 |_,[]=>True
 |seen,c::r=>W5 c=ac/\resF c.name=ab/\c.name∉seen/\c.when_.length<=8/\Y5 c.pay<=24/\CsOk (c.name::seen) r
def Yec(m:List (List Nat×Bool)) (seen:List (List Nat)):Prop:=∀a,(Z6 m a).getD ab=decide (a∈seen)
theorem Z27{m:List (List Nat×Bool)} {seen:List (List Nat)} (h:Yec m seen) (a:List Nat):Yec (putS m a ac) (a::seen):=by
 intro b;rw[Zit];by_cases e:a=b
 ·rw[if_pos e]
  subst e;simp
 ·rw[if_neg e,h b]
  simp[Ne.symm e]
theorem Zvb:∀(cs:List Cls) (a b:Bool) (m:List (List Nat×Bool)) (seen:List (List Nat)),Yec m seen->(goC a b m cs=0↔a=ab/\b=ab/\CsOk seen cs)
 | [],a,b,m,seen,hm=>by
  unfold goC CsOk
  cases a<;>cases b<;>decide
 |c::r,a,b,m,seen,hm=>by
  rw[Zeo]
  unfold CsOk
  by_cases I:W5 c=ac
  ·rw[if_pos I,Zvb r _ _ _ _ (Z27 hm c.name),hm c.name]
   simp only[bA,decide_eq_false_iff_not]
   constructor
   ·rintro⟨⟨⟨J,R⟩,U⟩,⟨⟨h4,h5⟩,h6⟩,h7⟩
    exact⟨J,h4,I,R,U,by omega,by omega,h7⟩
   ·rintro⟨J,h4,_,R,U,h5,h6,h7⟩
    exact⟨⟨⟨J,R⟩,U⟩,⟨⟨h4,by omega⟩,by omega⟩,h7⟩
  ·rw[if_neg I]
   constructor
   ·intro h
    cases h
   ·rintro⟨_,_,h,_⟩
    exact absurd h I
theorem Zdb(t:Tar):Ya t=0↔Um t.name=ac/\1<=t.for_/\t.for_<=6/\resF t.name=ab/\t.clauses.length<=64/\CsOk [] t.clauses:=by
 unfold Ya;split
 ·rename_i h
  rw[Zvb _ _ _ _ [] (λa=>by simp[Z6])];rw[decide_eq_false_iff_not];constructor
  ·rintro⟨I,R,J⟩
   exact⟨h.1,h.2.1,h.2.2,I,by omega,J⟩
  ·rintro⟨_,_,_,I,R,J⟩
   exact⟨I,by omega,J⟩
 ·rename_i h
  constructor
  ·intro k
   cases k
  ·rintro⟨I,R,J,_⟩
   exact absurd ⟨I,R,J⟩ h
theorem Zdc{c:Cls} (h:W5 c=ac):Um c.name=ac/\Zn c.pay=ac/\∀w∈c.when_,Ys w=true:=by
 unfold W5 at h;rw[aq,aq] at h;exact⟨h.1.1,h.1.2,eD.1 h.2⟩
end
section
open Go
theorem Z1a(i:Nat) (w:Tst) (r:List Tst):txTs i (w::r)=(if i=0 then Zls else sAnd)::(txW w++txTs (i+1) r):=rfl
theorem Zfl{w:Tst} (h:Ys w=ac):0<=w.attr/\w.attr<16/\0<=w.low/\w.low<=1099511627776/\0<=w.high/\w.high<=1099511627776:=of_decide_eq_true h
theorem Z1b(c:Cls) (r:List Cls):txCs (c::r)=txC c++txCs r:=rfl
end
section
open Go
abbrev PP(β:Type):=List Tok->Int->PR β
section
variable {α β:Type}
def pB(p:PP α) (q:α->PP β):PP β:=λl e=>
 match p l e with
 | .error I=> .error I
 | .ok (y,x)=>q y x.1 x.2.1
end
end
section
open Go
def TkG(t:Tok):Prop:=TokW t.text/\sT t=tkS t.text/\(t.kind=1->Um t.text=ac)/\(t.kind=2->0<=t.n/\t.n<=1099511627776)
def LxOk(l:List Tok):Prop:=∀t∈l,TkG t
theorem LxOk.drop{l:List Tok} (h:LxOk l) (k:Nat):LxOk (l.drop k):=λt I=>h t (List.mem_of_mem_drop I)
theorem LxOk.tail{l:List Tok} (h:LxOk l):LxOk l.tail:=λt I=>h t (List.mem_of_mem_tail I)
section
variable {α β:Type}
end
theorem Zql(s:List (List Nat)) (c:Cls) (r:List Cls):CsOk s (c::r)=(W5 c=ac/\resF c.name=ab/\c.name∉s/\c.when_.length<=8/\Y5 c.pay<=24/\CsOk (c.name::s) r):=rfl
end
section
open Go
def AllW(ws:List (List Nat)):Prop:=∀w∈ws,TokW w
theorem V9{a b:List (List Nat)} (I:AllW a) (J:AllW b):AllW (a++b):=λw R=>(bT.1 R).elim (I w) (J w)
theorem Zk{w:List Nat} {b:List (List Nat)} (I:TokW w) (J:AllW b):AllW (w::b):=λx R=>(aM.1 R).elim (λe=>e▸I) (J x)
theorem Yl:AllW []:=λw I=>by cases I
theorem tw{w:List Nat} (I:(tokP w).2=0) (J:(tokP w).1.text=w) (R:w≠ []):TokW w:=⟨I,J,R⟩
theorem Zsf:TokW Zf0:=tw rfl rfl (by decide)
theorem Zmj:TokW Vs:=tw rfl rfl (by decide)
theorem Zmk:TokW V5:=tw rfl rfl (by decide)
theorem Ydw:TokW Zri:=tw rfl rfl (by decide)
theorem Ydx:TokW Ydr:=tw rfl rfl (by decide)
theorem Ydy:TokW Zsz:=tw rfl rfl (by decide)
theorem Z8f:TokW Zkv:=tw rfl rfl (by decide)
theorem Yic:TokW sMul:=tw rfl rfl (by decide)
theorem Ydz:TokW Zrm:=tw rfl rfl (by decide)
theorem Ykr:TokW sLb:=tw rfl rfl (by decide)
theorem Yks:TokW sRb:=tw rfl rfl (by decide)
theorem Ykt:TokW sIf:=tw rfl rfl (by decide)
theorem Ybn:TokW sPer:=tw rfl rfl (by decide)
theorem Yku:TokW sIs:=tw rfl rfl (by decide)
theorem Ykv:TokW sIn:=tw rfl rfl (by decide)
theorem Yid:TokW sPay:=tw rfl rfl (by decide)
theorem Yie:TokW sFor:=tw rfl rfl (by decide)
theorem Z2c:TokW Zsd:=tw rfl rfl (by decide)
theorem Z2d:TokW V1:=tw rfl rfl (by decide)
theorem Yd0:TokW Zls:=tw rfl rfl (by decide)
theorem Yif:TokW sAnd:=tw rfl rfl (by decide)
theorem Zo4{k:WK} {i:Nat} (h:i<k.words.length):TokW (k.words.getD i []):=Zi9 (Ygb h)
theorem Yig{a b c d:Int} (h:Zck [a,b,c,d]=ac):AllW (txU [a,b,c,d]):=by
 rcases unF h with⟨_,I⟩|⟨i,hi,_,I⟩|⟨j,J,_,I⟩|⟨i,hi,j,J,_,I⟩
 ·rw[I];exact Yl
 ·rw[I];exact Zk (Zo4 (k:= .un) hi) Yl
 ·rw[I];exact Zk Ybn (Zk (Zo4 (k:= .un) J) Yl)
 ·rw[I];exact Zk (Zo4 (k:= .un) hi) (Zk Ybn (Zk (Zo4 (k:= .un) J) Yl))
theorem Zu2{op least:Int} {t:List (List Nat)} (h:AllW t):AllW (par op least t):=by
 unfold par;split
 ·exact h
 ·exact Zk Zsf (V9 h (Zk Zmj Yl))
theorem Z2e:∀{ts:List (List (List Nat))} {I:List (List Nat)},(∀t∈ts,AllW t)->AllW I->AllW (txS ts I)
 | [],_,_,_=>by unfold txS;exact Yl
 |t::r,[],_,_=>by unfold txS;exact Yl
 |t::r,s::I,J,R=>by
  unfold txS
  exact V9 (J t (by simp)) (Zk (R s (by simp)) (Z2e (λt U=>J t (by simp[U])) λw hw=>R w (by simp[hw])))
theorem Z2f:∀{l:List Ex} {t:List (List Nat)},t∈txL l->∃x∈l,t=txX x
 | [],t,h=>by cases h
 |x::r,t,h=>by
  unfold txL at h
  rcases aM.1 h with rfl|h
  ·exact⟨x,by simp,rfl⟩
  ·obtain⟨y,I,e⟩:=Z2f h
   exact⟨y,by simp[I],e⟩
theorem Yih:∀(x:Ex),Zn x=ac->AllW (txX x):=by
 suffices H:∀(m:Nat) (x:Ex),x.sz<=m->Zn x=ac->AllW (txX x) fromλx=>H _ x (aw _)
 intro m
 induction m with
 |zero=>intro x h;have:=x.sz_pos;omega
 |succ m ih=>
  intro x hm R;rw[Zdi,aq] at R;obtain⟨hh,hl⟩:=R;have a0:∀y∈x.l,AllW (txX y):=λy hy=>ih y (by have:=Ex.sz_mem hy;omega) (formL_iff.1 hl y hy);obtain⟨op,n,a,b,c,d,l⟩:=x;simp only[aJ,bX,Ex.u,bC,bD,bE,bF,bw] at hh a0;obtain⟨h1,h2,h3,J,h5,h6,h7⟩:=Zkp hh;have I:∀t∈txL l,AllW t:=by
   intro t ht;obtain⟨x,hx,rfl⟩:=Z2f ht;exact a0 x hx
  have U:∀i,AllW ((txL l).getD i []):=by
   intro i;by_cases hi:i<(txL l).length
   ·have:(txL l).getD i []=(txL l)[i]:=by simp[ah,hi]
    rw[this];exact I _ (fV hi)
   ·have:(txL l).getD i []= []:=by simp[ah,hi]
    rw[this];exact Yl
  rw[txX];unfold txN;split
  ·rename_i q
   subst q;exact Zk (Zgo h3 J) (Yig h6)
  ·split
   ·rename_i q
    subst q;have:n<=15:=J;exact Zk (Zo4 (k:= .at_) (show n.toNat<16 by omega)) Yl
   ·split
    ·exact Zk Ykt (Zk Zsf (Z2e I (Zk Ydw (Zk Zmk (Zk Zmk (Zk Zmj Yl))))))
    ·split
     ·refine V9 (Zu2 (U 0)) (Zk ?_ (Zu2 (U 1)))
      unfold sgnO;split
      ·exact Ydy
      ·split
       ·exact Z8f
       ·exact Yic
     ·exact Zk (Zo4 (k:= .ca) (show(op-6).toNat<5 by omega)) (Zk Zsf (Z2e I (Zk Zmk (Zk Zmj Yl))))
theorem Yii{w:Tst} (h:Ys w=ac):AllW (txW w):=by
 obtain⟨a0,a1,I,J,R,U⟩:=Zfl h;unfold txW;refine Zk (Zo4 (k:= .at_) (show w.attr.toNat<16 by omega)) ?_;split
 ·exact Zk Yku (Zk (Zgo I J) Yl)
 ·exact Zk Ykv (Zk (Zgo I J) (Zk Ydz (Zk (Zgo R U) Yl)))
theorem Z2g:∀{ws:List Tst} (i:Nat),(∀w∈ws,Ys w=ac)->AllW (txTs i ws)
 | [],_,_=>Yl
 |w::r,i,h=>by
  rw[Z1a]
  refine Zk ?_ (V9 (Yii (h w (by simp))) (Z2g _ λw I=>h w (by simp[I])))
  split
  ·exact Yd0
  ·exact Yif
theorem Yij{c:Cls} (h:W5 c=ac):AllW (txC c):=by
 obtain⟨I,J,R⟩:=Zdc h;exact Zk Z2d (Zk (Zi9 I) (V9 (Z2g _ R) (Zk Yid (V9 (Yih _ J) (Zk Ydx Yl)))))
theorem Z2h:∀{cs:List Cls} {s:List (List Nat)},CsOk s cs->AllW (txCs cs)
 | [],_,_=>Yl
 |c::r,s,h=>by
  rw[Zql] at h
  rw[Z1b]
  exact V9 (Yij h.1) (Z2h h.2.2.2.2.2)
theorem Z8g{t:Tar} (h:Ya t=0):AllW (Zmh t):=by
 obtain⟨I,R,U,h4,h5,J⟩:=(Zdb t).1 h;exact Zk Z2c (Zk (Zi9 I) (Zk Yie (Zk (Zo4 (k:= .ki) (show(t.for_-1).toNat<6 by omega)) (Zk Ykr (V9 (Z2h J) (Zk Yks Yl))))))
theorem Zxx{t:Tar} (h:Ya t≠0):Uq t=([],Ya t):=by
 unfold Uq;rw[if_pos h]
end
section
open Go
structure PcX where
 k:Nat
 r:Nat
 L:List (List Nat)
 fz:Nat
def cOfP(h:Hp thy) (v:SV thy):Nat:=match h (bOf v) with|some (.raw (.sl c _ _ _ _::_) _ _)=>c|_=>0
noncomputable def Apc:Fr thy->Hp thy->Nat->Ann thy:=λT h i=>{X:=PcX,fr:=λx=> [(0,T 0),(3,T 3),(12,T 12),(13,T 13),(14,.int ab .i64 x.k)],bl:=λx=>(bOf (T 0),.raw [.sl i 0 x.L.length 1 ar] 0 ar)::(i,.rows dm x.L x.fz)::blkP h (T 3),src:=λx=> [(i,1000)],md:= [bOf (T 0),cOfP h (T 0)],ih:=i+1,M:=i+60,meas:=λx=>x.r}
noncomputable def Fpc:Fns thy:=addL (addS Fpu 101 (Sxp 1000000000)) 56 3 Apc E
def clA(c:Cls):SV thy:= .agg (encF ab .clauses c)
abbrev Ze1(c:Cls):Prop:=
 aP c=aP c/\(aX c=aX c/\(ab=ac->ab=ac))/\aJ (aC c)=aJ (aC c)/\bX (aC c)=bX (aC c)/\bC
 (aC c)=bC (aC c)/\bD (aC c)=bD (aC c)/\bE (aC c)=bE (aC c)/\bF (aC c)=bF (aC c)/\(bw (aC c)=bw
 (aC c)/\(ab=ac->ab=ac))/\True
abbrev Zhc(c:Cls) (x:PcX) (I:PcX):Prop:=
 (0:Nat)=(0:Nat)/\(0:Nat)=(0:Nat)/\(aX c=aX c/\(ab=ac->ab=ac))/\(↑(aa (aX c)):Int)=(↑(aa (aX c))
 :Int)/\wr af ((↑(PcX.k x):Int)+(1:Int))=(↑(PcX.k I):Int)/\True
abbrev Zhd(c:Cls):=
 (bV (aJ (aC c)) (bX (aC c)) (bC (aC c)) (bD (aC c)) (bE (aC c)) (bF (aC c)) (bw (aC c)))
abbrev Zrr(x:PcX) (I:List Nat):Prop:=
 aa (PcX.L x)+(2:Nat)<=aa (av (aa (PcX.L x)) (PcX.L x)++ [[(119:Nat),(104:Nat),(101:Nat),(110:Nat)],I])/\PcX.fz x<=
 aa (PcX.L x)+(2:Nat)/\(aa (PcX.L x)+(2:Nat)+(1:Nat))*(16:Nat)<=(140737488355328:Nat)
abbrev Zrs(x:PcX) (I:List Nat):Prop:=
 aa (PcX.L x)+(2:Nat)<=aa (av (aa (PcX.L x)) (PcX.L x)++ [[(97:Nat),(110:Nat),(100:Nat)],I])/\PcX.fz x<=aa (PcX.L x)
 +(2:Nat)/\(aa (PcX.L x)+(2:Nat)+(1:Nat))*(16:Nat)<=(140737488355328:Nat)
abbrev Zhe(x:PcX):=
 (av (aa (PcX.L x)) (PcX.L x)++ [[(112:Nat),(97:Nat),(121:Nat)]])
abbrev Zhf(I:Tst):Prop:=
 (0:Int)<=eV I/\eV I+(1:Int)<=(10000000000000:Int)
abbrev Zhg(x:PcX):=
 (aa (PcX.L x)+(2:Nat)+(1:Nat)+(1:Nat)+(1:Nat))
abbrev Zrt(x:PcX):Prop:=
 aa (PcX.L x)<=aa (PcX.L x)/\PcX.fz x<=aa (PcX.L x)/\(aa (PcX.L x)+(2:Nat))*(16:Nat)<=(140737488355328:Nat)
abbrev Zru(x:PcX) (I:PcX):Prop:=
 ((0:Nat)=(0:Nat)/\aa (PcX.L x)+(2:Nat)+(1:Nat)+(1:Nat)+(1:Nat)+(1:Nat)=aa (PcX.L I)/\True)/\True
abbrev Zlv(x:PcX) (I:PcX):Prop:=
 ((0:Nat)=(0:Nat)/\aa (PcX.L x)+(2:Nat)+(1:Nat)+(1:Nat)=aa (PcX.L I)/\True)/\True
abbrev qCM7(I:PcX) (J:List Nat):=(av (aa (PcX.L I)) (PcX.L I)++ [[(119:Nat),(104:Nat),(101:Nat),(110:Nat)],J])
abbrev qCM8:=(2:Nat)
abbrev qCMc(I:PcX):=(aa (PcX.L I)+qCM8)
abbrev qCM1(I:PcX) (J:List Nat):=(av (qCMc I) (qCM7 I J)++ [[(105:Nat),(110:Nat)]])
abbrev qCM9(I:PcX) (J:List Nat):=(av (aa (PcX.L I)) (PcX.L I)++ [[(97:Nat),(110:Nat),(100:Nat)],J])
abbrev qCM2(I:PcX) (J:List Nat):=(av (qCMc I) (qCM9 I J)++ [[(105:Nat),(110:Nat)]])
abbrev qCM3:=(1:Nat)
abbrev qCM4(I:PcX):=(aa (PcX.L I)+qCM8+qCM3+qCM3)
abbrev qCM5(I:PcX):=(aa (PcX.L I)+qCM8+qCM3)
abbrev qCM6:=(140737488355328:Nat)
abbrev qCMa(I:Cls):=(↑(aa (aX I)):Int)
abbrev qCMb(I:PcX):=(↑(PcX.k I):Int)
abbrev qCMd(I:PcX):=(ae (av (aa (PcX.L I)) (PcX.L I)++ [[(112:Nat),(97:Nat),(121:Nat)]],PcX.fz I))
abbrev qCMe:=(16:Nat)
abbrev qCMf:=(1:Int)
abbrev qCMg(I:Tst):=((0:Int)<=eW I/\eW I+qCMf<=(10000000000000:Int))
abbrev qCMh:=(0:Nat)
theorem Z1e(l:List (List Nat)) (fz:Nat) (c:Cls) (l':List (List Nat)):Zj E Fpc (vc E Fpc 400) 56 [.ptr 0 0,clA c] (hpP E dm (ae (l,fz))) 2 (prnK E dm (ae (l,fz)) l')=(
 (aa l<=aa l/\fz<=aa l/\(aa l+qCM8)*qCMe<=qCM6)/\∃(R:PcX->Prop),(∃(x:PcX),R x/\ac=ac/\(qCMh=qCMh/\qCMh=qCMh/\(aX c=aX c/\(ab=ac->ab=ac))/\(qCMa c)=(qCMa c)/\(0:Int)=(qCMb x)/\True)/\((qCMh=qCMh/\aa l+qCM8=aa (PcX.L x)/\True)/\True)/\(av (aa l) l++ [[(99:Nat),(108:Nat),(97:Nat),(117:Nat),(115:Nat),(101:Nat)],aP c]=PcX.L x/\fz=PcX.fz x)/\(Ze1 c)/\True)/\∀(x:PcX),R x->(decide ((qCMb x)<(qCMa c))=ac->(0:Int)<=(qCMb x)/\(qCMb x)+qCMf<=(qCMa c)/\∀(I:Tst),(aX c)[ag (qCMb x)]? =ae I->(0:Int)<=mm2 ab (qCMb x) qCMf/\mm2 ab (qCMb x) qCMf+qCMf<=(↑qCM8:Int)/\((mm2 ab (qCMb x) qCMf==(↑qCMh:Int))=ac->(0:Int)<=dP I/\dP I+qCMf<=(↑(aa (WK.words WK.at_)):Int)/\∀(U:List Nat),(WK.words WK.at_)[ag (dP I)]? =ae U->(Zrt x)/\((eV I==eW I)=ac->(Zrr x U)/\(Zhf I)/\∀(y:List Nat),y=decN (eV I)->(aa (PcX.L x)+qCM8+qCM3<=aa (av (qCMc x) (qCM7 x U)++ [[(105:Nat),(115:Nat)]])/\PcX.fz x<=aa (PcX.L x)+qCM8+qCM3/\(qCM4 x)*qCMe<=qCM6)/\∃(J:PcX),R J/\J.2+qCM3<=x.2/\ac=ac/\(Zhc c x J)/\(Zlv x J)/\(av (qCM5 x) (av (qCMc x) (qCM7 x U)++ [[(105:Nat),(115:Nat)]])++ [y]=PcX.L J/\PcX.fz x=PcX.fz J)/\(Ze1 c)/\True)/\((eV I==eW I)=ab->(Zrr x U)/\(Zhf I)/\∀(y:List Nat),y=decN (eV I)->(aa (PcX.L x)+qCM8+qCM3<=aa (qCM1 x U)/\PcX.fz x<=aa (PcX.L x)+qCM8+qCM3/\(qCM4 x)*qCMe<=qCM6)/\(aa (PcX.L x)+qCM8+qCM3+qCM3<=aa (av (qCM5 x) (qCM1 x U)++ [y])/\PcX.fz x<=aa (PcX.L x)+qCM8+qCM3+qCM3/\(Zhg x)*qCMe<=qCM6)/\(qCMg I)/\∀(a1:List Nat),a1=decN (eW I)->(aa (PcX.L x)+qCM8+qCM3+qCM3+qCM3<=aa (av (qCM4 x) (av (qCM5 x) (qCM1 x U)++ [y])++ [[(46:Nat),(46:Nat)]])/\PcX.fz x<=aa (PcX.L x)+qCM8+qCM3+qCM3+qCM3/\(aa (PcX.L x)+qCM8+qCM3+qCM3+qCM3+qCM3)*qCMe<=qCM6)/\∃(J:PcX),R J/\J.2+qCM3<=x.2/\ac=ac/\(Zhc c x J)/\(Zru x J)/\(av (Zhg x) (av (qCM4 x) (av (qCM5 x) (qCM1 x U)++ [y])++ [[(46:Nat),(46:Nat)]])++ [a1]=PcX.L J/\PcX.fz x=PcX.fz J)/\(Ze1 c)/\True))/\((mm2 ab (qCMb x) qCMf==(↑qCMh:Int))=ab->((mm2 ab (qCMb x) qCMf==(↑(qCMh+qCM3):Int))=ac->(0:Int)<=dP I/\dP I+qCMf<=(↑(aa (WK.words WK.at_)):Int)/\∀(U:List Nat),(WK.words WK.at_)[ag (dP I)]? =ae U->(Zrt x)/\((eV I==eW I)=ac->(Zrs x U)/\(Zhf I)/\∀(y:List Nat),y=decN (eV I)->(aa (PcX.L x)+qCM8+qCM3<=aa (av (qCMc x) (qCM9 x U)++ [[(105:Nat),(115:Nat)]])/\PcX.fz x<=aa (PcX.L x)+qCM8+qCM3/\(qCM4 x)*qCMe<=qCM6)/\∃(J:PcX),R J/\J.2+qCM3<=x.2/\ac=ac/\(Zhc c x J)/\(Zlv x J)/\(av (qCM5 x) (av (qCMc x) (qCM9 x U)++ [[(105:Nat),(115:Nat)]])++ [y]=PcX.L J/\PcX.fz x=PcX.fz J)/\(Ze1 c)/\True)/\((eV I==eW I)=ab->(Zrs x U)/\(Zhf I)/\∀(y:List Nat),y=decN (eV I)->(aa (PcX.L x)+qCM8+qCM3<=aa (qCM2 x U)/\PcX.fz x<=aa (PcX.L x)+qCM8+qCM3/\(qCM4 x)*qCMe<=qCM6)/\(aa (PcX.L x)+qCM8+qCM3+qCM3<=aa (av (qCM5 x) (qCM2 x U)++ [y])/\PcX.fz x<=aa (PcX.L x)+qCM8+qCM3+qCM3/\(Zhg x)*qCMe<=qCM6)/\
(qCMg I)/\∀(a1:List Nat),a1=decN (eW I)->(aa (PcX.L x)+qCM8+qCM3+qCM3+qCM3<=aa (av (qCM4 x) (av (qCM5 x) (qCM2 x U)++ [y])++ [[(46:Nat),(46:Nat)]])/\PcX.fz x<=aa (PcX.L x)+qCM8+qCM3+qCM3+qCM3/\(aa (PcX.L x)+qCM8+qCM3+qCM3+qCM3+qCM3)*qCMe<=qCM6)/\∃(J:PcX),R J/\J.2+qCM3<=x.2/\ac=ac/\(Zhc c x J)/\(Zru x J)/\(av (Zhg x) (av (qCM4 x) (av (qCM5 x) (qCM2 x U)++ [y])++ [[(46:Nat),(46:Nat)]])++ [a1]=PcX.L J/\PcX.fz x=PcX.fz J)/\(Ze1 c)/\True))/\((mm2 ab (qCMb x) qCMf==(↑(qCMh+qCM3):Int))=ab->True)))/\(decide ((qCMb x)<(qCMa c))=ab->(aa (PcX.L x)<=aa (PcX.L x)/\PcX.fz x<=aa (PcX.L x)/\(aa (PcX.L x)+qCM3)*qCMe<=qCM6)/\(aa (PcX.L x)+qCM3=aa (Zhe x)/\PcX.fz x<=aa (Zhe x)/\Ex.sz (Zhd c)+qCM3<=(1000000000:Nat)/\Zn (Zhd c)=ac/\qCM3<=aa (Zhe x)/\aa (Zhe x)+(8:Nat)*Ex.sz (Zhd c)+(8:Nat)<=(1000000000:Nat))/\∀(a0:List (List Nat)),a0=av (aa (PcX.L x)) (PcX.L x)++ [[(112:Nat),(97:Nat),(121:Nat)]]++txX (Zhd c)->(aa a0<=aa a0/\fzO (qCMd x)<=aa a0/\(aa a0+qCM3)*qCMe<=qCM6)/\av (aa a0) a0++ [[(59:Nat)]]=l'/\aa a0+qCM3=aa l'/\fzO (qCMd x)=fzO (ae (l,fz)))):=by kernel_rfl
theorem Zoj:∀(a:List Tst) (i:Nat) (w:Tst),txTs i (a++ [w])=txTs i a++((if a.length+i=0 then Zls else sAnd)::txW w)
 | [],i,w=>by simp[txTs]
 |x::r,i,w=>by
  rw[da]
  simp only[txTs]
  rw[Zoj r (i+1) w]
  have e:(r.length+(i+1)=0)=((x::r).length+i=0):=by simp
  simp only[e,bI,da]
theorem Yc5(w:Tst):(txW w).length<=5:=by
 unfold txW;split<;>simp
theorem Zlw:∀(l:List Tst) (i:Nat),(txTs i l).length<=6*l.length
 | [],_=>by simp[txTs]
 |w::r,i=>by
  have:=Zlw r (i+1)
  have:=Yc5 w
  simp[txTs]
  omega
def PclP(l:List (List Nat)) (c:Cls):Prop:=W5 c=ac/\c.pay.sz<1000000000/\1<=l.length/\l.length+8*c.pay.sz+6*c.when_.length+20<=1000000000
theorem Yhr:FnsOk E Fpc:=Zm E_ok (Zb Zvl (Z3z (Zu9 1000000000))) _ _ _
theorem Yc6(c:Cls) (l:List (List Nat)) (fz:Nat) (hf:fz<=l.length) (h:PclP l c):PrnC E 56 dm [clA c] (ae (l,fz)) (l++txC c):=by
 refine Z3w Yhr (n:=400) rfl ?_;rw[Z1e];delta qCM7 qCM8 qCMc qCM1 qCM9 qCM2 qCM3 qCM4 qCM5 qCM6 qCMa qCMb qCMd qCMe qCMf qCMg qCMh;unfold Zlv Zru Zrt Zhg Zhf Zhe Zrs Zrr Zhd Zhc Ze1;obtain⟨h1,h2,h3,h4⟩:=h;obtain⟨-,g2,g3⟩:=Zdc h1;have L:WK.at_.words.length=16:=rfl;simp only[fzO,aW,Ex.eta,forall_eq,beq_iff_eq,beq_eq_false_iff_ne,ne_eq,and_true,true_and,imp_self,decide_eq_true_eq,decide_eq_false_iff_not]
 refine⟨⟨aw _,hf,by omega⟩,λx=>x.k<=c.when_.length/\x.fz=fz/\x.L=l++ [V1,c.name]++txTs 0 (c.when_.take x.k)/\x.r=c.when_.length-x.k,⟨⟨0,c.when_.length,l++ [V1,c.name],fz⟩,⟨by dsimp only;omega,rfl,by simp[txTs],rfl⟩,by simp,by simp,by simp[V1]⟩,?_⟩;rintro⟨k,r,Lx,R⟩ ⟨k1,k2,k3,k4⟩;simp only at k1 k2 k3 k4⊢;subst k2 k4;have tl:=Zlw (c.when_.take k) 0;have tl2:(c.when_.take k).length<=c.when_.length:=by simp;omega
 have hL:Lx.length=l.length+2+(txTs 0 (c.when_.take k)).length:=by rw[k3];simp;omega
 refine aA (λhq=>⟨by omega,by omega,λw hw=> ?_⟩) (λhq=> ?_)
 ·have hw:c.when_[k]? =ae w:=hw
  have hq:k<c.when_.length:=by omega
  obtain⟨t1,t2,t3,t4,t5,t6⟩:=Zfl (g3 w (aI hw));have ek:c.when_.take (k+1)=c.when_.take k++ [w]:=by rw[cz,hw];rfl
  have tw:(c.when_.take k).length=k:=by simp;omega
  have hm:(0:Int)<=mm2 ab (↑k:Int) (1:Int)/\mm2 ab (↑k:Int) (1:Int)+1<=2:=by
   rw[Yf];omega
  have st:txTs 0 (c.when_.take (k+1))=txTs 0 (c.when_.take k)++((if k=0 then Zls else sAnd)::txW w):=by rw[ek,Zoj,tw,dM]
  have wx:∀I,WK.at_.words[w.attr.toNat]? =ae I->txW w=I::(if w.low=w.high then[sIs,decN w.low] else[sIn,decN w.low,Zrm,decN w.high]):=by
   intro I h;unfold txW;rw[bu,h];rfl
  have E1:∀s I,(if k=0 then Zls else sAnd)=s->WK.at_.words[w.attr.toNat]? =ae I->w.low=w.high->Lx++ [s,I]++ [[105,115]]++ [decN w.low]=l++ [V1,c.name]++txTs 0 (c.when_.take (k+1)):=by
   intro s I U h e;rw[k3,st,U,wx I h,if_pos e];simp[sIs]
  have E2:∀s I,(if k=0 then Zls else sAnd)=s->WK.at_.words[w.attr.toNat]? =ae I->¬w.low=w.high->Lx++ [s,I]++ [[105,110]]++ [decN w.low]++ [[46,46]]++ [decN w.high]=l++ [V1,c.name]++txTs 0 (c.when_.take (k+1)):=by
   intro s I U h e;rw[k3,st,U,wx I h,if_neg e];simp[sIn,Zrm]
  have T1:∀a b,av (Lx.length+2) (Lx++ [a,b])=Lx++ [a,b]:=λa b=>bm (by simp);have T2:∀a b c,av (Lx.length+2+1) (Lx++ [a,b]++ [c])=Lx++ [a,b]++ [c]:=λa b c=>bm (by simp);have T3:∀a b c d,av (Lx.length+2+1+1) (Lx++ [a,b]++ [c]++ [d])=Lx++ [a,b]++ [c]++ [d]:=λa b c d=>bm (by simp);have T4:∀a b c d e,av (Lx.length+2+1+1+1) (Lx++ [a,b]++ [c]++ [d]++ [e])=Lx++ [a,b]++ [c]++ [d]++ [e]:=λa b c d e=>bm (by simp)
  have wk:wr af ((k:Int)+1)=((k+1:Nat):Int):=(wr64 (by omega) (by omega)).trans (by omega);simp only[T1,T2,T3,T4];have m0:(mm2 ab (k:Int) 1=((0:Nat):Int))=(k=0):=by rw[Yf];exact propext (by omega)
  have go:∀s I,(if k=0 then Zls else sAnd)=s->WK.at_.words[w.attr.toNat]? =ae I->
   (w.low=w.high->∃J:PcX,(J.k<=c.when_.length/\J.fz=R/\J.L=l++ [V1,c.name]++txTs 0 (av J.k c.when_)/\J.r=c.when_.length-J.k)/\J.r+1<=c.when_.length-k/\wr af ((k:Int)+1)=(J.k:Int)/\Lx.length+2+1+1=J.L.length/\Lx++ [s,I]++ [[105,115]]++ [decN w.low]=J.L/\R=J.fz)/\
   (¬w.low=w.high->∃J:PcX,(J.k<=c.when_.length/\J.fz=R/\J.L=l++ [V1,c.name]++txTs 0 (av J.k c.when_)/\J.r=c.when_.length-J.k)/\J.r+1<=c.when_.length-k/\wr af ((k:Int)+1)=(J.k:Int)/\Lx.length+2+1+1+1+1=J.L.length/\Lx++ [s,I]++ [[105,110]]++ [decN w.low]++ [[46,46]]++ [decN w.high]=J.L/\R=J.fz):=by
   intro s I U h;refine aA (λe=> ?_) (λe=> ?_)
   ·have:=E1 s I U h e
    have h2:=congrArg aa this;refine⟨⟨k+1,c.when_.length-(k+1),l++ [V1,c.name]++txTs 0 (c.when_.take (k+1)),R⟩,⟨hq,rfl,rfl,rfl⟩,(by dsimp only;omega),wk,?_,this,rfl⟩;dsimp only;rw[<-h2];simp
   ·have:=E2 s I U h e
    have h2:=congrArg aa this;refine⟨⟨k+1,c.when_.length-(k+1),l++ [V1,c.name]++txTs 0 (c.when_.take (k+1)),R⟩,⟨hq,rfl,rfl,rfl⟩,(by dsimp only;omega),wk,?_,this,rfl⟩;dsimp only;rw[<-h2];simp
  rw[m0];refine⟨hm.1,hm.2,λh0=>⟨t1,by rw[L];omega,λI a0=> ?_⟩,λh0=>⟨λh1=>⟨t1,by rw[L];omega,λI a0=> ?_⟩,λ_=>trivial⟩⟩
  ·obtain⟨g1,g2⟩:=go [119,104,101,110] I (by rw[if_pos h0];rfl) a0
   refine⟨⟨aw _,by omega,by omega⟩,λe=> ?_,λe=> ?_⟩
   ·exact⟨⟨by simp,by omega,by omega⟩,⟨t3,by omega⟩,⟨by simp,by omega,by omega⟩,g1 e⟩
   ·exact⟨⟨by simp,by omega,by omega⟩,⟨t3,by omega⟩,⟨by simp,by omega,by omega⟩,⟨by simp,by omega,by omega⟩,⟨t5,by omega⟩,⟨by simp,by omega,by omega⟩,g2 e⟩
  ·obtain⟨g1,g2⟩:=go [97,110,100] I (by rw[if_neg h0];rfl) a0
   refine⟨⟨aw _,by omega,by omega⟩,λe=> ?_,λe=> ?_⟩
   ·exact⟨⟨by simp,by omega,by omega⟩,⟨t3,by omega⟩,⟨by simp,by omega,by omega⟩,g1 e⟩
   ·exact⟨⟨by simp,by omega,by omega⟩,⟨t3,by omega⟩,⟨by simp,by omega,by omega⟩,⟨by simp,by omega,by omega⟩,⟨t5,by omega⟩,⟨by simp,by omega,by omega⟩,g2 e⟩
 ·have ek:k=c.when_.length:=by omega
  have tx:=Xl c.pay;have e1:Lx++ [[112,97,121]]++txX c.pay++ [[59]]=l++txC c:=by
   rw[k3,ek,aW];unfold txC;simp[sPay,Ydr]
  have e2:=congrArg aa e1;simp only[aD,aB,bg] at e2⊢;exact⟨⟨aw _,by omega,by omega⟩,⟨trivial,by omega,by omega,g2,by omega,by omega⟩,⟨aw _,by omega,by omega⟩,e1,by omega,trivial⟩
end
section
open Go
theorem Zpd{f:FuncId} {args:List (SV thy)} {v:SV thy} (h:∀(g:GH) (w:World) (R:Array Value),Inv E w.heap.size σ0 hp0 g w->DenL E σ0 g args R.toList->Calls E.P f R w λen w'=>∃u,en= .returned u/\Den E σ0 g v u/\Ext w w'):PureC E f args v:=by
 intro g w R J hd;refine(h g w R J hd).mono ?_;rintro en w' ⟨u,he,hv,I⟩;refine⟨u,he,g,⟨.refl _,λb p h=> .inl h,.refl _,λ_ _ _ h=> .inl h,λ_ _ h=> .inl h,λr hr _=>I.block hr,I.size,I.os,I.tape,I.output,λb r z h1 h2=>by cases h2⟩,?_,hv⟩;refine⟨λr o u hu=>I.cell (J.gc r o u hu),λr es hu=> ?_,(λb x I=>by cases I),λb b' r z z' h1=>absurd rfl h1,(λb r z hs=>by cases hs),(λb x r z o v I=>by cases I),(λb x r z I=>by cases I),J.glob⟩;obtain⟨c,U⟩:=J.gm r es hu;have hr:r<w.heap.size:=by
  rcases fh r w.heap.size with h|h
  ·exact h
  ·rw[Array.getElem?_eq_none h] at U;cases U
 exact⟨c,by rw[I.block hr];exact U⟩
end
section
open Go
theorem Yjo:Builder.Extra Tryz.prog Tryz.lays156_ren where
 sizeBuilder:=by kernel_rfl
 liesBuilder:=by kernel_rfl
 t5:=Tryz.underlying5
 a5:=Tryz.isAgg5
 z5:=Tryz.sizeOf5
 v5:=Tryz.zeroValue5
 infoByte:=by kernel_rfl
 cellsByte:=by kernel_rfl
 sizeByte:=by kernel_rfl
 neB5:=by decide
theorem Zwa:∀{l:List (List Nat)},(∀y∈l,toL (mkS y)=y)->(Lib.join ((l.map mkS).map (·.data.toList)) (mkS [32]).data.toList).map cJ=Zcc l
 | [],_=>rfl
 | [x],h=>by
  rw[cg,dI,cg,dI,Lib.join_one]
  exact h x (by simp)
 |x::y::r,h=>by
  have U:=Zwa (l:=y::r) (λz I=>h z (by simp at I⊢;exact .inr I))
  have R:=h x (by simp)
  rw[Zkn (by simp),<-U]
  rw[cg,cg,Lib.join_cons,cg,cg,Lib.join_cons,fD]
  unfold Lib.joinTail
  rw[cg,List.flatten_cons]
  have e:((mkS x).data.toList).map cJ=x:=R
  rw[e]
  have J:(mkS [32]).data.toList= [32]:=rfl
  rw[J]
  simp only[fD,cg,dI,bI]
  rfl
theorem Z5k(l:List (List Nat)) (h1:l.length<=1000000000) (h2:(Zcc l).length<=1000000000):PureC E 57 [.psl dm l ab,.str ab [32]] (.str ab (Zcc l)):=by
 refine Zpd λg w a7 hI hd=> ?_;obtain⟨u,v,rfl,hu,hv⟩:=Yib hd;cases hv;rename_i a6 a5;have hs:a6=mkS [32]:=by rw[<-a5,Zc9]
 subst hs;obtain⟨base,c,cv,rfl,hl,hm,hf,hn,R,a4⟩:=V0 hu;rcases gY l.length with J|J
 ·have e:l= []:=List.length_eq_zero_iff.1 J
  subst e;refine(Any.strings_Join_none Tryz.lays156 Yjo base c (mkS [32]) w).mono ?_;rintro e w' ⟨rfl,rfl⟩;exact⟨_,rfl,.str _ rfl,Go.RowKit.Below.refl _ _⟩
 ·obtain⟨r,o,rfl,hc⟩:=R J
  have W1:E.w dm=1:=rfl;have key:∀i x,l[i]? =ae x->w.cell? ⟨r,o+i,ar⟩=ae (.string (mkS x))/\toL (mkS x)=x:=by
   intro i x I;have a1:=hc i x I 0 (by show 0<1;decide);have a2:=a4 i x I 0 (.str ab x) rfl;rw[W1,jj,dM] at a1;have a3:=hI.gc _ _ _ a1;generalize hq:cv i 0=q at a2 a3;cases a2;rename_i b R;subst R;rw[Zc9];exact⟨a3,rfl⟩
  have a0:∀y∈l,toL (mkS y)=y:=λy U=>by
   obtain⟨i,hi,rfl⟩:=List.getElem_of_mem U;exact(key i _ (aj hi)).2
  have hr:r<w.heap.size:=by
   have:=(key 0 _ (aj J)).1;rcases fh r w.heap.size with h|h
   ·exact h
   ·unfold World.cell? at this
    simp only at this;rw[Array.getElem?_eq_none h] at this;cases this
  have hj:=Zwa a0
  have:=Any.strings_Join Tryz.lays156 Yjo r o c (l.map mkS) (mkS [32]) w (λj x I=>by
   rw[List.getElem?_map] at I;obtain⟨y,U,rfl⟩:=Option.map_eq_some_iff.1 I;exact(key j y U).1) hr (by rw[gg];omega) (by rw[gg];exact hl) (by
   rw[<-hj,gg] at h2
   omega)
  rw[gg] at this;refine Calls.mono this ?_;rintro e w' ⟨rfl,hw⟩;refine⟨_,rfl,.str _ ?_,hw⟩;unfold toL;exact hj
end
section
open Go
noncomputable def dCl1:DcL E (Cls×Unit):= .cons dCl .nil
noncomputable def Spc:Sum thy:=sumB E dm dCl1 (λl x=>PclP l x.1) λ(l:List (List Nat)) x=>l++txC x.1
theorem Yho:SumOk E 56 Spc:=Ze0 E_ok (Zc rfl) λx=>⟨λl fz J I=>Yc6 x.1 l fz J I,λI=>absurd I.2.2.1 (by decide)⟩
noncomputable def Ykn:DcL E (List (List Nat)×List Nat×Unit):= .cons (Zcv (E:=E) dm:Dc E (List (thy.dom dm))) (.cons dS .nil)
noncomputable def Yhp:Sum thy:=Zqn E (λ_=>ar) 10 (X6 Ykn (λx=>(x.2.1= [32]/\x.1.length<=1000000000)/\(Zcc x.1).length<=1000000000) (λx=>Zcc x.1) λy=> .str ab y)
noncomputable def Apr:Fr thy->Hp thy->Nat->Ann thy:=λT h i=>{X:=PcX,fr:=λx=> [(1,T 1),(5,T 5),(28,T 28),(29,T 29),(30,.int ab .i64 x.k)],bl:=λx=>(bOf (T 5),.raw [.sl i 0 x.L.length 1 ar] 0 ar)::(i,.rows dm x.L x.fz)::blkP h (T 1),src:=λx=> [(i,1005)],md:= [bOf (T 5),cOfP h (T 5)],ih:=i+1,M:=i+60,meas:=λx=>x.r}
noncomputable def Fpr:Fns thy:=addL (addS (addS (addS (addS F0 55 Zm5) 57 Yhp) 53 Z4m) 56 Spc) 23 7 Apr E
abbrev qCP1(I:Cls):=(bV (aJ (aC I)) (bX (aC I)) (bC (aC I)) (bD (aC I)) (bE (aC I)) (bF (aC I)) (bw (aC I)))
abbrev qCP5:=(0:Nat)
abbrev qCP2(I:PcX):=(av (aa (PcX.L I)+(1:Nat)) (ct qCP5 (av (aa (PcX.L I)) (PcX.L I)++ [[(125:Nat)]])))
abbrev qCP3(I:Tar):=(↑(aa (au I)):Int)
abbrev qCP4(I:Tar):=(au I=au I/\(ab=ac->ab=ac))
abbrev qCP6(I:PcX):=(↑(PcX.k I):Int)
theorem Zxg(t:Tar) (s:List Nat) (e:Int):Zj E Fpr (vc E Fpr 400) 23 [.agg (encF ab .tariffs t)] hp0 0 (λr=>ret E (patch hp0 0 r) r.v (.tup [.str ab s,.int ab .i64 e]))=(
 ((∀(c:Cls),c∈au t->Ex.sz (aC c)+(1:Nat)<=(1000000000000:Nat)/\aa (aX c)+(1:Nat)<=(1000000000000:Nat))/\aa (au t)+(1:Nat)<=(1000000000000:Nat))/\((Ya t !=(0:Int))=ac-> []=s/\Ya t=e/\True)/\((Ya t !=(0:Int))=ab->(0:Int)<=wr af (bB t-(1:Int))/\wr af (bB t-(1:Int))+(1:Int)<=(↑(aa (WK.words WK.ki)):Int)/\∀(x:List Nat),(WK.words WK.ki)[ag (wr af (bB t-(1:Int)))]? =ae x->∃(R:PcX->Prop),(∃(I:PcX),R I/\ac=ac/\(qCP5=qCP5/\qCP5=qCP5/\(qCP4 t)/\(qCP3 t)=(qCP3 t)/\(0:Int)=(qCP6 I)/\True)/\((qCP5=qCP5/\(5:Nat)=aa (PcX.L I)/\True)/\True)/\([[(116:Nat),(97:Nat),(114:Nat),(105:Nat),(102:Nat),(102:Nat)],bN t,[(102:Nat),(111:Nat),(114:Nat)],x,[(123:Nat)]]=PcX.L I/\qCP5=PcX.fz I)/\(bN t=bN t/\bB t=bB t/\(qCP4 t)/\True)/\True)/\∀(x:PcX),R x->(decide ((qCP6 x)<(qCP3 t))=ac->(0:Int)<=(qCP6 x)/\(qCP6 x)+(1:Int)<=(qCP3 t)/\∀(I:Cls),(au t)[ag (qCP6 x)]? =ae I->(aa (PcX.L x)=aa (PcX.L x)/\PcX.fz x<=aa (PcX.L x)/\W5 (eP (aP I) (aX I) (qCP1 I))=ac/\Ex.sz (qCP1 I)+(1:Nat)<=(1000000000:Nat)/\(1:Nat)<=aa (PcX.L x)/\aa (PcX.L x)+(8:Nat)*Ex.sz (qCP1 I)+(6:Nat)*aa (aX I)+(20:Nat)<=(1000000000:Nat))/\∀(U:List (List Nat)),U=PcX.L x++txC (eP (aP I) (aX I) (qCP1 I))->∃(J:PcX),R J/\J.2+(1:Nat)<=x.2/\ac=ac/\(qCP5=qCP5/\qCP5=qCP5/\(qCP4 t)/\(qCP3 t)=(qCP3 t)/\wr af ((qCP6 x)+(1:Int))=(qCP6 J)/\True)/\((qCP5=qCP5/\aa U=aa (PcX.L J)/\True)/\True)/\(U=PcX.L J/\fzO (ae (PcX.L x,PcX.fz x))=PcX.fz J)/\(bN t=bN t/\bB t=bB t/\(qCP4 t)/\True)/\True)/\(decide ((qCP6 x)<(qCP3 t))=ab->(aa (PcX.L x)<=aa (PcX.L x)/\PcX.fz x<=aa (PcX.L x)/\(aa (PcX.L x)+(1:Nat))*(16:Nat)<=(140737488355328:Nat))/\qCP5+(aa (PcX.L x)+(1:Nat))<=aa (av (aa (PcX.L x)) (PcX.L x)++ [[(125:Nat)]])/\(([(32:Nat)]= [(32:Nat)]/\aa (qCP2 x)<=(1000000000:Nat))/\aa (Zcc (qCP2 x))<=(1000000000:Nat))/\∀(y:List Nat),y=Zcc (qCP2 x)->(decide ((↑(aa y):Int)>(2000:Int))=ac-> []=s/\(2:Int)=e/\True)/\(decide ((↑(aa y):Int)>(2000:Int))=ab->y=s/\(0:Int)=e/\True)))):=by kernel_rfl
theorem Zug:∀{s:List Nat} {n m:Int},1<=n->n<=1099511627776->(∀c∈s,isD c=ac)->numL n s=(m,0)->n*10^s.length<=1099511627776
 | [],n,m,_,J,_,_=>by simpa using J
 |c::r,n,m,h1,J,hd,h=>by
  unfold numL at h
  split at h
  ·cases h
  ·rename_i hq
   have I:=hd c (by simp)
   unfold isD at I
   simp only[aq,decide_eq_true_eq] at I
   have:=Zug (by omega) (by omega) (λc I=>hd c (by simp[I])) h
   have R:n*10<=10*n+((c:Int)-48):=by omega
   have U:(0:Int)<=10^r.length:=kx (kB (by decide))
   have h3:=fk R U
   rw[aB,Int.pow_succ,Int.mul_comm (10^r.length) 10,<-Int.mul_assoc]
   omega
theorem Z7q{s:List Nat} (hd:∀c∈s,isD c=ac) (h:(numb s).2=0):s.length<=32:=by
 match s,hd,h with
 | [],_,_=>simp
 |c::r,hd,h=>
  unfold numb at h;split at h
  ·cases h
  ·rename_i hq
   cases r with
   |nil=>simp
   |cons d r=>
    have J:c≠48:=λe=>hq ⟨by simp,by rw[e];rfl⟩;have R:=hd c (by simp);unfold isD at R;simp only[aq,decide_eq_true_eq] at R;unfold numL at h;rw[if_neg (by omega)] at h;have U:numL (10*0+((c:Int)-48)) (d::r)=((numL (10*0+((c:Int)-48)) (d::r)).1,0):=Prod.ext rfl h;have:=Zug (by omega) (by omega) (λc J=>hd c (by simp[J])) U;have hp:(0:Int)<=10^(d::r).length:=kx (kB (by decide));have h3:1*(10:Int)^(d::r).length<=(10*0+((c:Int)-48))*10^(d::r).length:=fk (by omega) hp;rcases fh (d::r).length 13 with I|I
    ·simp at I⊢;omega
    ·have h4:(10:Nat)^13<=10^(d::r).length:=gu (by decide) I
     have h5:((10^(d::r).length:Nat):Int)=(10:Int)^(d::r).length:=by norm_cast
     have h6:((10^13:Nat):Int)<=((10^(d::r).length:Nat):Int):=Int.ofNat_le.2 h4;rw[h5] at h6;have h7:((10^13:Nat):Int)=10000000000000:=rfl;omega
theorem Yc0{c:Nat} {w:List Nat} (h:sgnW c=ae w):w.length<=2:=by
 unfold sgnW at h
 repeat(split at h; · cases h;decide)
 cases h
theorem TokW.len{w:List Nat} (h:TokW w):w.length<=32:=by
 obtain⟨J,I,h3⟩:=h;obtain⟨c,r,rfl⟩:=List.exists_cons_of_ne_nil h3;rw[W4] at J I;split at J
 ·rename_i R
  rw[if_pos R] at I;split at J
  ·cases J
  ·rename_i U
   rw[if_neg U] at I;have I:=congrArg aa I;rw[bk] at I;omega
 ·rename_i R
  rw[if_neg R] at I;split at J
  ·rename_i hd
   rw[if_pos hd] at I;have I:(c::r).take (spn isD (c::r))=c::r:=I;have J:(numb ((c::r).take (spn isD (c::r)))).2=0:=J;rw[I] at J;exact Z7q (λx hx=>by rw[<-I] at hx;exact Ztm hx) J
  ·rename_i hd
   rw[if_neg hd] at I;split at J
   ·rename_i w hw
    rw[hw] at I;unfold tokS at J I;split at J
    ·rename_i U
     dsimp only at I;rw[if_pos U] at I;have I:w=c::r:=I;rw[<-I];have:=Yc0 hw;omega
    ·cases J
   ·cases J
theorem Zof:∀{ws:List (List Nat)} {m:Nat},(∀w∈ws,w.length<=m)->(Zcc ws).length<=(m+1)*ws.length
 | [],m,_=>by simp[Zcc]
 | [w],m,h=>by
  have:=h w (by simp)
  simp only[Zcc,aB,bg]
  omega
 |w::x::r,m,h=>by
  have J:=Zof (ws:=x::r) (m:=m) (λy I=>h y (by simp at I⊢;exact .inr I))
  have:=h w (by simp)
  rw[Zkn (by simp),aD,aB]
  have e:(m+1)*(w::x::r).length=(m+1)*(x::r).length+(m+1):=by rw[aB,kC,jj]
  omega
theorem Yc1(c:Cls):(txC c).length<=8*c.pay.sz+6*c.when_.length+4:=by
 have I:=Xl c.pay;have J:=Zlw c.when_ 0;unfold txC;simp only[aB,aD,bg];omega
theorem Zog:∀(a:List Cls) (c:Cls),txCs (a++ [c])=txCs a++txC c
 | [],c=>by simp[txCs]
 |x::r,c=>by rw[da];simp only[txCs];rw[Zog r c,bI]
theorem Zuh:∀{cs:List Cls} {m:Nat},(∀c∈cs,c.pay.sz<=m/\c.when_.length<=8)->(txCs cs).length<=(8*m+52)*cs.length
 | [],m,_=>by simp[txCs]
 |c::r,m,h=>by
  have U:=Zuh (cs:=r) (m:=m) (λx I=>h x (by simp[I]))
  have J:=h c (by simp)
  have R:=Yc1 c
  have e:(8*m+52)*(c::r).length=(8*m+52)*r.length+(8*m+52):=by rw[aB,kC,jj]
  rw[txCs,aD]
  omega
theorem Zui:∀{cs:List Cls} {s:List (List Nat)},CsOk s cs->∀c∈cs,W5 c=ac/\c.when_.length<=8
 |c::r,s,h,x,I=>by
  rw[Zql] at h
  rcases aM.1 I with rfl|I
  ·exact⟨h.1,h.2.2.2.1⟩
  ·exact Zui h.2.2.2.2.2 x I
def SmT(t:Tar):Prop:=(∀c∈t.clauses,c.pay.sz<=10000/\c.when_.length<1000000000)/\t.clauses.length<1000000000
theorem Z7r:SumOk E 57 Yhp:=Zjc E_ok (Zw E_ok (Zc rfl) λx h=>by
 have:=Z5k x.1 h.1.2 h.2;rw[<-h.1.1] at this
 exact this)
theorem Yhq:FnsOk E Fpr:=Zm E_ok (Zb (Zb (Zb (Zb F0_ok Zfg) Z7r) Zp4) Yho) _ _ _
theorem Zxh(t:Tar) (h:SmT t):PureC E 23 [.agg (encF ab .tariffs t)] (.tup [.str ab (Uq t).1,.int ab .i64 (Uq t).2]):=by
 refine Za E_ok (Zd E_ok Yhq 400) ?_;rw[Zxg];delta qCP1 qCP5 qCP2 qCP3 qCP4 qCP6;obtain⟨U,h2⟩:=h;have L:WK.ki.words.length=6:=rfl;simp only[bne_iff_ne,bne_eq_false_iff_eq,fzO,aW,Cls.eta,Ex.eta,forall_eq,beq_iff_eq,beq_eq_false_iff_ne,ne_eq,and_true,true_and,imp_self,decide_eq_true_eq,decide_eq_false_iff_not];refine⟨⟨λc I=>⟨by have:=(U c I).1;omega,by have:=(U c I).2;omega⟩,by omega⟩,λhn=> ?_,λhz=> ?_⟩
 ·rw[Zxx hn];exact⟨rfl,rfl⟩
 ·obtain⟨c1,c2,c3,c4,c5,c6⟩:=(Zdb t).1 hz
  have hw:wr af (t.for_-1)=t.for_-1:=wr64 (by omega) (by omega);rw[hw];refine⟨by omega,by rw[L];omega,λx hx=> ?_⟩;have a0:=Zui c6;have hm:∀c∈t.clauses,c.pay.sz<=10000/\c.when_.length<=8:=λc I=>⟨(U c I).1,(a0 c I).2⟩;have a2:∀k,(txCs (t.clauses.take k)).length<=80052*64:=λk=>by
   have a:=Zuh (cs:=t.clauses.take k) (m:=10000) (λc I=>hm c (List.mem_of_mem_take I));have b:(t.clauses.take k).length<=64:=by rw[bk];omega
   have e:(8*10000+52)*(t.clauses.take k).length<=(8*10000+52)*64:=Nat.mul_le_mul_left _ b;omega
  have a3:WK.ki.words.getD (t.for_-1).toNat []=x:=by rw[bu,hx];rfl
  refine⟨λy=>y.k<=t.clauses.length/\y.fz=0/\y.L= [[116,97,114,105,102,102],t.name,[102,111,114],x,[123]]++txCs (t.clauses.take y.k)/\y.r=t.clauses.length-y.k,⟨⟨0,t.clauses.length,[[116,97,114,105,102,102],t.name,[102,111,114],x,[123]],0⟩,⟨(by dsimp only;omega),rfl,by simp[txCs],rfl⟩,rfl,rfl,rfl,rfl⟩,?_⟩;rintro⟨k,r,Lx,fx⟩ ⟨k1,k2,J,k4⟩;simp only at k1 k2 J k4⊢;subst k2 k4;have hL:Lx.length=5+(txCs (t.clauses.take k)).length:=by rw[J];simp;omega
  have a4:=a2 k;refine aA (λhq=>⟨by omega,by omega,λc I=> ?_⟩) (λhq=> ?_)
  ·have I:t.clauses[k]? =ae c:=I
   have hq:k<t.clauses.length:=by omega
   have a1:=aI I;have b1:=hm c a1;have b2:=a0 c a1;have e:Lx++txC c= [[116,97,114,105,102,102],t.name,[102,111,114],x,[123]]++txCs (t.clauses.take (k+1)):=by
    have R:t.clauses.take (k+1)=t.clauses.take k++ [c]:=by rw[cz,I];rfl
    rw[J,R,Zog,bI]
   refine⟨⟨by omega,b2.1,by omega,by omega,by omega⟩,⟨k+1,t.clauses.length-(k+1),Lx++txC c,0⟩,⟨hq,rfl,e,rfl⟩,(by dsimp only;omega),(wr64 (by omega) (by omega)).trans (by dsimp only;omega),rfl,rfl,rfl⟩
  ·have R:k=t.clauses.length:=by omega
   have e:Lx++ [[125]]=Zmh t:=by
    rw[J,R,aW];unfold Zmh;rw[a3];simp[Zsd,sFor,sLb,sRb]
   have e1:av (Lx.length+1) (ct 0 (Lx++ [[125]]))=Zmh t:=by
    rw[dd,bm (by simp),e]
   rw[e1];have e2:(Zmh t).length=Lx.length+1:=by rw[<-e];simp
   have hj:=Zof (ws:=Zmh t) (m:=32) (λw hw=>(Z8g hz w hw).len);unfold Uq;rw[if_neg (by rw[hz];simp)];refine⟨⟨aw _,by omega,by omega⟩,by rw[aD];simp,⟨by omega,by omega⟩,λh=> ?_,λh=> ?_⟩
   ·rw[if_pos (by omega)];exact⟨rfl,rfl⟩
   ·rw[if_neg (by omega)];exact⟨rfl,rfl⟩
end
section
open Go
noncomputable def Yem:Dc E (List (List Int)):=(Zcv (E:=E) gh:Dc E (List (thy.dom gh)))
def dPow:Dc E Int where
 dec v:=match v with| .pptr fN n 0=>ae n|_=>ar
 enc n:= .pptr fN n 0
 ok v a h:=by
  split at h
  ·cases h;exact⟨rfl,rfl,λ_ _ _ h=>h⟩
  ·cases h
def dimV(d:List Int):SV thy:= .agg (encF ab .dims d)
def optV(o:Option (List Int)):SV thy:= .tup [dimV (o.getD [0,0,0,0]),.bool ab o.isSome]
abbrev Zd6(x:List Int) (n:Int) (I:List Int) (J:List Int) (R:List Int) (U:List Int) (a0:List Int):=
 (dw (dw (dw [(0:Int),(0:Int),(0:Int),(0:Int)] (ag (0:Int)) (wr af (ah x (0:Nat) (0:Int)+wr af (n*ah
 I (0:Nat) (0:Int))))) (ag (1:Int)) (wr af (ah J (1:Nat) (0:Int)+wr af (n*ah R (1:Nat) (0:Int))))) (ag (2:
 Int)) (wr af (ah U (2:Nat) (0:Int)+wr af (n*ah a0 (2:Nat) (0:Int)))))
abbrev Y8(x:List Int) (n:Int) (I:List Int) (R:List Int) (U:List Int) (a0:List Int) (a1:List Int) (a2:List Int) (J:List Int):=
 (dw (Zd6 x n I R U a0 a1) (ag (3:Int)) (wr af (ah a2 (3:Nat) (0:Int)+wr af (n*ah J (3:Nat) (0:Int)))))
abbrev Zd7(x:List Int) (n:Int) (I:List Int):=
 (dw [(0:Int),(0:Int),(0:Int),(0:Int)] (ag (0:Int)) (wr af (ah x (0:Nat) (0:Int)+wr af (n*ah I (0:Nat) (0:
 Int)))))
abbrev Zpv(d:List Int):Prop:=
 ah [(0:Int),(0:Int),(0:Int),(0:Int)] (0:Nat) (0:Int)=ah d (0:Nat) (0:Int)/\ah [(0:Int),(0:Int),(0:Int),(0:Int)] (1:Nat) (0
 :Int)=ah d (1:Nat) (0:Int)/\ah [(0:Int),(0:Int),(0:Int),(0:Int)] (2:Nat) (0:Int)=ah d (2:Nat) (0:Int)/\ah [(0:Int),(0
 :Int),(0:Int),(0:Int)] (3:Nat) (0:Int)=ah d (3:Nat) (0:Int)/\True
abbrev Zfu(x:List Int) (n:Int) (I:List Int) (J:List Int) (R:List Int):=
 (dw (Zd7 x n I) (ag (1:Int)) (wr af (ah J (1:Nat) (0:Int)+wr af (n*ah R (1:Nat) (0:Int)))))
abbrev Zvf:Prop:=
 (0:Int)<=(0:Int)/\(0:Int)+(1:Int)<=(↑(4:Nat):Int)
abbrev Zvg:Prop:=
 (0:Int)<=(1:Int)/\(1:Int)+(1:Int)<=(↑(4:Nat):Int)
abbrev Zvh:Prop:=
 (0:Int)<=(2:Int)/\(2:Int)+(1:Int)<=(↑(4:Nat):Int)
abbrev Zvi:Prop:=
 (0:Int)<=(3:Int)/\(3:Int)+(1:Int)<=(↑(4:Nat):Int)
abbrev qCQ1:=(0:Int)
abbrev qCQ2:=(1:Int)
abbrev qCQ3:=(1:Nat)
abbrev qCQ4(I:List (List Int)):=(↑(aa I):Int)
abbrev qCQ5:=(4:Nat)
abbrev qCQ6:=(3:Int)
abbrev qCQ7(I:Int) (J:Bool->Prop):=(decide (I<(-3:Int))=ac->J ac)
abbrev qCQ8:=(0:Nat)
theorem Z86(ds:List (List Int)) (n:Int) (d:List Int) (b:Bool):Zj E F0 (vc E F0 2000) 165 [.psl gh ds ab,.pptr fN n 0] hp0 0 (λr=>ret E (patch hp0 0 r) r.v (.tup [dimV d,.bool ab b]))=(
 qCQ1<=qCQ1/\qCQ1+qCQ2<=(qCQ4 ds)/\∀(x:List Int),ds[ag qCQ1]? =ae x->qCQ1<=qCQ2/\qCQ2+qCQ2<=(qCQ4 ds)/\∀(I:List Int),ds[ag qCQ2]? =ae I->(Zvf)/\qCQ8<=ag qCQ1/\ag qCQ1+qCQ3<=qCQ5/\∀(a6:Int),[qCQ1,qCQ1,qCQ1,qCQ1][ag qCQ1]? =ae a6->∃(Q:Bool->Prop),((Zvf)/\ag qCQ1+qCQ3<=aa (Zd7 x n I)/\∀(J:Int),(Zd7 x n I)[ag qCQ1]? =ae J->(qCQ7 J Q)/\(decide (J<(-3:Int))=ab->(Zvf)/\ag qCQ1+qCQ3<=aa (Zd7 x n I)/\∀(R:Int),(Zd7 x n I)[ag qCQ1]? =ae R->(decide (R>qCQ6)=ac->Q ac)/\(decide (R>qCQ6)=ab->Q ab)))/\(Q ac->aa (Zd7 x n I)=qCQ5/\qCQ5=qCQ5/\(Zpv d)/\ab=b/\True)/\(Q ab->qCQ1<=qCQ1/\qCQ1+qCQ2<=(qCQ4 ds)/\∀(J:List Int),ds[ag qCQ1]? =ae J->qCQ1<=qCQ2/\qCQ2+qCQ2<=(qCQ4 ds)/\∀(R:List Int),ds[ag qCQ2]? =ae R->(Zvg)/\qCQ8<=ag qCQ2/\ag qCQ2+qCQ3<=aa (Zd7 x n I)/\∀(a7:Int),(Zd7 x n I)[ag qCQ2]? =ae a7->∃(Q:Bool->Prop),((Zvg)/\ag qCQ2+qCQ3<=aa (Zfu x n I J R)/\∀(U:Int),(Zfu x n I J R)[ag qCQ2]? =ae U->(qCQ7 U Q)/\(decide (U<(-3:Int))=ab->(Zvg)/\ag qCQ2+qCQ3<=aa (Zfu x n I J R)/\∀(a0:Int),(Zfu x n I J R)[ag qCQ2]? =ae a0->(decide (a0>qCQ6)=ac->Q ac)/\(decide (a0>qCQ6)=ab->Q ab)))/\(Q ac->aa (Zfu x n I J R)=qCQ5/\qCQ5=qCQ5/\(Zpv d)/\ab=b/\True)/\(Q ab->qCQ1<=qCQ1/\qCQ1+qCQ2<=(qCQ4 ds)/\∀(U:List Int),ds[ag qCQ1]? =ae U->qCQ1<=qCQ2/\qCQ2+qCQ2<=(qCQ4 ds)/\∀(a0:List Int),ds[ag qCQ2]? =ae a0->(Zvh)/\qCQ8<=ag (2:Int)/\ag (2:Int)+qCQ3<=aa (Zfu x n I J R)/\∀(a8:Int),(Zfu x n I J R)[ag (2:Int)]? =ae a8->∃(Q:Bool->Prop),((Zvh)/\ag (2:Int)+qCQ3<=aa (Zd6 x n I J R U a0)/\∀(a2:Int),(Zd6 x n I J R U a0)[ag (2:Int)]? =ae a2->(qCQ7 a2 Q)/\(decide (a2<(-3:Int))=ab->(Zvh)/\ag (2:Int)+qCQ3<=aa (Zd6 x n I J R U a0)/\∀(a1:Int),(Zd6 x n I J R U a0)[ag (2:Int)]? =ae a1->(decide (a1>qCQ6)=ac->Q ac)/\(decide (a1>qCQ6)=ab->Q ab)))/\(Q ac->aa (Zd6 x n I J R U a0)=qCQ5/\qCQ5=qCQ5/\(Zpv d)/\ab=b/\True)/\(Q ab->qCQ1<=qCQ1/\qCQ1+qCQ2<=(qCQ4 ds)/\∀(a2:List Int),ds[ag qCQ1]? =ae a2->qCQ1<=qCQ2/\qCQ2+qCQ2<=(qCQ4 ds)/\∀(a1:List Int),ds[ag qCQ2]? =ae a1->(Zvi)/\qCQ8<=ag qCQ6/\ag qCQ6+qCQ3<=aa (Zd6 x n I J R U a0)/\∀(a5:Int),(Zd6 x n I J R U a0)[ag qCQ6]? =ae a5->∃(Q:Bool->Prop),((Zvi)/\ag qCQ6+qCQ3<=aa (Y8 x n I J R U a0 a2 a1)/\∀(a3:Int),(Y8 x n I J R U a0 a2 a1)[ag qCQ6]? =ae a3->(qCQ7 a3 Q)/\(decide (a3<(-3:Int))=ab->(Zvi)/\ag qCQ6+qCQ3<=aa (Y8 x n I J R U a0 a2 a1)/\∀(a4:Int),(Y8 x n I J R U a0 a2 a1)[ag qCQ6]? =ae a4->(decide (a4>qCQ6)=ac->Q ac)/\(decide (a4>qCQ6)=ab->Q ab)))/\(Q ac->aa (Y8 x n I J R U a0 a2 a1)=qCQ5/\qCQ5=qCQ5/\(Zpv d)/\ab=b/\True)/\(Q ab->aa (Y8 x n I J R U a0 a2 a1)=qCQ5/\aa (Y8 x n I J R U a0 a2 a1)=qCQ5/\qCQ5=qCQ5/\(ah [ah (Y8 x n I J R U a0 a2 a1) qCQ8 qCQ1,ah (Y8 x n I
J R U a0 a2 a1) qCQ3 qCQ1,ah (Y8 x n I J R U a0 a2 a1) (2:Nat) qCQ1,ah (Y8 x n I J R U a0 a2 a1) (3:Nat) qCQ1] qCQ8 qCQ1=ah d qCQ8 qCQ1/\ah [ah (Y8 x n I J R U a0 a2 a1) qCQ8 qCQ1,ah (Y8 x n I J R U a0 a2 a1) qCQ3 qCQ1,ah (Y8 x n I J R U a0 a2 a1) (2:Nat) qCQ1,ah (Y8 x n I J R U a0 a2 a1) (3:Nat) qCQ1] qCQ3 qCQ1=ah d qCQ3 qCQ1/\ah [ah (Y8 x n I J R U a0 a2 a1) qCQ8 qCQ1,ah (Y8 x n I J R U a0 a2 a1) qCQ3 qCQ1,ah (Y8 x n I J R U a0 a2 a1) (2:Nat) qCQ1,ah (Y8 x n I J R U a0 a2 a1) (3:Nat) qCQ1] (2:Nat) qCQ1=ah d (2:Nat) qCQ1/\ah [ah (Y8 x n I J R U a0 a2 a1) qCQ8 qCQ1,ah (Y8 x n I J R U a0 a2 a1) qCQ3 qCQ1,ah (Y8 x n I J R U a0 a2 a1) (2:Nat) qCQ1,ah (Y8 x n I J R U a0 a2 a1) (3:Nat) qCQ1] (3:Nat) qCQ1=ah d (3:Nat) qCQ1/\True)/\ac=b/\True))))):=by kernel_rfl
theorem Zir(c:Int):in3 c=ac↔(-3<=c/\c<=3):=by
 unfold in3;simp only[bh,bA,decide_eq_false_iff_not];omega
theorem q3(c:Int) {J I:Prop} (h1:in3 c=ab->J) (h2:in3 c=ac->I):∃Q:Bool->Prop,((c< -3->Q ac)/\(¬c< -3->(c>3->Q ac)/\(¬c>3->Q ab)))/\(Q ac->J)/\(Q ab->I):=by
 have hi:=Zir c;have R:¬(-3<=c/\c<=3)->in3 c=false:=λh=>by rw[<-Bool.not_eq_true,hi];exact h
 refine⟨λq=>q=ac↔in3 c=ab,aA (λh=>⟨λ_=>R (by omega),λ_=>rfl⟩) (λh=>aA (λU=>⟨λ_=>R (by omega),λ_=>rfl⟩) (λU=>⟨λh=>(by cases h),λh=> ?_⟩)),λh=>h1 (h.1 rfl),λh=>h2 ?_⟩
 ·rw[hi.2 (by omega)] at h;cases h
 ·cases hh:in3 c with
  |true=>rfl
  |false=>exact absurd (h.2 hh) (by simp)
theorem Z87(I:List (List Int)) (n:Int) (J:2<=I.length):PureC E 165 [.psl gh I ab,.pptr fN n 0] (optV (cmb n (I.getD 0 []) (I.getD 1 []))):=by
 match I,J with
 |a::b::r,J=>
 refine Za E_ok (Z6l 2000) ?_;unfold optV;rw[Z86];delta qCQ1 qCQ2 qCQ3 qCQ4 qCQ5 qCQ6 qCQ7 qCQ8;unfold Zvi Zvh Zvg Zvf Zfu Zpv Zd7 Y8 Zd6;have e:∀x y,wr af (x+wr af (n*y))=cmb1 n x y:=λ_ _=>rfl
 simp only[Ye,Z5,Xz,X0,X1,beq_iff_eq,bne_iff_ne,beq_eq_false_iff_ne,bne_eq_false_iff_eq,decide_eq_true_eq,decide_eq_false_iff_not,be,bA,bh,bY,aq,cx,cm,bd,beq_self_eq_true,Yi,Yf,ne_eq,and_true,true_and,aO,aK,false_or,or_false,true_implies,imp_self,bL,not_true_eq_false,not_false_eq_true,bp,dk,dO,cp,forall_eq',forall_eq,eJ,fK,aB,bg,cQ,cR,tn0,tn1,tn2,tn3,bW,aw,gH,gJ,gT,fW,cn4,cn16,e]
 unfold cmb;generalize cmb1 n (a.getD 0 0) (b.getD 0 0)=R;generalize cmb1 n (a.getD 1 0) (b.getD 1 0)=U;generalize cmb1 n (a.getD 2 0) (b.getD 2 0)=c2;generalize cmb1 n (a.getD 3 0) (b.getD 3 0)=c3;simp only[aB] at J
 repeat' (first|omega|(refine q3 _ (λh=> ?_) (λh=> ?_))|(refine aA ?_ ?_))
 all_goals simp[*]
abbrev qCQb:=(0:Int)
abbrev qCQ9(I:List Int) (J:List Int):=(ah [ah I (0:Nat) qCQb,ah I (1:Nat) qCQb,ah I (2:Nat) qCQb,ah I (3:Nat) qCQb] (0:Nat) qCQb=ah J (0:Nat) qCQb/\ah [ah I (0:Nat) qCQb,ah I (1:Nat) qCQb,ah I (2:Nat) qCQb,ah I (3:Nat) qCQb] (1:Nat) qCQb=ah J (1:Nat) qCQb/\ah [ah I (0:Nat) qCQb,ah I (1:Nat) qCQb,ah I (2:Nat) qCQb,ah I (3:Nat) qCQb] (2:Nat) qCQb=ah J (2:Nat) qCQb/\ah [ah I (0:Nat) qCQb,ah I (1:Nat) qCQb,ah I (2:Nat) qCQb,ah I (3:Nat) qCQb] (3:Nat) qCQb=ah J (3:Nat) qCQb/\True)
abbrev qCQa(I:List Int) (J:List Int):=(ah I (0:Nat) qCQb==ah J (0:Nat) qCQb&&(ah I (1:Nat) qCQb==ah J (1:Nat) qCQb&&(ah I (2:Nat) qCQb==ah J (2:Nat) qCQb&&(ah I (3:Nat) qCQb==ah J (3:Nat) qCQb&&ac))))
theorem Zyc(I:List (List Int)) (d:List Int) (b:Bool):Zj E F0 (vc E F0 400) 105 [.psl gh I ab] hp0 0 (λr=>ret E (patch hp0 0 r) r.v (.tup [dimV d,.bool ab b]))=(
 qCQb<=qCQb/\qCQb+(1:Int)<=(↑(aa I):Int)/\∀(x:List Int),I[ag qCQb]? =ae x->qCQb<=qCQb/\qCQb+(1:Int)<=(↑(aa I):Int)/\∀(J:List Int),I[ag qCQb]? =ae J->qCQb<=(1:Int)/\(1:Int)+(1:Int)<=(↑(aa I):Int)/\∀(R:List Int),I[ag (1:Int)]? =ae R->((qCQa J R)=ac->(4:Nat)=(4:Nat)/\(4:Nat)=(4:Nat)/\(qCQ9 x d)/\ac=b/\True)/\((qCQa J R)=ab->(4:Nat)=(4:Nat)/\(4:Nat)=(4:Nat)/\(qCQ9 x d)/\ab=b/\True)):=by kernel_rfl
def eq4(a b:List Int):Bool:=a.getD 0 0==b.getD 0 0&&(a.getD 1 0==b.getD 1 0&&(a.getD 2 0==b.getD 2 0&&a.getD 3 0==b.getD 3 0))
theorem Yen{a b:List Int} (h:a.getD 0 0=b.getD 0 0/\a.getD 1 0=b.getD 1 0/\a.getD 2 0=b.getD 2 0/\a.getD 3 0=b.getD 3 0):eq4 a b=true:=by
 unfold eq4;simp only[aq,beq_iff_eq];exact h
theorem Yeo{a b:List Int} (h:¬a.getD 0 0=b.getD 0 0\/¬a.getD 1 0=b.getD 1 0\/¬a.getD 2 0=b.getD 2 0\/¬a.getD 3 0=b.getD 3 0):eq4 a b=false:=by
 rw[Bool.eq_false_iff];intro I;unfold eq4 at I;simp only[aq,beq_iff_eq] at I;omega
theorem Zsv{a b:List Int} (I:Is4 a) (J:Is4 b):eq4 a b=decide (a=b):=by
 obtain⟨R,U,a2,a3,rfl⟩:=I;obtain⟨b0,b1,b2,b3,rfl⟩:=J;rw[Bool.eq_iff_iff,decide_eq_true_eq];unfold eq4;simp
theorem Zyd(I:List (List Int)) (J:2<=I.length):PureC E 105 [.psl gh I ab] (.tup [dimV (I.getD 0 []),.bool ab (eq4 (I.getD 0 []) (I.getD 1 []))]):=by
 match I,J with
 |a::b::r,J=>
 refine Za E_ok (Z6l 400) ?_;rw[Zyc];delta qCQb qCQ9 qCQa
 simp only[Ye,Z5,Xz,X0,X1,beq_iff_eq,bne_iff_ne,beq_eq_false_iff_ne,bne_eq_false_iff_eq,decide_eq_true_eq,decide_eq_false_iff_not,be,bA,bh,bY,aq,cx,cm,bd,beq_self_eq_true,Yi,Yf,ne_eq,and_true,true_and,aO,aK,false_or,or_false,true_implies,imp_self,bL,not_true_eq_false,not_false_eq_true,bp,dk,dO,cp,forall_eq',forall_eq,eJ,fK,aB,bg,cQ,cR,tn0,tn1,tn2,tn3,bW,aw,gH,gJ,gT,fW,cn4,cn16]
 simp only[aB] at J;refine⟨by omega,by omega,by omega,λh=> ?_,λh=> ?_⟩
 ·exact(Yen h).symm
 ·exact(Yeo h).symm
abbrev Zgi(x:List Int) (d:List Int):Prop:=
 ah [ah x (0:Nat) (0:Int),ah x (1:Nat) (0:Int),ah x (2:Nat) (0:Int),ah x (3:Nat) (0:Int)] (0:Nat) (0:Int)=ah d
 (0:Nat) (0:Int)/\ah [ah x (0:Nat) (0:Int),ah x (1:Nat) (0:Int),ah x (2:Nat) (0:Int),ah x (3:Nat) (0:Int)] (1:Nat) (0
 :Int)=ah d (1:Nat) (0:Int)/\ah [ah x (0:Nat) (0:Int),ah x (1:Nat) (0:Int),ah x (2:Nat) (0:Int),ah x (3:Nat) (0
 :Int)] (2:Nat) (0:Int)=ah d (2:Nat) (0:Int)/\ah [ah x (0:Nat) (0:Int),ah x (1:Nat) (0:Int),ah x (2:Nat) (0:Int),
 ah x (3:Nat) (0:Int)] (3:Nat) (0:Int)=ah d (3:Nat) (0:Int)/\True
abbrev Zms(I:List Int) (J:List Int):=
 (ah I (0:Nat) (0:Int)==ah J (0:Nat) (0:Int)&&(ah I (1:Nat) (0:Int)==ah J (1:Nat) (0:Int)&&(ah I (2:Nat) (0
 :Int)==ah J (2:Nat) (0:Int)&&(ah I (3:Nat) (0:Int)==ah J (3:Nat) (0:Int)&&ac))))
abbrev Zmt(I:List Int) (J:List Int):=
 (ah I (0:Nat) (0:Int)==ah J (0:Nat) (0:Int)&&(ah I (1:Nat) (0:Int)==ah J (1:Nat) (0:Int)&&(ah I (2:Nat) (0
 :Int)==ah J (2:Nat) (0:Int)&&(ah I (3:Nat) (0:Int)==ah J (3:Nat) (0:Int)&&ac))))
theorem Zye(I:List (List Int)) (d:List Int) (b:Bool):Zj E F0 (vc E F0 400) 106 [.psl gh I ab] hp0 0 (λr=>ret E (patch hp0 0 r) r.v (.tup [dimV d,.bool ab b]))=(
(0:Int)<=(2:Int)/\(2:Int)+(1:Int)<=(↑(aa I):Int)/\∀(x:List Int),I[ag (2:Int)]? =ae x->(0:Int)<=(0:Int)/\(0:Int)+(1:Int)<=(↑(aa I):Int)/\∀(J:List Int),I[ag (0:Int)]? =ae J->(0:Int)<=(1:Int)/\(1:Int)+(1:Int)<=(↑(aa I):Int)/\∀(R:List Int),I[ag (1:Int)]? =ae R->((Zms J R)=ac->(0:Int)<=(2:Int)/\(2:Int)+(1:Int)<=(↑(aa I):Int)/\∀(U:List Int),I[ag (2:Int)]? =ae U->(0:Int)<=(3:Int)/\(3:Int)+(1:Int)<=(↑(aa I):Int)/\∀(a0:List Int),I[ag (3:Int)]? =ae a0->((Zmt U a0)=ac->(4:Nat)=(4:Nat)/\(4:Nat)=(4:Nat)/\(Zgi x d)/\ac=b/\True)/\((Zmt U a0)=ab->(4:Nat)=(4:Nat)/\(4:Nat)=(4:Nat)/\(Zgi x d)/\ab=b/\True))/\((Zms J R)=ab->(4:Nat)=(4:Nat)/\(4:Nat)=(4:Nat)/\(Zgi x d)/\ab=b/\True)):=by kernel_rfl
theorem Zyf(I:List (List Int)) (R:4<=I.length):PureC E 106 [.psl gh I ab] (.tup [dimV (I.getD 2 []),.bool ab (eq4 (I.getD 0 []) (I.getD 1 [])&&eq4 (I.getD 2 []) (I.getD 3 []))]):=by
 match I,R with
 |a::b::c::d::r,R=>
 refine Za E_ok (Z6l 400) ?_;rw[Zye];unfold Zmt Zms Zgi
 simp only[Ye,Z5,Xz,X0,X1,beq_iff_eq,bne_iff_ne,beq_eq_false_iff_ne,bne_eq_false_iff_eq,decide_eq_true_eq,decide_eq_false_iff_not,be,bA,bh,bY,aq,cx,cm,bd,beq_self_eq_true,Yi,Yf,ne_eq,and_true,true_and,aO,aK,false_or,or_false,true_implies,imp_self,bL,not_true_eq_false,not_false_eq_true,bp,dk,dO,cp,forall_eq',forall_eq,eJ,fK,aB,bg,cQ,cR,tn0,tn1,tn2,tn3,bW,aw,gH,gJ,gT,fW,cn4,cn16]
 simp only[aB] at R;refine⟨by omega,by omega,by omega,λh=>⟨by omega,by omega,λJ=> ?_,λJ=> ?_⟩,λh=> ?_⟩
 ·rw[Yen h,Yen J];rfl
 ·rw[Yeo J,Bool.and_false]
 ·rw[Yeo h,Bool.false_and]
end
section
open Go
open Classical in
noncomputable def dRul:Dc E Unit where
  dec v:=if v=Wg then ae () else ar
  enc _:=Wg
  ok v a h:=by
    split at h
    ·rename_i e;subst e;exact⟨rfl,rfl,λ_ _ _ h=>h⟩
    ·cases h
noncomputable def Zqo(m:Nat):Sum thy:=λargs h i k=>match args with
  | [r,I]=>r=Wg/\(match(dR .exprs).dec I with|some x=>((x:Ex).sz<m/\Zn x=ac)/\∀o,o=Zab x->k (quiet [] (optV o))|none=>False)
  |_=>False
theorem Zqp{m:Nat} (hp:∀x:Ex,x.sz<m->Zn x=ac->PureC E 59 [Wg,exA x] (optV (Zab x))):SumOk E 59 (Zqo m):=by
  refine⟨Zc (f:=59) rfl,λargs h i k hD I=> ?_⟩;unfold Zqo at I;split at I
  ·rename_i r U
   obtain⟨rfl,I⟩:=I;split at I
   ·rename_i x hx
    obtain⟨⟨h1,h2⟩,I⟩:=I;have hd:(DcL.cons dRul (dA1 (dR .exprs))).dec [Wg,U]=ae ((),x,()):=by
      have h0:(dRul).dec Wg=ae ():=by unfold dRul;simp
      simp only[DcL.cons,dA1,DcL.nil,h0,hx]
    have R:PureC E 59 [Wg,U] (optV (Zab x)):=PureC.of_dec hd (hp x h1 h2);have J:=(DcL.cons dRul (dA1 (dR .exprs))).ok _ _ hd;exact⟨_,I _ rfl,(R.tri E_ok J.1 h i).1,.inl (R.tri E_ok J.1 h i).2⟩
   ·exact I.elim
  ·exact I.elim
noncomputable def Spow:Sum thy:=Zce E (λ_=>ar) 10 (dA2 Yem dPow) (λx=>2<=x.1.length) (λx=>cmb x.2.1 (x.1.getD 0 []) (x.1.getD 1 [])) optV
theorem Ygi:SumOk E 165 Spow:=Y9 E_ok (Zc (f:=165) rfl) λx h=>Z87 _ _ h
def prV(p:List Int×Bool):SV thy:= .tup [dimV p.1,.bool ab p.2]
noncomputable def Yjx:Sum thy:=Zce E (λ_=>ar) 10 (dA1 Yem) (λx=>2<=x.1.length) (λx=>(x.1.getD 0 [],eq4 (x.1.getD 0 []) (x.1.getD 1 []))) prV
theorem Yax:SumOk E 105 Yjx:=Y9 E_ok (Zc (f:=105) rfl) λx h=>Zyd _ h
noncomputable def Yjy:Sum thy:=Zce E (λ_=>ar) 10 (dA1 Yem) (λx=>4<=x.1.length) (λx=>(x.1.getD 2 [],eq4 (x.1.getD 0 []) (x.1.getD 1 [])&&eq4 (x.1.getD 2 []) (x.1.getD 3 []))) prV
theorem Yay:SumOk E 106 Yjy:=Y9 E_ok (Zc (f:=106) rfl) λx h=>Zyf _ h
structure UnX where
  k:Nat
  r:Nat
  D:List (List Int)
noncomputable def Ylj:Fr thy->Hp thy->Nat->Ann2 thy:=λT h i=>{X:=UnX,fr:=λs x=> [(0,T 0),(3,T 3),(4,T 4),(6,match s with|false=> .val (.slice ar 0 0)|true=> .sl i 0 x.D.length 4 ar),(24,T 24),(25,T 25),(26,.int ab .i64 x.k)],bl:=λs x=>match s with|false=>blkP h (T 3)++blkP h (T 4)|true=>(i,.rows gh x.D 0)::(blkP h (T 3)++blkP h (T 4)),src:=λs=>match s with|false=> []|true=> [(i,6)],md:= [bOf (T 4)],ih:=i+1,M:=i+40,meas:=λs x=>x.r}
noncomputable def Zwp:Fns thy:=addS (addS (addS F0 165 Spow) 105 Yjx) 106 Yjy
theorem Zqq:FnsOk E Zwp:=Zb (Zb (Zb F0_ok Ygi) Yax) Yay
noncomputable def Ygj(m:Nat):Fns thy:=Yjw (addS Zwp 59 (Zqo m)) 59 8 Ylj E
abbrev Zes(o:Option (List Int)):Prop:=
  (0:Int)=ah (cy o [(0:Int),(0:Int),(0:Int),(0:Int)]) (0:Nat) (0:Int)/\(0:Int)=ah (cy o [(0:Int),(0:Int),(0:Int),(0
  :Int)]) (1:Nat) (0:Int)/\(0:Int)=ah (cy o [(0:Int),(0:Int),(0:Int),(0:Int)]) (2:Nat) (0:Int)/\(0:Int)=ah (cy o [(0:
  Int),(0:Int),(0:Int),(0:Int)]) (3:Nat) (0:Int)/\True
abbrev Vk(y:Option (List Int)) (o:Option (List Int)):Prop:=
  (!cO y)=ab->(4:Nat)=(4:Nat)/\(4:Nat)=(4:Nat)/\(4:Nat)=(4:Nat)/\(ah (cy y [(0:Int),(0:Int),(0:Int),(0:Int)]) (0:
  Nat) (0:Int)=ah (cy o [(0:Int),(0:Int),(0:Int),(0:Int)]) (0:Nat) (0:Int)/\ah (cy y [(0:Int),(0:Int),(0:Int),(0:
  Int)]) (1:Nat) (0:Int)=ah (cy o [(0:Int),(0:Int),(0:Int),(0:Int)]) (1:Nat) (0:Int)/\ah (cy y [(0:Int),(0:Int),(0:
  Int),(0:Int)]) (2:Nat) (0:Int)=ah (cy o [(0:Int),(0:Int),(0:Int),(0:Int)]) (2:Nat) (0:Int)/\ah (cy y [(0:Int),(0:
  Int),(0:Int),(0:Int)]) (3:Nat) (0:Int)=ah (cy o [(0:Int),(0:Int),(0:Int),(0:Int)]) (3:Nat) (0:Int)/\True)/\ac=cO o/\
  True
abbrev Wd(y:List Int×Bool) (o:Option (List Int)):Prop:=
  (!aE y)=ab->(4:Nat)=(4:Nat)/\(4:Nat)=(4:Nat)/\(4:Nat)=(4:Nat)/\(ah (ao y) (0:Nat) (0:Int)=ah (cy o [(0:Int),
  (0:Int),(0:Int),(0:Int)]) (0:Nat) (0:Int)/\ah (ao y) (1:Nat) (0:Int)=ah (cy o [(0:Int),(0:Int),(0:Int),(0:Int)]) (1:
  Nat) (0:Int)/\ah (ao y) (2:Nat) (0:Int)=ah (cy o [(0:Int),(0:Int),(0:Int),(0:Int)]) (2:Nat) (0:Int)/\ah (ao y)
  (3:Nat) (0:Int)=ah (cy o [(0:Int),(0:Int),(0:Int),(0:Int)]) (3:Nat) (0:Int)/\True)/\ac=cO o/\True
abbrev Zq(I:UnX):=
  (av (aa (UnX.D I)) (ct (0:Nat) (UnX.D I)))
abbrev We(y:List Int×Bool) (o:Option (List Int)):Prop:=
  (!aE y)=ac->(4:Nat)=(4:Nat)/\(4:Nat)=(4:Nat)/\(Zes o)/\ab=cO o/\True
abbrev Vl(y:Option (List Int)) (o:Option (List Int)):Prop:=
  (!cO y)=ac->(4:Nat)=(4:Nat)/\(4:Nat)=(4:Nat)/\(Zes o)/\ab=cO o/\True
abbrev Zb7(x:Ex):Prop:=
  aJ x=aJ x/\bX x=bX x/\bC x=bC x/\bD x=bD x/\bE x=bE x/\bF x=bF x/\(bw x=bw x/\(ab=ac->ab=ac))/\True
abbrev Zb8:Prop:=
  [(0:Int),(0:Int),(0:Int),(0:Int)]= [(0:Int),(0:Int),(0:Int),(0:Int)]/\(0:Nat)=(0:Nat)
abbrev U8(I:Ex):=
  (bV (aJ I) (bX I) (bC I) (bD I) (bE I) (bF I) (bw I))
abbrev Vm(o:Option (List Int)):=
  (cy o [(0:Int),(0:Int),(0:Int),(0:Int)])
abbrev Wf(I:Option (List Int)):=
  (cy I [(0:Int),(0:Int),(0:Int),(0:Int)])
abbrev Zje(x:Ex) (I:UnX) (x':UnX):Prop:=
  (Xn=Xn/\ac=ac)/\(0:Nat)=(0:Nat)/\(0:Nat)=(0:Nat)/\False/\(bw x=bw x/\(ab=ac->ab=ac))/\(↑(aa (bw x)):Int)=
  (↑(aa (bw x)):Int)/\wr af ((↑(UnX.k I):Int)+(1:Int))=(↑(UnX.k x'):Int)/\True
--@cond unitK | 59 | Zwp>(Ygj m) | 800 | (m : Nat) (x : Ex) | [Wg, exA x] | (o : Option (List Int)) | optV o
theorem Zzo(m:Nat) (x:Ex) (o:Option (List Int)):Zj E Zwp (vc E (Ygj m) 800) 59 [Wg,exA x] hp0 0 (λr=>ret E (patch hp0 0 r) r.v (optV o))=(
  ((aJ x==(1:Int))=ac->(4:Nat)=(4:Nat)/\(4:Nat)=(4:Nat)/\(bC x=ah (Vm o) (0:Nat) (0:Int)/\bD x=ah (Vm o) (1:
  Nat) (0:Int)/\bE x=ah (Vm o) (2:Nat) (0:Int)/\bF x=ah (Vm o) (3:Nat) (0:Int)/\True)/\ac=cO o/\True)/\((aJ x
  ==(1:Int))=ab->((aJ x==(2:Int))=ac->(0:Int)<=bX x/\bX x+(1:Int)<=(↑(16:Nat):Int)/\∀(I:List Int),[[(0:Int),(0:Int),(0:Int),(0
  :Int)],[(0:Int),(0:Int),(0:Int),(0:Int)],[(0:Int),(0:Int),(0:Int),(0:Int)],[(0:Int),(0:Int),(0:Int),(0:Int)],[(0:Int),(0:Int),(0:
  Int),(0:Int)],[(0:Int),(0:Int),(0:Int),(1:Int)],[(0:Int),(0:Int),(1:Int),(0:Int)],[(0:Int),(1:Int),(0:Int),(0:Int)],[(0:Int),(1:Int),
  (0:Int),(0:Int)],[(0:Int),(0:Int),(0:Int),(0:Int)],[(1:Int),(0:Int),(0:Int),(0:Int)],[(1:Int),(0:Int),(0:Int),(0:Int)],[(0:Int),(0:
  Int),(0:Int),(0:Int)],[(0:Int),(0:Int),(0:Int),(0:Int)],[(0:Int),(0:Int),(0:Int),(0:Int)],[(0:Int),(0:Int),(0:Int),(0:Int)]][ag
  (bX x)]? =ae I->(4:Nat)=(4:Nat)/\(4:Nat)=(4:Nat)/\(ah I (0:Nat) (0:Int)=ah (Vm o) (0:Nat) (0:Int)/\ah I (1:Nat)
  (0:Int)=ah (Vm o) (1:Nat) (0:Int)/\ah I (2:Nat) (0:Int)=ah (Vm o) (2:Nat) (0:Int)/\ah I (3:Nat) (0:Int)=
  ah (Vm o) (3:Nat) (0:Int)/\True)/\ac=cO o/\True)/\((aJ x==(2:Int))=ab->∃(R:Bool->UnX->Prop),((∃(x:UnX),R ac x/\ac
  =ac/\False)\/∃(I:UnX),R ab I/\ac=ac/\((Xn=Xn/\ac=ac)/\(0:Nat)=(0:Nat)/\(0:Nat)=(0:Nat)/\aH ar (0:Nat) (0:
  Nat)=aH ar (0:Nat) (0:Nat)/\(bw x=bw x/\(ab=ac->ab=ac))/\(↑(aa (bw x)):Int)=(↑(aa (bw x)):Int)/\(0:Int)=
  (↑(UnX.k I):Int)/\True)/\(Zb7 x)/\(Zb8)/\True)/\(∀(I:UnX),R ac I->(decide ((↑(UnX.k I):Int)<(↑(aa (bw x)):Int))=ac->(0:
  Int)<=(↑(UnX.k I):Int)/\(↑(UnX.k I):Int)+(1:Int)<=(↑(aa (bw x)):Int)/\∀(U:Ex),(bw x)[ag (↑(UnX.k I):Int)]? =ae U->SV.pmap
  Xn=Wg/\(Ex.sz (U8 U)+(1:Nat)<=m/\Zn (U8 U)=ac)/\∀(J:Option (List Int)),J=Zab (U8 U)->(4:Nat)=(4:Nat)/\
  ((!cO J)=ac->(4:Nat)=(4:Nat)/\(4:Nat)=(4:Nat)/\(Zes o)/\ab=cO o/\True)/\((!cO J)=ab->(4:Nat)=(4:
  Nat)/\(aa (UnX.D I)<=aa (UnX.D I)/\(0:Nat)<=aa (UnX.D I)/\(aa (UnX.D I)+(1:Nat))*(32:Nat)<=(140737488355328:Nat))/\
  ((∃(x':UnX),R ac x'/\x'.2+(1:Nat)<=I.2/\ac=ac/\((Xn=Xn/\ac=ac)/\(0:Nat)=(0:Nat)/\(0:Nat)=(0:Nat)/\((0:Nat)=(0:Nat)/\
  aa (UnX.D I)+(1:Nat)=aa (UnX.D x')/\True)/\(bw x=bw x/\(ab=ac->ab=ac))/\(↑(aa (bw x)):Int)=(↑(aa (bw
  x)):Int)/\wr af ((↑(UnX.k I):Int)+(1:Int))=(↑(UnX.k x'):Int)/\True)/\(av (aa (UnX.D I)) (UnX.D I)++ [[ah (Wf J) (0
  :Nat) (0:Int),ah (Wf J) (1:Nat) (0:Int),ah (Wf J) (2:Nat) (0:Int),ah (Wf J) (3:Nat) (0:Int)]]=UnX.D x'/\(0:
  Nat)=(0:Nat))/\(Zb7 x)/\(Zb8)/\True)\/∃(x':UnX),R ab x'/\x'.2+(1:Nat)<=I.2/\ac=ac/\(Zje x I x')/\(Zb7 x)/\(Zb8)/\
  True)))/\(decide ((↑(UnX.k I):Int)<(↑(aa (bw x)):Int))=ab->((aJ x==(3:Int))=ac->(0:Nat)+aa (UnX.D I)<=aa (UnX.D
  I)/\(2:Nat)<=aa (Zq I)/\∀(y:List Int×Bool),y=(ah (Zq I) (0:Nat) [],eq4 (ah (Zq I) (0:Nat) []) (ah
  (Zq I) (1:Nat) []))->(4:Nat)=(4:Nat)/\(We y o)/\(Wd y o))/\((aJ x==(3:Int))=ab->((aJ x==(4:Int))=ac->(0:Nat)+
  aa (UnX.D I)<=aa (UnX.D I)/\(2:Nat)<=aa (Zq I)/\∀(y:List Int×Bool),y=(ah (Zq I) (0:Nat) [],eq4 (ah
  (Zq I) (0:Nat) []) (ah (Zq I) (1:Nat) []))->(4:Nat)=(4:Nat)/\(We y o)/\(Wd y o))/\((aJ x==(4:Int))=ab->((aJ x==
  (6:Int))=ac->(0:Nat)+aa (UnX.D I)<=aa (UnX.D I)/\(2:Nat)<=aa (Zq I)/\∀(y:List Int×Bool),y=(ah (Zq
  I) (0:Nat) [],eq4 (ah (Zq I) (0:Nat) []) (ah (Zq I) (1:Nat) []))->(4:Nat)=(4:Nat)/\(We y o)/\(Wd y o))/\((aJ x==
  (6:Int))=ab->((aJ x==(7:Int))=ac->(0:Nat)+aa (UnX.D I)<=aa (UnX.D I)/\(2:Nat)<=aa (Zq I)/\∀(y:List Int×
  Bool),y=(ah (Zq I) (0:Nat) [],eq4 (ah (Zq I) (0:Nat) []) (ah (Zq I) (1:Nat) []))->(4:Nat)=(4:Nat)/\(We y o)/\
  (Wd y o))/\((aJ x==(7:Int))=ab->((aJ x==(5:Int))=ac->(0:Nat)+aa (UnX.D I)<=aa (UnX.D I)/\(2:Nat)<=aa
  (Zq I)/\∀(y:Option (List Int)),y=cmb (1:Int) (ah (Zq I) (0:Nat) []) (ah (Zq I) (1:Nat) [])->(4:Nat)=(4:Nat)/\(Vl
  y o)/\(Vk y o))/\((aJ x==(5:Int))=ab->((aJ x==(8:Int))=ac->(0:Nat)+aa (UnX.D I)<=aa (UnX.D I)/\(2:Nat)<=
  aa (Zq I)/\∀(y:Option (List Int)),y=cmb (-1:Int) (ah (Zq I) (0:Nat) []) (ah (Zq I) (1:Nat) [])->(4:Nat)=(4:Nat)
  /\(Vl y o)/\(Vk y o))/\((aJ x==(8:Int))=ab->((aJ x==(9:Int))=ac->(0:Nat)+aa (UnX.D I)<=aa (UnX.D I)/\(2:Nat)
  <=aa (Zq I)/\∀(y:Option (List Int)),y=cmb (-1:Int) (ah (Zq I) (0:Nat) []) (ah (Zq I) (1:Nat) [])->(4:Nat)=(4:
  Nat)/\(Vl y o)/\(Vk y o))/\((aJ x==(9:Int))=ab->((aJ x==(10:Int))=ac->(0:Nat)+aa (UnX.D I)<=aa (UnX.D I)/\(2:
  Nat)<=aa (Zq I)/\∀(y:Option (List Int)),y=cmb (-1:Int) (ah (Zq I) (0:Nat) []) (ah (Zq I) (1:Nat) [])->(4:Nat)=(4
  :Nat)/\(Vl y o)/\(Vk y o))/\((aJ x==(10:Int))=ab->((aJ x==(11:Int))=ac->(0:Nat)+aa (UnX.D I)<=aa (UnX.D I)/\
  (4:Nat)<=aa (Zq I)/\∀(y:List Int×Bool),y=(ah (Zq I) (2:Nat) [],eq4 (ah (Zq I) (0:Nat) []) (ah (Zq
  I) (1:Nat) [])&&eq4 (ah (Zq I) (2:Nat) []) (ah (Zq I) (3:Nat) []))->(4:Nat)=(4:Nat)/\(We y o)/\(Wd y o))/\((aJ x
  ==(11:Int))=ab->False)))))))))))/\∀(I:UnX),R ab I->(decide ((↑(UnX.k I):Int)<(↑(aa (bw x)):Int))=ac->(0:Int)<=(↑(UnX.k I):
  Int)/\(↑(UnX.k I):Int)+(1:Int)<=(↑(aa (bw x)):Int)/\∀(U:Ex),(bw x)[ag (↑(UnX.k I):Int)]? =ae U->SV.pmap Xn=Wg/\(Ex.sz
  (U8 U)+(1:Nat)<=m/\Zn (U8 U)=ac)/\∀(J:Option (List Int)),J=Zab (U8 U)->(4:Nat)=(4:Nat)/\((!cO J)=ac->
  (4:Nat)=(4:Nat)/\(4:Nat)=(4:Nat)/\(Zes o)/\ab=cO o/\True)/\((!cO J)=ab->(4:Nat)=(4:Nat)/\((∃(x':UnX),R ac x'
  /\x'.2+(1:Nat)<=I.2/\ac=ac/\((Xn=Xn/\ac=ac)/\(0:Nat)=(0:Nat)/\(0:Nat)=(0:Nat)/\((0:Nat)=(0:Nat)/\(1:Nat)=aa
  (UnX.D x')/\True)/\(bw x=bw x/\(ab=ac->ab=ac))/\(↑(aa (bw x)):Int)=(↑(aa (bw x)):Int)/\wr af ((↑(UnX.k I):Int)
  +(1:Int))=(↑(UnX.k x'):Int)/\True)/\([[ah (Wf J) (0:Nat) (0:Int),ah (Wf J) (1:Nat) (0:Int),ah (Wf J) (2:Nat)
  (0:Int),ah (Wf J) (3:Nat) (0:Int)]]=UnX.D x'/\(0:Nat)=(0:Nat))/\(Zb7 x)/\(Zb8)/\True)\/∃(x':UnX),R ab x'/\x'.2+(1:Nat)<=
  I.2/\ac=ac/\(Zje x I x')/\(Zb7 x)/\(Zb8)/\True)))/\(decide ((↑(UnX.k I):Int)<(↑(aa (bw x)):Int))=ab->((aJ x==(3:
  Int))=ac->(2:Nat)<=(0:Nat)/\∀(y:List Int×Bool),y=(ah [] (0:Nat) [],eq4 (ah [] (0:Nat) []) (ah [] (1:Nat) []))->(4:Nat)=(4:
  Nat)/\(We y o)/\(Wd y o))/\((aJ x==(3:Int))=ab->((aJ x==(4:Int))=ac->(2:Nat)<=(0:Nat)/\∀(y:List Int×Bool),y=(ah [] (0
  :Nat) [],eq4 (ah [] (0:Nat) []) (ah [] (1:Nat) []))->(4:Nat)=(4:Nat)/\(We y o)/\(Wd y o))/\((aJ x==(4:Int))=ab->((aJ x
  ==(6:Int))=ac->(2:Nat)<=(0:Nat)/\∀(y:List Int×Bool),y=(ah [] (0:Nat) [],eq4 (ah [] (0:Nat) []) (ah [] (1:Nat) []))->(4:Nat)=
  (4:Nat)/\(We y o)/\(Wd y o))/\((aJ x==(6:Int))=ab->((aJ x==(7:Int))=ac->(2:Nat)<=(0:Nat)/\∀(y:List Int×Bool),y=(ah
  [] (0:Nat) [],eq4 (ah [] (0:Nat) []) (ah [] (1:Nat) []))->(4:Nat)=(4:Nat)/\(We y o)/\(Wd y o))/\((aJ x==(7:Int))=ab->
  ((aJ x==(5:Int))=ac->(2:Nat)<=(0:Nat)/\∀(y:Option (List Int)),y=cmb (1:Int) (ah [] (0:Nat) []) (ah [] (1:Nat) [])->(4:Nat)=(4:
  Nat)/\(Vl y o)/\(Vk y o))/\((aJ x==(5:Int))=ab->((aJ x==(8:Int))=ac->(2:Nat)<=(0:Nat)/\∀(y:Option (List Int)),y=cmb (-1:Int)
  (ah [] (0:Nat) []) (ah [] (1:Nat) [])->(4:Nat)=(4:Nat)/\(Vl y o)/\(Vk y o))/\((aJ x==(8:Int))=ab->((aJ x==(9:Int))=
  ac->(2:Nat)<=(0:Nat)/\∀(y:Option (List Int)),y=cmb (-1:Int) (ah [] (0:Nat) []) (ah [] (1:Nat) [])->(4:Nat)=(4:Nat)/\(Vl y o)/\
  (Vk y o))/\((aJ x==(9:Int))=ab->((aJ x==(10:Int))=ac->(2:Nat)<=(0:Nat)/\∀(y:Option (List Int)),y=cmb (-1:Int) (ah [] (0:
  Nat) []) (ah [] (1:Nat) [])->(4:Nat)=(4:Nat)/\(Vl y o)/\(Vk y o))/\((aJ x==(10:Int))=ab->((aJ x==(11:Int))=ac->(4:Nat)<=
  (0:Nat)/\∀(y:List Int×Bool),y=(ah [] (2:Nat) [],eq4 (ah [] (0:Nat) []) (ah [] (1:Nat) [])&&eq4 (ah [] (2:Nat) []) (ah []
  (3:Nat) []))->(4:Nat)=(4:Nat)/\(We y o)/\(Wd y o))/\((aJ x==(11:Int))=ab->False))))))))))))
  ):=by kernel_rfl
--@end
theorem Yaz:∀k:Nat,k<16-> [[(0:Int),0,0,0],[0,0,0,0],[0,0,0,0],[0,0,0,0],[0,0,0,0],[0,0,0,1],[0,0,1,0],[0,1,0,0],[0,1,0,0],[0,0,0,0],[1,0,0,0],[1,0,0,0],[0,0,0,0],[0,0,0,0],[0,0,0,0],[0,0,0,0]][k]? =ae (Zqu (k:Int)):=by decide
theorem Z5y{d:List Int} (h:Is4 d): [d.getD 0 0,d.getD 1 0,d.getD 2 0,d.getD 3 0]=d:=by
  obtain⟨a,b,c,e,rfl⟩:=h;rfl
theorem Zqr{l:List Ex} {k:Nat} {y:Ex} (h:l[k]? =ae y):W7 (l.drop k)=(Zab y).bind λd=>(W7 (l.drop (k+1))).bind λI=>ae (d::I):=by rw[Z0 h,W7]
def EqB(o:Option (List Int)) (b:Bool) (d:List Int):Prop:=(b=ab->(0=(o.getD [0,0,0,0]).getD 0 0/\0=(o.getD [0,0,0,0]).getD 1 0/\0=(o.getD [0,0,0,0]).getD 2 0/\0=(o.getD [0,0,0,0]).getD 3 0)/\ab=o.isSome)/\
  (b=ac->(d.getD 0 0=(o.getD [0,0,0,0]).getD 0 0/\d.getD 1 0=(o.getD [0,0,0,0]).getD 1 0/\d.getD 2 0=(o.getD [0,0,0,0]).getD 2 0/\d.getD 3 0=(o.getD [0,0,0,0]).getD 3 0)/\ac=o.isSome)
theorem Ya0{o:Option (List Int)} (h:o=ar):(0=(o.getD [0,0,0,0]).getD 0 0/\0=(o.getD [0,0,0,0]).getD 1 0/\0=(o.getD [0,0,0,0]).getD 2 0/\0=(o.getD [0,0,0,0]).getD 3 0)/\ab=o.isSome:=by subst h;exact⟨⟨rfl,rfl,rfl,rfl⟩,rfl⟩
theorem Z5z{o:Option (List Int)} {b:Bool} {d:List Int} (I:b=ab->o=ar) (J:b=ac->o=ae d):EqB o b d:=by
  refine⟨λh=>Ya0 (I h),λh=> ?_⟩;rw[J h];exact⟨⟨rfl,rfl,rfl,rfl⟩,rfl⟩
theorem Yjz{P:Prop} [Decidable P] {d:List Int}:EqB (if P then ae d else ar) (decide P) d:=
  Z5z (λh=>by rw[if_neg (by simpa using h)]) (λh=>by rw[if_pos (by simpa using h)])
theorem powB(o:Option (List Int)):EqB o o.isSome (o.getD [0,0,0,0]):=by
  cases o with
  |none=>exact Z5z (λ_=>rfl) (λh=>by simp at h)
  |some d=>exact Z5z (λh=>by simp at h) (λ_=>rfl)
theorem Ya1:∀(m:Nat),m<=1000000000->∀(x:Ex),x.sz<m->Zn x=ac->PureC E 59 [Wg,exA x] (optV (Zab x)):=by
  intro m
  induction m with
  |zero=>intro _ x h;omega
  |succ m ih=>
    intro hb x hm hf;have hF:FnsOk E (Ygj m):=Yaw E_ok (Zb Zqq (Zqp λx h=>ih (by omega) x h)) _ _ _;refine Za E_ok (Xj E_ok Zqq λf N c=>(Zf4 E_ok hF 800 f N c).1) ?_;rw[Zzo];unfold Zje Wf Vm U8 Zb8 Zb7 Vl We Zq Wd Vk Zes;have b9:=x.sz_eq;have b8:=Ex.szL_len x.l;obtain⟨⟨f1,f2,f3,f4,f5,f6,f7,f8,f9,b5⟩,b6,b0⟩:=(Zec x).1 hf
    simp only[Ye,Z5,Xz,X0,X1,beq_iff_eq,bne_iff_ne,beq_eq_false_iff_ne,bne_eq_false_iff_eq,decide_eq_true_eq,decide_eq_false_iff_not,be,bA,bh,bY,aq,cx,cm,bd,beq_self_eq_true,Yi,Yf,ne_eq,and_true,true_and,aO,aK,false_or,or_false,true_implies,imp_self,bL,not_true_eq_false,not_false_eq_true,bp,dk,dO,cp,forall_eq',forall_eq,eJ,fK,aB,bg,cQ,cR,tn0,tn1,tn2,tn3,bW,aw,gH,gJ,gT,fW,cn4,cn16,Ex.eta,dd,aW]
    rw[Z6k];refine aA (λh1=> ?_) (λh1=>aA (λh2=>⟨by omega,by omega,λy hy=> ?_⟩) (λh2=> ?_))
    ·rw[if_pos h1]
     simp only[cW,je,Ex.u,cQ,cR,and_self]
    ·rw[if_neg h1,if_pos h2]
     obtain⟨k,hk⟩:∃k:Nat,x.n=k:=⟨x.n.toNat,by omega⟩;rw[hk] at hy⊢;rw[bx,Yaz k (by omega)] at hy;cases hy;simp only[cW,je,and_self]
    ·rw[if_neg h1,if_neg h2]
     refine⟨λs y=>(s=ac↔0<y.k)/\y.k<=x.l.length/\y.D.length=y.k/\W7 x.l=(W7 (x.l.drop y.k)).bind (λR=>ae (y.D++R))/\(∀d∈y.D,Is4 d)/\y.r=x.l.length-y.k,.inr ⟨⟨0,x.l.length,[]⟩,⟨by simp,(by dsimp only;omega),rfl,by simp,by simp,rfl⟩,rfl⟩,?_,?_⟩
     ·rintro y ⟨hs,hk,hD,I,h4,hr⟩
      have a2:=hs.1 rfl;refine aA (λhq=>⟨by omega,by omega,λz J=> ?_⟩) (λhq=> ?_)
      ·have J:x.l[y.k]? =ae z:=J
       rw[Zqr J] at I;have b2:=Ex.sz_mem (aI J);have a1:=formL_iff.1 b0 z (aI J);refine⟨rfl,⟨by omega,a1⟩,λho=> ?_,λho=> ?_⟩
       ·have:W7 x.l=none:=by rw[I,im.1 ho|>iu.1];rfl
        rw[this];exact Ya0 rfl
       ·obtain⟨d,hd⟩:=iw.1 ho
        have a0:=Zqv z a1 hd;rw[hd] at I⊢;simp only[cW,Z5y a0];refine⟨⟨by omega,by omega⟩,.inl ⟨⟨y.k+1,x.l.length-(y.k+1),y.D++ [d]⟩,⟨by simp,(by dsimp only;omega),by simp[hD],?_,?_,rfl⟩,(by dsimp only;omega),⟨by simp,wr64 (by omega) (by omega)⟩,rfl⟩⟩
        ·rw[I]
         simp only[eQ];cases W7 (x.l.drop (y.k+1)) with
         |none=>rfl
         |some R=>simp
        ·intro e U
         rcases bT.1 U with U|U
         ·exact h4 e U
         ·rw[cd.1 U];exact a0
      ·rw[Uw (by omega)] at I
       have I:W7 x.l=ae y.D:=by rw[I,W7];simp
       rw[I,eQ];have hg:∀i,i<y.D.length->Is4 (y.D.getD i []):=λi hi=>by
         rw[bu,aj hi];exact h4 _ (fV hi)
       have b7:y.D.length=x.l.length:=by omega
       have eqB:V2 x.op y.D=(if y.D.getD 0 []=y.D.getD 1 [] then ae (y.D.getD 0 []) else ar)->2<=y.D.length->EqB (V2 x.op y.D) (eq4 (y.D.getD 0 []) (y.D.getD 1 [])) (y.D.getD 0 []):=by
         intro h1 h2;rw[h1,Zsv (hg 0 (by omega)) (hg 1 (by omega))];exact Yjz
       refine aA (λa=>⟨by omega,by omega,eqB ?_ (by omega)⟩) (λa3=>aA (λa=>⟨by omega,by omega,eqB ?_ (by omega)⟩) (λa4=>aA (λa=>⟨by omega,by omega,eqB ?_ (by omega)⟩) (λa6=>aA (λa=>⟨by omega,by omega,eqB ?_ (by omega)⟩) (λa7=>aA (λa=>⟨by omega,by omega,?_⟩) (λa5=>aA (λa=>⟨by omega,by omega,?_⟩) (λa8=>aA (λa=>⟨by omega,by omega,?_⟩) (λa9=>aA (λa=>⟨by omega,by omega,?_⟩) (λb3=>aA (λa=>⟨by omega,by omega,?_⟩) (λb4=> ?_)))))))))
       ·unfold V2;rw[if_neg (by omega),if_neg (by omega),if_neg (by omega)]
       ·unfold V2;rw[if_neg (by omega),if_neg (by omega),if_neg (by omega)]
       ·unfold V2;rw[if_neg (by omega),if_neg (by omega),if_neg (by omega)]
       ·unfold V2;rw[if_neg (by omega),if_neg (by omega),if_neg (by omega)]
       ·have:V2 x.op y.D=cmb 1 (y.D.getD 0 []) (y.D.getD 1 []):=by unfold V2;rw[if_pos a]
        rw[this];exact powB _
       ·have:V2 x.op y.D=cmb (-1) (y.D.getD 0 []) (y.D.getD 1 []):=by unfold V2;rw[if_neg (by omega),if_pos (by omega)]
        rw[this];exact powB _
       ·have:V2 x.op y.D=cmb (-1) (y.D.getD 0 []) (y.D.getD 1 []):=by unfold V2;rw[if_neg (by omega),if_pos (by omega)]
        rw[this];exact powB _
       ·have:V2 x.op y.D=cmb (-1) (y.D.getD 0 []) (y.D.getD 1 []):=by unfold V2;rw[if_neg (by omega),if_pos (by omega)]
        rw[this];exact powB _
       ·have:V2 x.op y.D=(if y.D.getD 0 []=y.D.getD 1 []/\y.D.getD 2 []=y.D.getD 3 [] then ae (y.D.getD 2 []) else ar):=by unfold V2;rw[if_neg (by omega),if_neg (by omega),if_pos a]
        rw[this];rw[Zsv (hg 0 (by omega)) (hg 1 (by omega)),Zsv (hg 2 (by omega)) (hg 3 (by omega))];refine aA (λh=> ?_) (λh=> ?_)
        ·rw[if_neg (by
           rintro⟨p,q⟩;rcases h with h|h
           ·exact of_decide_eq_false h p
           ·exact of_decide_eq_false h q)]
         exact Ya0 rfl
        ·rw[if_pos ⟨of_decide_eq_true h.1,of_decide_eq_true h.2⟩]
         exact⟨⟨rfl,rfl,rfl,rfl⟩,rfl⟩
       ·omega
     ·rintro y ⟨hs,hk,hD,I,h4,hr⟩
      have a2:y.k=0:=by
        rcases gY y.k with h|h
        ·exact h
        ·have:=hs.2 h;simp at this
      have b1:y.D= []:=List.eq_nil_of_length_eq_zero (by omega);refine aA (λhq=>⟨by omega,by omega,λz J=> ?_⟩) (λhq=> ?_)
      ·have J:x.l[y.k]? =ae z:=J
       rw[Zqr J] at I;have b2:=Ex.sz_mem (aI J);have a1:=formL_iff.1 b0 z (aI J);refine⟨rfl,⟨by omega,a1⟩,λho=> ?_,λho=> ?_⟩
       ·have:W7 x.l=none:=by rw[I,im.1 ho|>iu.1];rfl
        rw[this];exact Ya0 rfl
       ·obtain⟨d,hd⟩:=iw.1 ho
        have a0:=Zqv z a1 hd;rw[hd] at I⊢;simp only[cW,Z5y a0];rw[a2,b1] at I;refine .inl ⟨⟨1,x.l.length-1,[d]⟩,⟨by simp,(by dsimp only;omega),rfl,?_,?_,rfl⟩,(by dsimp only;omega),⟨rfl,by rw[a2];rfl⟩,rfl⟩
        ·rw[I]
         simp only[eQ];show((W7 (x.l.drop (0+1))).bind λR=>ae (d::R)).bind (λR=>ae ([]++R))=(W7 (x.l.drop 1)).bind λR=>ae ([d]++R);cases W7 (x.l.drop (0+1)) with
         |none=>rfl
         |some R=>rfl
        ·intro e U
         rw[cd.1 U];exact a0
      ·omega
end
section
open Go
theorem Z5p:SumOk E 58 (sumO Znk):=Zrq E_ok (Zc (f:=58) rfl) λargs v h=>by
 unfold Znk at h;split at h
 ·cases h;exact Zzs
 ·cases h
theorem Z5q:SumOk E 59 (Zqo 1000000000):=Zqp λx h=>Ya1 _ (aw _) x h
end
section
open Go
theorem q2{a b:Option (List Int)} {J I:Prop} (R:(a=ar\/b=ar)->J) (U:∀c d,a=ae c->b=ae d->I):∃Q:Bool->Prop,((a.isSome=ab->Q ac)/\(a.isSome=ac->Q (!b.isSome)))/\(Q ac->J)/\(Q ab->I):=by
 cases a with
 |none=>exact⟨λq=>q=ac,⟨λ_=>rfl,λh=>by simp at h⟩,λ_=>R (.inl rfl),λh=>(by cases h)⟩
 |some c=>
  cases b with
  |none=>exact⟨λq=>q=ac,⟨λh=>by simp at h,λ_=>rfl⟩,λ_=>R (.inr rfl),λh=>(by cases h)⟩
  |some d=>exact⟨λq=>q=ab,⟨λh=>by simp at h,λ_=>rfl⟩,λh=>(by cases h),λ_=>U c d rfl rfl⟩
end
section
open Go
def R3(d:List Int):Prop:=∃a b c e:Int,d= [a,b,c,e]/\(-3<=a/\a<=3)/\(-3<=b/\b<=3)/\(-3<=c/\c<=3)/\(-3<=e/\e<=3)
theorem Yje{s:Int} {a b d:List Int} (h:cmb s a b=ae d):R3 d:=by
 unfold cmb at h;split at h
 ·rename_i I
  cases h;simp only[aq] at I;exact⟨_,_,_,_,rfl,(Zir _).1 I.1.1.1,(Zir _).1 I.1.1.2,(Zir _).1 I.1.2,(Zir _).1 I.2⟩
 ·cases h
theorem Yfg(n:Int):R3 (Zqu n):=by
 unfold Zqu;split
 ·exact⟨_,_,_,_,rfl,by decide,by decide,by decide,by decide⟩
 split
 ·exact⟨_,_,_,_,rfl,by decide,by decide,by decide,by decide⟩
 split
 ·exact⟨_,_,_,_,rfl,by decide,by decide,by decide,by decide⟩
 split<;>exact⟨_,_,_,_,rfl,by decide,by decide,by decide,by decide⟩
theorem Yjf{a b c d:Int} (h:Zck [a,b,c,d]=ac):R3 [a,b,c,d]:=by
 rw[Zp5] at h;simp only[aq,List.all_cons,in1,decide_eq_true_eq] at h;exact⟨a,b,c,d,rfl,by omega,by omega,by omega,by omega⟩
theorem Yfh{op:Int} {J:List (List Int)} {d:List Int} (h:V2 op J=ae d) (R:∀i,i<(if op=11 then 4 else 2)->R3 (J.getD i [])):R3 d:=by
 unfold V2 at h;split at h
 ·exact Yje h
 ·split at h
  ·exact Yje h
  ·split at h
   ·rename_i I
    split at h
    ·cases h
     exact R 2 (by rw[if_pos I];omega)
    ·cases h
   ·rename_i I
    split at h
    ·cases h
     exact R 0 (by rw[if_neg I];omega)
    ·cases h
mutual
theorem Z4h:∀(x:Ex) {d:List Int},Zn x=ac->Zab x=ae d->R3 d
 | .mk op n d0 d1 d2 d3 l,d,I,h=>by
  have a0:=(Zec _).1 I
  rw[Zab] at h
  split at h
  ·cases h;exact Yjf a0.2.1
  ·split at h
   ·cases h;exact Yfg n
   ·rename_i h1 h2
    obtain⟨U,R,h⟩:=Option.bind_eq_some_iff.1 h
    refine Yfh h λi hi=> ?_
    simp only[Zn,aq] at I
    have hl:=Z4i l I.2 R
    have a1:=Zgt R
    have J:l.length=Zk8 op:=by
     have:=I.1
     simp only[Zdh,aq,decide_eq_true_eq] at this
     exact this.1.1.2
    unfold Zk8 at J
    rw[if_neg (by omega)] at J
    have:i<U.length:=by rw[a1,J];exact hi
    rw[bu,aj this]
    exact hl _ (fV this)
theorem Z4i:∀(l:List Ex) {I:List (List Int)},Uf l=ac->W7 l=ae I->∀d∈I,R3 d
 | [],I,_,h=>by simp only[W7] at h;cases h;simp
 |x::r,I,R,h=>by
  simp only[Uf,aq] at R
  obtain⟨d,a0,U,h2,rfl⟩:=unitL_cons.1 h
  intro e J
  rcases aM.1 J with rfl|J
  ·exact Z4h x R.1 U
  ·exact Z4i r R.2 h2 e J
end
end
section
open Go
end
section
open Go
end
section
open Go
end
section
open Go
end
end Go.Proofs.YtpmhbnameoklkaaGreatDoor
