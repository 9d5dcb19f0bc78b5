/- Merged texts: DvC, EngZV, DvD, DvE, DvTopM, TvP, TvQ, DvSt, DvF, DvG, DvH, DvQ0, DvQ, DvM, DvR, DvS, DvXp, TvBc, TvWa, TvWp. -/
import Derived.RangeFuncLeaves
import Derived.Test.YtahcfmdfjjjmjaaGreatDoorMe
open And renaming intro->aK
open BitVec renaming ofInt->bW
open Bool renaming and_eq_false_iff->aX,and_eq_true->az,and_true->bZ,false->ae,false_eq_true->bc,not_eq_false'->bJ,not_eq_true'->bh,or_eq_false_iff->bD,or_eq_true->bw,true->af,true_and->cm,true_eq_false->bu
open Decidable renaming not_not->bV
open Go.BinOp renaming xor->cW
open Go.DataW renaming trod->dA,trod_array->jO,trod_struct->fF
open Go.Fence renaming wide->cr
open Go.Fn renaming func->cg,yield->ec
open Go.IntKind renaming bits->ak,i64->ac,signed->fo,u32->au,u64->aA,u8->ax,wrap->eZ,wrap_u64->dj,wrap_u8->dQ
open Go.Proofs.YtahcfmdfjjjmjaaGreatDoor.DX renaming D->aC,H->aP,k->dx
open Go.Proofs.YtahcfmdfjjjmjaaGreatDoor.Env renaming has->bC,v0->bM,v1->bN,v10->bp,v11->bj,v12->bq,v13->bk,v14->br,v15->bm,v2->bO,v3->bP,v4->bQ,v5->bR,v6->bK,v7->bS,v8->bT,v9->bL
open Go.Proofs.YtahcfmdfjjjmjaaGreatDoor.Ins renaming mk->iw,op->bG
open Go.Proofs.YtahcfmdfjjjmjaaGreatDoor.LX renaming D->dG,k->fE,m->gX
open Go.Proofs.YtahcfmdfjjjmjaaGreatDoor.St renaming clause->aw,fuel->aQ,pc->be,pops->bA,stack->aF,start->eR,status->av,zero->eX
open Go.Proofs.YtahcfmdfjjjmjaaGreatDoor.Th renaming bys->cu,digs->dD,sts->la,w64->ld
open Go.Value renaming func->du,slice->bI
open Int renaming eq_ofNat_of_zero_le->de,fdiv->aB,fdiv_eq_ediv_of_nonneg->cR,ofNat_eq_natCast->bi,pow_nonneg->fD,pow_zero->kP,reducePow->kH,tdiv->eN,tmod->gK,tmod_eq_emod_of_nonneg->dU,toNat->ag,toNat_natCast->bB
open List renaming append->jz,append_assoc->db,drop->aV,drop_eq_getElem_cons->cA,drop_eq_nil_of_le->dK,drop_of_length_le->ja,flatten->eE,getD->aa,getD_eq_getElem?_getD->aI,getElem?_drop->cL,getElem?_eq_getElem->aq,getElem?_eq_none->eH,getElem?_eq_some_iff->ar,getElem?_map->cw,getElem?_range->fv,getElem?_take->bU,getElem_cons_succ->dN,getElem_cons_zero->dL,getElem_toArray->dY,length->ab,length_append->aO,length_cons->aT,length_nil->bF,length_pos_iff->fB,length_range->hC,length_set->kg,length_take->aW,map_congr_left->eS,map_cons->ei,map_map->hH,mem_range->dq,nil_append->eD,range->cy,range_succ_eq_map->fQ,replicate->aS,replicate_succ'->gq,set->eG,singleton_append->gg,take->aj,take_length->aM,take_of_length_le->aN
open Nat renaming beq->bf,div_lt_iff_lt_mul->ga,le_div_iff_mul_le->jA,le_of_ble_eq_true->gA,le_refl->aE,log2_lt->jE,lt_or_ge->dC,lt_succ_self->fx,min_eq_left->gu,mul_one->fP,mul_zero->kO,pow_add->kR,pow_pos->iP,pow_succ->jm,reduceMul->kG,sub_self->dS,two_pow_pos->iL,zero_add->bX,zero_le->bg
open Option renaming ne_none_iff_exists'->bt,none->aD,some->ah
open Option.some renaming inj->aU,injEq->cF
open Prod renaming fst->ay,snd->aJ
namespace Go.Proofs.YtahcfmdfjjjmjaaGreatDoor
set_option linter.unusedVariables false
set_option linter.unusedSimpArgs false
set_option linter.unnecessarySimpa false
set_option maxRecDepth 100000
section
open Go Go.RowKit
/-- a digest's bytes -/
noncomputable def lvL(c:List Ins) (v:Env) (k:Nat):List (List Int):=(cy k).map λj=>n32 (Uc c v (dsk c v j))
def A0R(c:List Ins) (v:Env):Ann thy:={X:=Unit,fr:=λ_=>(25,.fn (.func 42) [] [.ptr 4 0,.ptr 5 0])::frO,bl:=λ_=>blE c v,src:=λ_=> [],md:= [],ih:=6,M:=6,meas:=λ_=>0}
def AHR(c:List Ins) (v:Env) (b:Bool) (s:St) (a e:Int) (L:List (List Int)):Ann thy:={X:=Unit,fr:=λ_=>frO,bl:=λ_=>blH c v b s a e L,src:=λ_=>(match b with|true=> [(7,21008)]|false=> []),md:= [3,6],ih:=8,M:=60,meas:=λ_=>0}
def ren7:Nat->Option Nat:=λb=>match Nat.blt b 7 with|true=>ah b|false=>aD
--@condg pre | (c : List Ins) (v : Env) | vcs FD 400 6 46 [rn0, rn1, rn4, rn5] (nthD [.psl .ins c ae, envV v]) hp0 0 [] (λT h i ms => Vj i 6 (fits E2 (A0R c v) 6 T h ()))
theorem Z3z(c:List Ins) (v:Env):vcs FD 400 6 46 [rn0,rn1,rn4,rn5] (nthD [.psl .ins c ae,envV v]) hp0 0 [] (λT h i ms=>Vj i 6 (fits E2 (A0R c v) 6 T h ()))=(
  True/\∀(y:Int×Int),y=verF c->((aJ y !=0)=af->False)/\((aJ y !=0)=ae->((cg 42=cg
  (42:FuncId)/\True/\0=0/\0=0/\True)/\0=0/\0=0/\0=0/\
  0=0/\True)/\((c=c/\(ae=af->ae=af))/\True)/\(bC v=bC v/\bM v=bM v/\bN v=bN v/\bO v=bO v/\bP
  v=bP v/\bQ v=bQ v/\bR v=bR v/\bK v=bK v/\bS v=bS v/\bT v=bT v/\bL v=bL v/\bp v=bp v/\bj v
  =bj v/\bq v=bq v/\bk v=bk v/\br v=br v/\bm v=bm v/\True)/\(bI aD 0 0=bI aD (0:
  Nat) 0/\(0:Int)=0/\(0:Int)=0/\(0:Int)=0/\(0:Int)=0/\(0:Int)=0/\(0:Int)=0/\0=(0:
  Int)/\(0:Int)=0/\(0:Int)=0/\(0:Int)=0/\(0:Int)=0/\(0:Int)=0/\(0:Int)=0/\(0:Int)=0/\(0:
  Int)=0/\(0:Int)=0/\(0:Int)=0/\(0:Int)=0/\(0:Int)=0/\bI aD 0 0=bI aD 0
  0/\True)/\((c=c/\(ae=af->ae=af))/\bC v=bC v/\bM v=bM v/\bN v=bN v/\bO v=bO v/\bP v=bP v/\
  bQ v=bQ v/\bR v=bR v/\bK v=bK v/\bS v=bS v/\bT v=bT v/\bL v=bL v/\bp v=bp v/\bj v=bj v/\
  bq v=bq v/\bk v=bk v/\br v=br v/\bm v=bm v/\(0:Int)=0/\(0:Int)=0/\bI aD 0 0
  =bI aD 0 0/\True)/\((c=c/\(ae=af->ae=af))/\True)/\(bC v=bC v/\bM v=bM v/\bN v=bN v/\bO v=
  bO v/\bP v=bP v/\bQ v=bQ v/\bR v=bR v/\bK v=bK v/\bS v=bS v/\bT v=bT v/\bL v=bL v/\bp v=
  bp v/\bj v=bj v/\bq v=bq v/\bk v=bk v/\br v=br v/\bm v=bm v/\True)/\True)
  ):=by kernel_rfl
--@end
--@condg ent | (c : List Ins) (v : Env) (l : Nat) (s : St) | vcs FD 400 42 36 [it0, it1] (nthD [.val (.func (.yield l) #[] #[]), .ptr 4 0, .ptr 5 0]) (blOf (blE c v)) 6 [] (λT h i ms => i ≤ 60 ∧ fits E2 (AHR c v ae s 0 0 []) 7 (frOf frO) h () ∧ fitF ren7 T (frI l 0))
theorem Z30(c:List Ins) (v:Env) (l:Nat) (s:St):vcs FD 400 42 36 [it0,it1] (nthD [.val (.func (.yield l) #[] #[]),.ptr 4 0,.ptr 5 0]) (blOf (blE c v)) 6 [] (λT h i ms=>i<=60/\fits E2 (AHR c v ae s 0 0 []) 7 (frOf frO) h ()/\fitF ren7 T (frI l 0))=(
  True/\∀(y:St×Int),y=Zb8 (wr ac ((↑(ab c):Int)+1))->(7:Nat)<=60/\(((0:Nat)=0/\(0:Nat)=0/\(0:Nat)=
  (0:Nat)/\(0:Nat)=0/\True)/\((c=c/\(ae=af->ae=af))/\True)/\(bC v=bC v/\bM v=bM v/\bN v=bN v/\bO v=
  bO v/\bP v=bP v/\bQ v=bQ v/\bR v=bR v/\bK v=bK v/\bS v=bS v/\bT v=bT v/\bL v=bL v/\bp v=
  bp v/\bj v=bj v/\bq v=bq v/\bk v=bk v/\br v=br v/\bm v=bm v/\True)/\(bI aD (0:Nat) (0:Nat)=
  bI aD (0:Nat) (0:Nat)/\(0:Int)=0/\(0:Int)=0/\(0:Int)=0/\(0:Int)=0/\(0:Int)=0/\(0:Int)=0
  /\(0:Int)=0/\(0:Int)=0/\(0:Int)=0/\(0:Int)=0/\(0:Int)=0/\(0:Int)=0/\(0:Int)=0/\(0:Int)
  =(0:Int)/\(0:Int)=0/\(0:Int)=0/\(0:Int)=0/\(0:Int)=0/\(0:Int)=0/\bI aD (0:Nat) (0:Nat)=
  bI aD (0:Nat) (0:Nat)/\True)/\((c=c/\(ae=af->ae=af))/\bC v=bC v/\bM v=bM v/\bN v=bN v/\bO v=bO v/\
  bP v=bP v/\bQ v=bQ v/\bR v=bR v/\bK v=bK v/\bS v=bS v/\bT v=bT v/\bL v=bL v/\bp v=bp v/\
  bj v=bj v/\bq v=bq v/\bk v=bk v/\br v=br v/\bm v=bm v/\(0:Int)=0/\(0:Int)=0/\bI
  aD (0:Nat) (0:Nat)=bI aD (0:Nat) (0:Nat)/\True)/\((c=c/\(ae=af->ae=af))/\True)/\(bC v=bC v/\bM v=bM v/\bN v
  =bN v/\bO v=bO v/\bP v=bP v/\bQ v=bQ v/\bR v=bR v/\bK v=bK v/\bS v=bS v/\bT v=bT v/\bL v=
  bL v/\bp v=bp v/\bj v=bj v/\bq v=bq v/\bk v=bk v/\br v=br v/\bm v=bm v/\True)/\(be (ay
  y)=be s/\aQ (ay y)=aQ s/\av (ay y)=av s/\aw (ay y)=aw s/\(aF (ay y)=aF s/\(ae=af
  ->ae=af))/\True)/\True)/\du (ec l) #[] #[]=du (ec l) #[] #[]/\(0:Nat)=0/\(0:Nat)=0/\(0:Nat)=0/\
  aJ y=0/\(0:Int)=(↑(0:Nat):Int)/\True
  ):=by kernel_rfl
--@end
--@condg itf | (c : List Ins) (v : Env) (l k k' : Nat) (s s' : St) (a e : Int) (L : List (List Int)) (PN PE : Prop) (KR : Hp thy → Prop) | itC E2 cD itT o2p o2y o2s (frI l k) 46 (rfA rnF) (rfB rnF) [26, 27] frO [3, 6] l (blOf (blH c v ae s 0 0 [])) (λT h => PN ∧ fits E2 (AHR c v af s' a e L) 7 (frOf frO) h () ∧ fitF ren7 T (frI l k')) (λh => PE ∧ fits E2 (AHR c v af s a e L) 7 (frOf frO) h ()) KR
theorem Z31(c:List Ins) (v:Env) (l k U:Nat) (s t:St) (a e:Int) (L:List (List Int)) (R J:Prop) (KR:Hp thy->Prop):itC E2 cD itT o2p o2y o2s (frI l k) 46 (rfA rnF) (rfB rnF) [26,27] frO [3,6] l (blOf (blH c v ae s 0 0 [])) (λT h=>R/\fits E2 (AHR c v af t a e L) 7 (frOf frO) h ()/\fitF ren7 T (frI l U)) (λh=>J/\fits E2 (AHR c v af s a e L) 7 (frOf frO) h ()) KR=(
  du (ec l) #[] #[]=du (ec l) #[] #[]/\(ab c<=1000000/\ab (aF s)<=1000000)/\∀(y:List Int),y=Uc c
  v s->ab (aF s)<=1000000/\∀(I:Int×Int×Int),I=Zw s->((av s==0)=af->True/\∀(j:St×Int),j=Uq c v s->
  R/\(((0:Nat)=0/\(0:Nat)=0/\(0:Nat)=0/\(0:Nat)=0/\True)/\((c=c/\(ae=af->ae=af))/\True)/\(bC v=
  bC v/\bM v=bM v/\bN v=bN v/\bO v=bO v/\bP v=bP v/\bQ v=bQ v/\bR v=bR v/\bK v=bK v/\bS v=
  bS v/\bT v=bT v/\bL v=bL v/\bp v=bp v/\bj v=bj v/\bq v=bq v/\bk v=bk v/\br v=br v/\
  bm v=bm v/\True)/\(bI aD (0:Nat) (0:Nat)=bI aD (0:Nat) (0:Nat)/\(0:Int)=0/\(0:Int)=0/\(0:Int)=0
  /\(0:Int)=0/\(0:Int)=0/\(0:Int)=0/\(0:Int)=0/\(0:Int)=0/\(0:Int)=0/\(0:Int)=0/\(0:Int)
  =(0:Int)/\(0:Int)=0/\(0:Int)=0/\(0:Int)=0/\(0:Int)=0/\(0:Int)=0/\(0:Int)=0/\(0:Int)=0
  /\(0:Int)=0/\bI aD (0:Nat) (0:Nat)=bI aD (0:Nat) (0:Nat)/\True)/\((c=c/\(ae=af->ae=af))/\bC v=bC v/\
  bM v=bM v/\bN v=bN v/\bO v=bO v/\bP v=bP v/\bQ v=bQ v/\bR v=bR v/\bK v=bK v/\bS v=bS v/\
  bT v=bT v/\bL v=bL v/\bp v=bp v/\bj v=bj v/\bq v=bq v/\bk v=bk v/\br v=br v/\bm v=
  bm v/\ay I=a/\aJ (aJ I)=e/\((0:Nat)=0/\(1:Nat)=ab L/\True)/\True)/\((c=c/\(ae=af->ae=af))/\True)/\
  (bC v=bC v/\bM v=bM v/\bN v=bN v/\bO v=bO v/\bP v=bP v/\bQ v=bQ v/\bR v=bR v/\bK v=bK v/\
  bS v=bS v/\bT v=bT v/\bL v=bL v/\bp v=bp v/\bj v=bj v/\bq v=bq v/\bk v=bk v/\br v=
  br v/\bm v=bm v/\True)/\(be (ay j)=be t/\aQ (ay j)=aQ t/\av (ay j)=av t/\aw (ay
  j)=aw t/\(aF (ay j)=aF t/\(ae=af->ae=af))/\True)/\([[aa y (0:Nat) (0:Int),aa y (1:Nat) (0:Int),
  aa y (2:Nat) (0:Int),aa y (3:Nat) (0:Int),aa y (4:Nat) (0:Int),aa y (5:Nat) (0:Int),aa y (6:Nat) (0:Int),aa y (7
  :Nat) (0:Int),aa y (8:Nat) (0:Int),aa y (9:Nat) (0:Int),aa y (10:Nat) (0:Int),aa y (11:Nat) (0:Int),aa y (12:Nat) (0:
  Int),aa y (13:Nat) (0:Int),aa y (14:Nat) (0:Int),aa y (15:Nat) (0:Int),aa y (16:Nat) (0:Int),aa y (17:Nat) (0:Int),
  aa y (18:Nat) (0:Int),aa y (19:Nat) (0:Int),aa y (20:Nat) (0:Int),aa y (21:Nat) (0:Int),aa y (22:Nat) (0:Int),aa
  y (23:Nat) (0:Int),aa y (24:Nat) (0:Int),aa y (25:Nat) (0:Int),aa y (26:Nat) (0:Int),aa y (27:Nat) (0:Int),aa y (28:
  Nat) (0:Int),aa y (29:Nat) (0:Int),aa y (30:Nat) (0:Int),aa y (31:Nat) (0:Int)]]=L/\(0:Nat)=0)/\True)/\du (ec
  l) #[] #[]=du (ec l) #[] #[]/\(0:Nat)=0/\(0:Nat)=0/\(0:Nat)=0/\aJ j=0/\wr ac ((↑k:Int)+(1:
  Int))=(↑U:Int)/\True)/\((av s==0)=ae->J/\((0:Nat)=0/\(0:Nat)=0/\(0:Nat)=0/\(0:Nat)=0/\True)/\
  ((c=c/\(ae=af->ae=af))/\True)/\(bC v=bC v/\bM v=bM v/\bN v=bN v/\bO v=bO v/\bP v=bP v/\bQ v=
  bQ v/\bR v=bR v/\bK v=bK v/\bS v=bS v/\bT v=bT v/\bL v=bL v/\bp v=bp v/\bj v=bj v/\bq v=
  bq v/\bk v=bk v/\br v=br v/\bm v=bm v/\True)/\(bI aD (0:Nat) (0:Nat)=bI aD (0:Nat) (0:Nat)/\(0:Int)
  =(0:Int)/\(0:Int)=0/\(0:Int)=0/\(0:Int)=0/\(0:Int)=0/\(0:Int)=0/\(0:Int)=0/\(0:Int)=0
  /\(0:Int)=0/\(0:Int)=0/\(0:Int)=0/\(0:Int)=0/\(0:Int)=0/\(0:Int)=0/\(0:Int)=0/\(0:Int)
  =(0:Int)/\(0:Int)=0/\(0:Int)=0/\(0:Int)=0/\bI aD (0:Nat) (0:Nat)=bI aD (0:Nat) (0:Nat)/\True)/\((c=c
  /\(ae=af->ae=af))/\bC v=bC v/\bM v=bM v/\bN v=bN v/\bO v=bO v/\bP v=bP v/\bQ v=bQ v/\bR v=
  bR v/\bK v=bK v/\bS v=bS v/\bT v=bT v/\bL v=bL v/\bp v=bp v/\bj v=bj v/\bq v=bq v/\bk v
  =bk v/\br v=br v/\bm v=bm v/\ay I=a/\aJ (aJ I)=e/\((0:Nat)=0/\(1:Nat)=ab L/\True)/\True)/\
  ((c=c/\(ae=af->ae=af))/\True)/\(bC v=bC v/\bM v=bM v/\bN v=bN v/\bO v=bO v/\bP v=bP v/\bQ v=
  bQ v/\bR v=bR v/\bK v=bK v/\bS v=bS v/\bT v=bT v/\bL v=bL v/\bp v=bp v/\bj v=bj v/\bq v=
  bq v/\bk v=bk v/\br v=br v/\bm v=bm v/\True)/\(be s=be s/\aQ s=aQ s/\av s=av s/\aw s=
  aw s/\(aF s=aF s/\(ae=af->ae=af))/\True)/\([[aa y (0:Nat) (0:Int),aa y (1:Nat) (0:Int),aa y (2:Nat) (0:
  Int),aa y (3:Nat) (0:Int),aa y (4:Nat) (0:Int),aa y (5:Nat) (0:Int),aa y (6:Nat) (0:Int),aa y (7:Nat) (0:Int),aa
  y (8:Nat) (0:Int),aa y (9:Nat) (0:Int),aa y (10:Nat) (0:Int),aa y (11:Nat) (0:Int),aa y (12:Nat) (0:Int),aa y (13:Nat)
  (0:Int),aa y (14:Nat) (0:Int),aa y (15:Nat) (0:Int),aa y (16:Nat) (0:Int),aa y (17:Nat) (0:Int),aa y (18:Nat) (0:Int),
  aa y (19:Nat) (0:Int),aa y (20:Nat) (0:Int),aa y (21:Nat) (0:Int),aa y (22:Nat) (0:Int),aa y (23:Nat) (0:Int),aa
  y (24:Nat) (0:Int),aa y (25:Nat) (0:Int),aa y (26:Nat) (0:Int),aa y (27:Nat) (0:Int),aa y (28:Nat) (0:Int),aa y (29:
  Nat) (0:Int),aa y (30:Nat) (0:Int),aa y (31:Nat) (0:Int)]]=L/\(0:Nat)=0)/\True)
  ):=by kernel_rfl
--@end
--@condg itt | (c : List Ins) (v : Env) (l k k' : Nat) (s s' : St) (a e a' e' : Int) (L L' : List (List Int)) (PN PE : Prop) (KR : Hp thy → Prop) | itC E2 cD itT o2p o2y o2s (frI l k) 46 (rfA rnF) (rfB rnF) [26, 27] frO [3, 6] l (blOf (blH c v af s a e L)) (λT h => PN ∧ fits E2 (AHR c v af s' a' e' L') 7 (frOf frO) h () ∧ fitF ren7 T (frI l k')) (λh => PE ∧ fits E2 (AHR c v af s a' e' L') 7 (frOf frO) h ()) KR
theorem Z32(c:List Ins) (v:Env) (l k k':Nat) (s I:St) (a e R U:Int) (L t:List (List Int)) (PN PE:Prop) (KR:Hp thy->Prop):itC E2 cD itT o2p o2y o2s (frI l k) 46 (rfA rnF) (rfB rnF) [26,27] frO [3,6] l (blOf (blH c v af s a e L)) (λT h=>PN/\fits E2 (AHR c v af I R U t) 7 (frOf frO) h ()/\fitF ren7 T (frI l k')) (λh=>PE/\fits E2 (AHR c v af s R U t) 7 (frOf frO) h ()) KR=(
  du (ec l) #[] #[]=du (ec l) #[] #[]/\(ab c<=1000000/\ab (aF s)<=1000000)/\∀(y:List Int),y=Uc c
  v s->(ab L<=ab L/\(0:Nat)<=ab L/\(ab L+1)*32<=140737488355328)/\ab (aF s)<=1000000
  /\∀(J:Int×Int×Int),J=Zw s->((av s==0)=af->True/\∀(j:St×Int),j=Uq c v s->PN/\(((0:Nat)=0/\(0:Nat)=(0:
  Nat)/\(0:Nat)=0/\(0:Nat)=0/\True)/\((c=c/\(ae=af->ae=af))/\True)/\(bC v=bC v/\bM v=bM v/\bN v=bN v
  /\bO v=bO v/\bP v=bP v/\bQ v=bQ v/\bR v=bR v/\bK v=bK v/\bS v=bS v/\bT v=bT v/\bL v=bL v/\
  bp v=bp v/\bj v=bj v/\bq v=bq v/\bk v=bk v/\br v=br v/\bm v=bm v/\True)/\(bI aD (0:Nat)
  (0:Nat)=bI aD (0:Nat) (0:Nat)/\(0:Int)=0/\(0:Int)=0/\(0:Int)=0/\(0:Int)=0/\(0:Int)=0/\(0:Int)
  =(0:Int)/\(0:Int)=0/\(0:Int)=0/\(0:Int)=0/\(0:Int)=0/\(0:Int)=0/\(0:Int)=0/\(0:Int)=0
  /\(0:Int)=0/\(0:Int)=0/\(0:Int)=0/\(0:Int)=0/\(0:Int)=0/\(0:Int)=0/\bI aD (0:Nat) (0:
  Nat)=bI aD (0:Nat) (0:Nat)/\True)/\((c=c/\(ae=af->ae=af))/\bC v=bC v/\bM v=bM v/\bN v=bN v/\bO v=
  bO v/\bP v=bP v/\bQ v=bQ v/\bR v=bR v/\bK v=bK v/\bS v=bS v/\bT v=bT v/\bL v=bL v/\bp v=
  bp v/\bj v=bj v/\bq v=bq v/\bk v=bk v/\br v=br v/\bm v=bm v/\ay J=R/\aJ (aJ J)=U
  /\((0:Nat)=0/\ab L+1=ab t/\True)/\True)/\((c=c/\(ae=af->ae=af))/\True)/\(bC v=bC v/\bM v=
  bM v/\bN v=bN v/\bO v=bO v/\bP v=bP v/\bQ v=bQ v/\bR v=bR v/\bK v=bK v/\bS v=bS v/\bT v=
  bT v/\bL v=bL v/\bp v=bp v/\bj v=bj v/\bq v=bq v/\bk v=bk v/\br v=br v/\bm v=bm v/\
  True)/\(be (ay j)=be I/\aQ (ay j)=aQ I/\av (ay j)=av I/\aw (ay j)=aw I/\(aF
  (ay j)=aF I/\(ae=af->ae=af))/\True)/\(aj (ab L) L++ [[aa y (0:Nat) (0:Int),aa y (1:Nat) (0:Int),
  aa y (2:Nat) (0:Int),aa y (3:Nat) (0:Int),aa y (4:Nat) (0:Int),aa y (5:Nat) (0:Int),aa y (6:Nat) (0:Int),aa y (7
  :Nat) (0:Int),aa y (8:Nat) (0:Int),aa y (9:Nat) (0:Int),aa y (10:Nat) (0:Int),aa y (11:Nat) (0:Int),aa y (12:Nat) (0:
  Int),aa y (13:Nat) (0:Int),aa y (14:Nat) (0:Int),aa y (15:Nat) (0:Int),aa y (16:Nat) (0:Int),aa y (17:Nat) (0:Int),
  aa y (18:Nat) (0:Int),aa y (19:Nat) (0:Int),aa y (20:Nat) (0:Int),aa y (21:Nat) (0:Int),aa y (22:Nat) (0:Int),aa
  y (23:Nat) (0:Int),aa y (24:Nat) (0:Int),aa y (25:Nat) (0:Int),aa y (26:Nat) (0:Int),aa y (27:Nat) (0:Int),aa y (28:
  Nat) (0:Int),aa y (29:Nat) (0:Int),aa y (30:Nat) (0:Int),aa y (31:Nat) (0:Int)]]=t/\(0:Nat)=0)/\True)/\du (ec
  l) #[] #[]=du (ec l) #[] #[]/\(0:Nat)=0/\(0:Nat)=0/\(0:Nat)=0/\aJ j=0/\wr ac ((↑k:Int)+(1:
  Int))=(↑k':Int)/\True)/\((av s==0)=ae->PE/\((0:Nat)=0/\(0:Nat)=0/\(0:Nat)=0/\(0:Nat)=0/\True)/\
  ((c=c/\(ae=af->ae=af))/\True)/\(bC v=bC v/\bM v=bM v/\bN v=bN v/\bO v=bO v/\bP v=bP v/\bQ v=
  bQ v/\bR v=bR v/\bK v=bK v/\bS v=bS v/\bT v=bT v/\bL v=bL v/\bp v=bp v/\bj v=bj v/\bq v=
  bq v/\bk v=bk v/\br v=br v/\bm v=bm v/\True)/\(bI aD (0:Nat) (0:Nat)=bI aD (0:Nat) (0:Nat)/\(0:Int)
  =(0:Int)/\(0:Int)=0/\(0:Int)=0/\(0:Int)=0/\(0:Int)=0/\(0:Int)=0/\(0:Int)=0/\(0:Int)=0
  /\(0:Int)=0/\(0:Int)=0/\(0:Int)=0/\(0:Int)=0/\(0:Int)=0/\(0:Int)=0/\(0:Int)=0/\(0:Int)
  =(0:Int)/\(0:Int)=0/\(0:Int)=0/\(0:Int)=0/\bI aD (0:Nat) (0:Nat)=bI aD (0:Nat) (0:Nat)/\True)/\((c=c
  /\(ae=af->ae=af))/\bC v=bC v/\bM v=bM v/\bN v=bN v/\bO v=bO v/\bP v=bP v/\bQ v=bQ v/\bR v=
  bR v/\bK v=bK v/\bS v=bS v/\bT v=bT v/\bL v=bL v/\bp v=bp v/\bj v=bj v/\bq v=bq v/\bk v
  =bk v/\br v=br v/\bm v=bm v/\ay J=R/\aJ (aJ J)=U/\((0:Nat)=0/\ab L+1=ab t
  /\True)/\True)/\((c=c/\(ae=af->ae=af))/\True)/\(bC v=bC v/\bM v=bM v/\bN v=bN v/\bO v=bO v/\bP v=bP v
  /\bQ v=bQ v/\bR v=bR v/\bK v=bK v/\bS v=bS v/\bT v=bT v/\bL v=bL v/\bp v=bp v/\bj v=bj v
  /\bq v=bq v/\bk v=bk v/\br v=br v/\bm v=bm v/\True)/\(be s=be s/\aQ s=aQ s/\av s=av s/\
  aw s=aw s/\(aF s=aF s/\(ae=af->ae=af))/\True)/\(aj (ab L) L++ [[aa y (0:Nat) (0:Int),aa y (1:
  Nat) (0:Int),aa y (2:Nat) (0:Int),aa y (3:Nat) (0:Int),aa y (4:Nat) (0:Int),aa y (5:Nat) (0:Int),aa y (6:Nat) (0:Int),
  aa y (7:Nat) (0:Int),aa y (8:Nat) (0:Int),aa y (9:Nat) (0:Int),aa y (10:Nat) (0:Int),aa y (11:Nat) (0:Int),aa y
  (12:Nat) (0:Int),aa y (13:Nat) (0:Int),aa y (14:Nat) (0:Int),aa y (15:Nat) (0:Int),aa y (16:Nat) (0:Int),aa y (17:Nat)
  (0:Int),aa y (18:Nat) (0:Int),aa y (19:Nat) (0:Int),aa y (20:Nat) (0:Int),aa y (21:Nat) (0:Int),aa y (22:Nat) (0:Int),
  aa y (23:Nat) (0:Int),aa y (24:Nat) (0:Int),aa y (25:Nat) (0:Int),aa y (26:Nat) (0:Int),aa y (27:Nat) (0:Int),aa
  y (28:Nat) (0:Int),aa y (29:Nat) (0:Int),aa y (30:Nat) (0:Int),aa y (31:Nat) (0:Int)]]=t/\(0:Nat)=0)/\True)
  ):=by kernel_rfl
--@end
theorem n32x(y:List Int):n32 y= [aa y 0 0,aa y 1 0,aa y 2 0,aa y 3 0,aa y 4 0,aa y 5 0,aa y 6 0,aa y 7 0,aa y 8 0,aa y 9 0,aa y 10 0,aa y 11 0,aa y 12 0,aa y 13 0,aa y 14 0,aa y 15 0,aa y 16 0,aa y 17 0,aa y 18 0,aa y 19 0,aa y 20 0,aa y 21 0,aa y 22 0,aa y 23 0,aa y 24 0,aa y 25 0,aa y 26 0,aa y 27 0,aa y 28 0,aa y 29 0,aa y 30 0,aa y 31 0]:=rfl
theorem Zcr(c:List Ins) (v:Env) (k:Nat):lvL c v (k+1)=lvL c v k++ [n32 (Uc c v (dsk c v k))]:=by simp[lvL,List.range_succ]
theorem Zbp(c:List Ins) (v:Env) (k:Nat):(lvL c v k).length=k:=by simp[lvL]
def Ybp(c:List Ins) (v:Env):Nat->Hp thy->Prop
  |0,h=>h=blOf (blH c v ae (dsk c v 0) 0 0 [])
  |k+1,h=>h=blOf (blH c v af (dsk c v (k+1)) (Zw (dsk c v k)).1 (Zw (dsk c v k)).2.2 (lvL c v (k+1)))
noncomputable def KNr(c:List Ins) (v:Env) (l k:Nat) (T:Fr thy) (h:Hp thy):Prop:=k+1<=dM c v/\fits E2 (AHR c v af (dsk c v (k+1)) (Zw (dsk c v k)).1 (Zw (dsk c v k)).2.2 (lvL c v (k+1))) 7 (frOf frO) h ()/\fitF ren7 T (frI l (k+1))
noncomputable def KEr(c:List Ins) (v:Env) (k:Nat) (h:Hp thy):Prop:=k=dM c v/\fits E2 (AHR c v af (dsk c v k) (Zw (dsk c v k)).1 (Zw (dsk c v k)).2.2 (lvL c v (k+1))) 7 (frOf frO) h ()
theorem Zpb(c:List Ins) (v:Env) (b:Bool) (s:St) (a e:Int) (L:List (List Int)):DomLt (blOf (blH c v b s a e L)) 8:=by
  intro j t;obtain⟨x,I⟩:=bt.1 t;have:=Va I;cases b<;>simp[blH] at this<;>omega
theorem Z9c{c:List Ins} {v:Env} (hv:(verF c).2=0) (a2:c.length<=4096) (l k:Nat) (hk:k<=dM c v) (h:Hp thy) (j:Ybp c v k h):
    DomLt h 8/\itC E2 cD itT o2p o2y o2s (frI l k) 46 (rfA rnF) (rfB rnF) [26,27] frO [3,6] l h (KNr c v l k) (KEr c v k) (λ_=>False):=by
  obtain⟨d1,d2,d3,U⟩:=Zct (v:=v) hv
  have a3:=d3 k hk
  have hw:wr .i64 ((k:Int)+1)=((k+1:Nat):Int):=(wr64 (by omega) (by omega)).trans (by omega)
  have R:((dsk c v k).status==0)=af->k+1<=dM c v:=λq=>by
    rcases dC k (dM c v) with h|h
    ·exact h
    ·obtain rfl:k=dM c v:=by omega
     exact jv (by simpa using q) d2
  have a0:((dsk c v k).status==0)=ae->k=dM c v:=λq=>by
    rcases dC k (dM c v) with h|h
    ·rw[(U k h).1] at q;cases q
    ·omega
  cases k with
  |zero=>
    have j:h=_:=j
    subst j
    refine⟨Zpb _ _ _ _ _ _ _,(Z31 c v l 0 1 (dsk c v 0) (dsk c v 1) (Zw (dsk c v 0)).1 (Zw (dsk c v 0)).2.2 (lvL c v 1) (0+1<=dM c v) (0=dM c v) (λ_=>False)).mpr ⟨rfl,⟨by omega,by omega⟩,λy t=>⟨by omega,λy1 I=>⟨λq=>⟨js,λy2 J=>⟨R q,?_⟩⟩,λq=>⟨a0 q,?_⟩⟩⟩⟩⟩
    ·rw[(U 0 (R q)).2.1] at J
     subst t I J
     simp[Zcr,n32x,lvL]
     exact wr64 (by decide) (by decide)
    ·subst t I
     simp[Zcr,n32x,lvL]
  |succ k=>
    have j:h=_:=j
    subst j
    have hl:=Zbp c v (k+1)
    have a1:=Zbp c v (k+1+1)
    refine⟨Zpb _ _ _ _ _ _ _,(Z32 c v l (k+1) (k+1+1) (dsk c v (k+1)) (dsk c v (k+1+1)) (Zw (dsk c v k)).1 (Zw (dsk c v k)).2.2 (Zw (dsk c v (k+1))).1 (Zw (dsk c v (k+1))).2.2 (lvL c v (k+1)) (lvL c v (k+1+1)) (k+1+1<=dM c v) (k+1=dM c v) (λ_=>False)).mpr ⟨rfl,⟨by omega,by omega⟩,λy t=>⟨⟨aE _,bg _,by rw[hl];omega⟩,by omega,λy1 I=>⟨λq=>⟨js,λy2 J=>⟨R q,?_⟩⟩,λq=>⟨a0 q,?_⟩⟩⟩⟩⟩
    ·rw[(U (k+1) (R q)).2.1] at J
     subst t I J
     have e:lvL c v (k+1+1)=lvL c v (k+1)++ [n32 (Uc c v (dsk c v (k+1)))]:=Zcr c v (k+1)
     rw[aM,hl,a1,e,n32x]
     simp
     exact wr64 (by omega) (by omega)
    ·subst t I
     have e:lvL c v (k+1+1)=lvL c v (k+1)++ [n32 (Uc c v (dsk c v (k+1)))]:=Zcr c v (k+1)
     rw[aM,hl,a1,e,n32x]
     simp
end
section
open Go.RowKit
section
variable {Y:Thy} {E:Eng Y}
theorem Ztj{P:Program} {f:FuncId} {fn:Func} (t:P.funcs[f]? =ah fn) (I:(fn.name== "runtime.NumGoroutine")=ae) (j:fn.body.isNone=ae) (args:Array Value) (w:World):(callFunc f args).run P w= .ok (.enter f args) w:=by
 simp only[callFunc,program,Sem.run,Sem.run_bind,Sem.run_pure,Result.andThen_ok,t,I,j,bc,jQ]
def seqs:List Code->Code->Code
 | [],c=>c
 |x::xs,c=> .seq x (seqs xs c)
theorem Zch{n:Nat} {P:Program} {c:Code} {Q:Exit->Act->World->Prop}:∀(cs:List Code) {a:Act} {w:World},cs.foldr (λc k a w=>c.wp P (Exit.then k λ_ _ _=>False) a w) (λa w=>c.wpIn cr n P Q a w) a w->(seqs cs c).wpIn cr n P Q a w
 | [],a,w,h=>h
 |x::xs,a,w,h=>by
  refine wpIn_seq (wpIn_wide.2 (wp_mono h λe a w j=> ?_))
  cases e with
  |normal=>exact Zch xs j
  |_=>exact j.elim
def Z29(E:Eng Y) (N:Nat) (cs:List Code) (V:Zes Y):Prop:=∀(T:Fr Y) (h:Hp Y) (i:Nat) (ms:List Nat) (K:Fr Y->Hp Y->Nat->List Nat->Prop),DomLt h i->V T h i ms K->
 ∃J t j I,K J t j I/\i<=j/\Dom h i t j/\(∃m,I=m++ms/\Yr h i j m)/\
  ∀(B:Nat) (σ:Pl) (g:GH) (w:World) (a:Act) (Q:Act->World->Prop),Inv E B σ h g w->B<=w.heap.size->(∀b,i<=b->b<j->σ b=aD)->FrOk E σ g T a->a.tmps.size=N->
   (∀R U,Aft E B N i j I σ g w a.defers J t R U->Q R U)->cs.foldr (λc k a w=>c.wp E.P (Exit.then k λ_ _ _=>False) a w) Q a w
def finX(E:Eng Y) (rs:List ResultVar) (v:SV Y) (T:Fr Y) (h:Hp Y):Prop:=resN E T h rs (match W8 E T h rs with|some vs=>ret E h (Zaq vs) v|none=>False)
def EndR(E:Eng Y) (B:Nat) (v:SV Y) (I:GH) (J:World) (en:Ending) (t:World):Prop:=
 ∃u,en= .returned u/\∃σ g h j,Inv E B σ h g t/\Bel B I J g t/\Den E σ g j u/\ret E h j v
theorem EndR.pure(hE:EngOk E) {v:SV Y} {g:GH} {w:World} {en:Ending} {R:World} (h:EndR E w.heap.size v g w en R):∃u,en= .returned u/\∃J,Stp 0 0 [] σ0 g w σ0 J R/\Inv E w.heap.size σ0 hp0 J R/\Den E σ0 J v u:=by
 obtain⟨u,he,σ,J,h',v',U,I,hd,hr⟩:=h;have a0:=Zit (n:=w.heap.size) U;refine⟨u,he,allG J w.heap.size R,⟨.refl _,λb p h=> .inl h,I.gle.trans a0,λq o v j=> ?_,λq es j=> ?_,λq hq _=>I.heap q hq,I.size,I.os,I.tape,I.output,(λb q z t h2=>by cases h2)⟩,Zqu U,?_⟩
 ·have j:(if w.heap.size<=q then R.cell? ⟨q,o,aD⟩ else J.cell q o)=ah v:=j
  split at j
  ·exact .inr (.inl ‹_›)
  ·rcases I.gcnew q o v j with t|t
   ·exact .inl t
   ·exact .inr (.inl t)
 ·have j:(if w.heap.size<=q then(match R.heap[q]? with|some (.map es _)=>ah es|_=>aD) else J.obj q)=ah es:=j
  split at j
  ·exact .inr ‹_›
  ·rcases I.gmnew q es j with t|t
   ·exact .inl t
   ·exact .inr t
 ·exact Zyc hE U (aE _) hr hd
theorem Zq0(hE:EngOk E) {fn:Func} {n B D:Nat} {v:SV Y} {t:GH} {I:World} {σ:Pl} {g:GH} {h:Hp Y} {T:Fr Y} {a:Act} {W:World} (hI:Inv E B σ h g W) (hb:Bel B t I g W) (hF:FrOk E σ g T a) (j:finX E fn.results.toList v T h) (U:B<=D) (J:W.heap[D]? =ah (.deferred (ah []))) (hd:a.defers= [{target:= .collected D,args:= #[]}]):
 bodyPostM cr n E.P fn (EndR E B v t I) .ret a W:=by
 show LeavesInM cr n E.P fn a.tmps (EndR E B v t I) a.defers .returning W
 rw[hd]
 unfold finX at j
 obtain⟨a1,j⟩:=Zcz j
 split at j
 ·rename_i vs a2
  have R:Inv E B σ h g (W.putObj D (.deferred aD)):=Xz hI J rfl (λes c e=>by cases e) _
  obtain⟨u,hu,a0⟩:=Ze6 hE R hF a1 a2
  exact⟨(by intro e;cases e),.inl ⟨D,_,rfl,run_takeDeferred J,u,hu,u,rfl,σ,g,h,_,R,hb.trans (Bel.put g W U _),a0,j⟩⟩
 ·exact j.elim
theorem Zyn(hE:EngOk E) {fn:Func} {R:Code} {V9:Zes Y} (a5:Z29 E fn.ntmps [R] V9) {n B D:Nat} {v:SV Y} {U:GH} {w0:World} {σ:Pl} {g:GH} {h:Hp Y} {T:Fr Y} {a:Act} {W:World} (a7:DomLt h 60) (hc:V9 T h 60 [] λT h i ms=>finX E fn.results.toList v T h)
 (I:Inv E B σ h g W) (hb:Bel B U w0 g W) (a0:B<=W.heap.size) (hF:FrOk E σ g T a) (hz:a.tmps.size=fn.ntmps) (a1:∀b,60<=b->σ b=aD) (a2:B<=D) (j:W.heap[D]? =ah (.deferred (ah []))) (hd:a.defers= [{target:= .collected D,args:= #[]}]):
 (Code.seq R .ret).wpIn cr n E.P (bodyPostM cr n E.P fn (EndR E B v U w0)) a W:=by
 obtain⟨T',h',i',b0,hK,hi,a9,⟨m,rfl,hM⟩,t⟩:=a5 T h 60 [] _ a7 hc
 refine Zch [R] (t B σ g W a _ I a0 (λb q1 _=>a1 b q1) hF hz ?_)
 rintro a' w' ⟨d1,z1,b3,g1,hS,a4,a3⟩
 have a8:=Zjw I j rfl (λes c e=>by cases e)
 refine wpIn_ret (Zq0 hE a4 (hb.trans (Bel.stp hS I a0)) a3 hK a2 ?_ (d1.trans hd))
 refine(hS.heap D (Array.getElem?_eq_some_iff.1 j).1 λb a6 z J=> ?_).trans j
 rcases hM b (by simpa using a6) with q|q
 ·exact a8 (.inr (.inr ⟨b,z,q,J⟩))
 ·rw[a1 b q.1] at J;cases J
theorem Zyo{n:Nat} {P:Program} {x y z:Code} {Q:Exit->Act->World->Prop} (cs:List Code) {a:Act} {w:World} (h:(cs++ [x]).foldr (λc k a w=>c.wp P (Exit.then k λ_ _ _=>False) a w) (λa w=>y.wpIn cr n P (Exit.then (λa w=>z.wpIn cr n P Q a w) Q) a w) a w):(seqs cs (.seq (.seq x y) z)).wpIn cr n P Q a w:=by
 refine Zch cs ?_;rw[List.foldr_append] at h;have e:∀a w,List.foldr (λc k a w=>c.wp P (Exit.then k λ_ _ _=>False) a w) (λa w=>y.wpIn cr n P (Exit.then (λa w=>z.wpIn cr n P Q a w) Q) a w) [x] a w->(Code.seq (.seq x y) z).wpIn cr n P Q a w:=λa w h=>wpIn_seq (Zch [x] h)
 induction cs generalizing a w with
 |nil=>exact e a w h
 |cons c cs ih=>
  refine wp_mono h λe a w j=> ?_;cases e with
  |normal=>exact ih j
  |_=>exact j.elim
theorem Zi7(hE:EngOk E) {f:FuncId} {fn:Func} (hf:E.P.funcs[f]? =ah fn) {cs:List Code} {x y z:Code} (I:fn.body=ah (seqs cs (.seq (.seq x y) z))) {V:Zes Y} (hV:Z29 E fn.ntmps (cs++ [x]) V) {args:List (SV Y)} (a2:args.length<=fn.ntmps) {v:SV Y} {K:Fr Y->Hp Y->Nat->Prop}
 (hc:V (nthD args) hp0 0 [] λT h i ms=>K T h i)
 (a7:∀T h i,K T h i->∀(J:GH) (j:World) (σ:Pl) (g:GH) (W:World) (a:Act),Inv E j.heap.size σ h g W->Bel j.heap.size J j g W->j.heap.size<=W.heap.size->FrOk E σ g T a->a.tmps.size=fn.ntmps->a.defers= []->(∀b,i<=b->σ b=aD)->
  y.wpIn cr 1 E.P (Exit.then (λa w=>z.wpIn cr 1 E.P (bodyPostM cr 1 E.P fn (EndR E j.heap.size v J j)) a w) (bodyPostM cr 1 E.P fn (EndR E j.heap.size v J j))) a W):PureC E f args v:=by
 intro g w vals U a0
 obtain⟨T',h',i',a9,hK,hi,a8,⟨m,rfl,hM⟩,t⟩:=hV _ hp0 0 [] _ (λb I=>jv rfl I) hc
 have a6:CallsIn cr 1 E.P f vals w (EndR E w.heap.size v g w):=by
  refine callsIn_of_wp_marks hf I js (Zyo cs (t w.heap.size σ0 g w _ _ U (aE _) (λ_ _ _=>rfl) (Xu a0 a2) (Xv a0 a2) ?_))
  rintro a1 w1 ⟨d1,z1,a3,g1,R,a5,a4⟩
  refine a7 T' h' i' hK g w a3 g1 w1 a1 a5 (Bel.stp R U (aE _)) R.size a4 z1 d1 λb I=> ?_
  cases hq:a3 b with
  |none=>rfl
  |some p=>
   rcases R.snew b p hq with q|q
   ·cases q
   ·omega
 exact(callsIn_wide.1 a6).mono λen w' h=>h.pure hE
theorem Ya4{α:Type} {T:Nat->α} {d:Nat} {v:α}:upd T d v d=v:=by
 have j:bf d d=true:=Nat.beq_refl d;unfold upd;rw[j]
theorem Zyp{α:Type} {T:Nat->α} {d s:Nat} {v:α} (h:s≠d):upd T d v s=T s:=by
 have j:bf s d=false:=by
  cases q:bf s d with
  |false=>rfl
  |true=>exact jv (Nat.eq_of_beq_eq_true q) h
 unfold upd;rw[j]
theorem Zli{s:Nat}:∀{l:List (Nat×SV Y)},s∉l.map (·.1)->frOf l s= .unk
 | [],_=>rfl
 |(t,v)::r,h=>by
  have j:s≠t:=λe=>h (by simp[e])
  have I:s∉r.map (·.1):=λe=>h (by simp at e⊢;exact .inr e)
  show upd (frOf r) t v s=_
  rw[Zyp j,Zli I]
theorem Zhb(hE:EngOk E) {cD:Zve Y} (X8:∀(o:Oper) T h i k,DomLt h i->step E cD o.op T h i k->∃r,k r/\OpTri2 E o T h i r) {V0 VT:Zes Y} {it0 it1 it4 it3:Code} (b7:Zet E 36 it0 it1 V0) (b9:Zet E 36 it4 it3 VT) {o2p o2s:List Oper} {o2y:Oper} {ts:Array TypeId}
 (Za2:o2y.op= .call {callee:= .value (.tmp 17),args:= #[.tmp 18,.tmp 19],argTypes:=ts}) (Za3:o2y.guard=ah (2,af)) (Vl:o2y.dst=ah 20) (Zgj:((o2p++o2y::o2s).toArray[2]?).bind (·.dst)=ah 16)
 {J:FuncId} {fI:Func} (c5:E.P.funcs[J]? =ah fI) (c1:fI.body=ah (.seq it0 (.seq it1 (.block 0 (.loop (.seq (.seq (.region 2 (o2p++o2y::o2s).toArray ae) (.cond (.tmp 26) .skip (.exit 0))) (.seq it4 it3))))))) (d5:fI.ntmps=36) (d7:fI.results= #[]) (eg:∀args w,(callFunc J args).run E.P w= .ok (.enter J args) w)
 {fr:Nat->Nat->List (Nat×SV Y)} (c4:∀l k,frOf (fr l k) 6= .int ae .i64 (k:Int)) {assign body:Code} {p1 p2:Tmp} {A0:Ann Y} {x0:A0.X} (a0:A0.ih=6/\A0.M=6) {frOut:List (Nat×SV Y)} {md:List Nat} {m:Nat} {K0:Nat->Fr Y->Hp Y->Prop} {KN:Nat->Nat->Fr Y->Hp Y->Prop} {KE KR:Nat->Hp Y->Prop}
 {f:FuncId} {fn:Func} (hf:E.P.funcs[f]? =ah fn) {cs:List Code} {p5 p9:Code} {R b1 b2:Nat} (hb:fn.body=ah (seqs cs (.seq (.seq p5 (.block 0 (.rangeFunc (.tmp R) #[p1,p2] assign body))) (.seq p9 .ret)))) (hp1:p1<fn.ntmps) (d6:p2<fn.ntmps)
 {V V9:Zes Y} (hV:Z29 E fn.ntmps (cs++ [p5]) V) (b8:Z29 E fn.ntmps [p9] V9) {args:List (SV Y)} (d4:args.length<=fn.ntmps) {v:SV Y}
 (hc:V (nthD args) hp0 0 [] λT h i ms=>Vj i 6 (fits E A0 6 T h x0)) (c7:A0.fr x0=(R,.fn (.func J) [] [.ptr b1 0,.ptr b2 0])::frOut) (d0:R∉frOut.map (·.1))
 {headP:Nat->Hp Y->Prop} (d1:∀l k,k<=m->∀h,headP k h->DomLt h 8/\itC E cD VT o2p o2y o2s (fr l k) fn.ntmps assign body [p1,p2] frOut md l h (KN l k) (KE k) (KR k))
 (c2:DomLt (blOf (A0.bl x0)) 6) (c3:∀l,V0 (nthD [.val (.func (.yield l) #[] #[]),.ptr b1 0,.ptr b2 0]) (blOf (A0.bl x0)) 6 [] λT h i ms=>i<=60/\K0 l T h)
 (b5:∀a l T h,K0 l T h->∀(B:Nat) (σ:Pl) (g:GH) (W:World) (U:Act),Inv E B σ h g W->FrOk E σ g T U->FrOk E σ g (frOf frOut) a->∃σ' j,headP 0 j/\StpL 7 60 md σ g W σ' g W/\Inv E B σ' j g W/\FrOk E σ' g (frOf frOut) a/\FrOk E σ' g (frOf (fr l 0)) U/\∀b,8<=b->b<60->σ' b=aD)
 (a6:∀a l k T h,k<=m->KN l k T h->k+1<=m/\∀(B:Nat) (σ:Pl) (g:GH) (W:World) (U:Act),Inv E B σ h g W->FrOk E σ g T U->FrOk E σ g (frOf frOut) a->∃σ' j,headP (k+1) j/\StpL 7 60 md σ g W σ' g W/\Inv E B σ' j g W/\FrOk E σ' g (frOf frOut) a/\FrOk E σ' g (frOf (fr l (k+1))) U/\∀b,8<=b->b<60->σ' b=aD)
 (b3:∀k h,k<=m->KE k h->∀(B:Nat) (σ:Pl) (g:GH) (W:World) (a:Act),Inv E B σ h g W->FrOk E σ g (frOf frOut) a->(∀b,60<=b->σ b=aD)->∃σ' j,DomLt j 60/\V9 (frOf frOut) j 60 [] (λT h i ms=>finX E fn.results.toList v T h)/\Inv E B σ' j g W/\FrOk E σ' g (frOf frOut) a/\∀b,60<=b->σ' b=aD)
 (b6:∀k h,k<=m->KR k h->finX E fn.results.toList v (frOf frOut) h):PureC E f args v:=by
 refine Zi7 hE hf hb hV d4 hc ?_
 rintro T h i hs g0 w0 σ g W a hI c0 b0 hF hz hd c8
 obtain⟨rfl,c6⟩:=Xn hs
 obtain⟨a9,q2,q3,q4,q6⟩:=Ze8 hE (A:=A0) (x:=x0) (by rw[a0.1];exact aE 6) (by rw[a0.1,a0.2];exact aE 6) c6 hI hF
 rw[a0.2] at q2
 rw[c7] at q4
 have c9:∀b,6<=b->a9 b=none:=λb hb=>(q2.out b (.inr hb)).trans (c8 b hb)
 have b4:FrOk E a9 g (frOf frOut) a:=λt=>by
  by_cases c:t=R
  ·subst c
   have e:frOf frOut t= .unk:=Zli d0
   rw[e];exact .unk _
  ·have:=q4 t
   have e:frOf ((R,.fn (.func J) [] [.ptr b1 0,.ptr b2 0])::frOut) t=frOf frOut t:=by
    exact Zyp c
   rwa[e] at this
 have hT:frOf ((R,.fn (.func J) [] [.ptr b1 0,.ptr b2 0])::frOut) R= .fn (.func J) [] [.ptr b1 0,.ptr b2 0]:=Ya4
 refine wpIn_wide.2 (wpIn_wide.1 (wpIn_block (n:=1) (Z0o hE X8 b7 b9 Za2 Za3 Vl Zgj c5 c1 d5 d7 eg c4 hp1 d6 d1 c2 c3 hT q3 b0 c0 c9 q4 b4 hz (λl T h I=>b5 a l T h I _) (λl k T h I a8=>⟨(a6 a l k T h I a8).1,(a6 a l k T h I a8).2⟩) 1 _ ?_ ?_ ?_)))
 ·rintro⟨a,w,h⟩
  obtain⟨u,hu,_⟩:=h
  cases hu
 ·intro D W' k σ' g' j a1 I d2 a3 a4 a5 a2 a7 hD
  obtain⟨d8,h2,r1,r2,r3,r4,r5⟩:=b3 k j I d2 _ _ _ _ _ a3 a2 a7
  show(Code.seq p9 .ret).wpIn cr 1 E.P _ _ W'
  exact Zyn hE b8 r1 r2 r3 a4 a5 r4 hz r5 a1 hD (by rw[hd])
 ·intro D W' k σ' g' j a1 I d3 a3 a4 a5 a2 a7 hD
  show bodyPostM cr 1 E.P fn _ .ret _ W'
  exact Zq0 hE a3 a4 a2 (b6 k j I d3) a1 hD (by rw[hd])
end
end
section
open Go Go.RowKit
noncomputable def rsR:List ResultVar:=Tryz.f6.results.toList
def drV(c:List Ins) (v:Env) (a e:Int) (L:List (List Int)):SV thy:= .agg (.psl .ins c ae::Z44 v++ [.int ae .i64 a,.int ae .i64 e,.psl .digs L ae])
theorem Z2k(c:List Ins) (v:Env) (s:St) (a e:Int) (L:List (List Int)):vcs FD 400 6 46 [rn9] (frOf frO) (blOf (blH c v af s a e L)) 60 [] (λT h i ms=>finX E2 rsR (.tup [drV c v a e L,.int ae .i64 0]) T h)=(
((c=c/\(ae=af->ae=af))/\bC v=bC v/\bM v=bM v/\bN v=bN v/\bO v=bO v/\bP v=bP v/\bQ v=bQ v/\bR v=bR v/\bK v=bK v/\bS v=bS v/\bT v=bT v/\bL v=bL v/\bp v=bp v/\bj v=bj v/\bq v=bq v/\bk v=bk v/\br v=br v/\bm v=bm v/\a=a/\e=e/\(0+ab L<=ab L/\aj (ab L) L=L)/\True)/\(0:Int)=0/\True):=by kernel_rfl
theorem Yar(args:Array Value) (w:World):(callFunc (42:FuncId) args).run E2.P w= .ok (.enter (42:FuncId) args) w:=
 Ztj (fn:=Tryz.f42) rfl (by decide) rfl args w
noncomputable def runV(c:List Ins) (v:Env):SV thy:=drV c v (Zw (dsk c v (dM c v))).1 (Zw (dsk c v (dM c v))).2.2 (lvL c v (dM c v+1))
theorem Yas:E2.P.funcs[(6:FuncId)]? =ah Tryz.f6:=rfl
theorem Yat:E2.P.funcs[(42:FuncId)]? =ah Tryz.f42:=rfl
theorem Z2l:Tryz.f6.body=ah (seqs [rn0,rn1,rn4] (.seq (.seq rn5 (.block 0 (.rangeFunc (.tmp 25) #[26,27] (rfA rnF) (rfB rnF)))) (.seq rn9 .ret))):=jy ah Ycl
theorem Zxx:Tryz.f42.body=ah (.seq it0 (.seq it1 (.block 0 (.loop (.seq (.seq (.region 2 (o2p++o2y::o2s).toArray ae) (.cond (.tmp 26) .skip (.exit 0))) (.seq it4 it3)))))):=(jy ah Ycm).trans (by rw[Ybm])
theorem Znt{c:List Ins} {v:Env} {b:Bool} {s:St} {a e:Int} {L:List (List Int)} {h:Hp thy} (J:fits E2 (AHR c v b s a e L) 7 (frOf frO) h ()) {B:Nat} {σ:Pl} {g:GH} {W:World} {j:Act} (I:Inv E2 B σ h g W) (t:FrOk E2 σ g (frOf frO) j):
 ∃σ',StpL 7 60 [3,6] σ g W σ' g W/\Inv E2 B σ' (blOf (blH c v b s a e L)) g W/\FrOk E2 σ' g (frOf frO) j/\∀b,8<=b->b<60->σ' b=none:=
 Ze8 Zd (A:=AHR c v b s a e L) (x:=()) (by show 7<=8;omega) (by show 8<=60;omega) J I t
theorem Zxy{σ σ':Pl} {g:GH} {w:World} (h:StpL 7 60 [3,6] σ g w σ' g w):∀b c,ren7 b=ah c->σ' b=σ c:=λb c e=>by
 unfold ren7 at e;split at e
 ·rename_i q
  have:=gA q;cases e;exact h.out b (.inl (by omega))
 ·cases e
theorem Zxz{c:List Ins} {v:Env} (hv:(verF c).2=0) (a2:c.length<=4096):PureC E2 6 [.psl .ins c ae,envV v] (.tup [runV c v,.int ae .i64 0]):=by
 refine Zhb Zd (cD:=cD) X8 (V0:=λT h i ms K=>vcs FD 400 42 36 [it0,it1] T h i ms K) (VT:=itT) (λT h i ms K J t=>Zds [it0,it1] 42 36 T h i ms K J t) Z43 Za2 Za3 Vl Zgj Yat Zxx rfl rfl Yar (fr:=frI) (λ_ _=>rfl) (A0:=A0R c v) (x0:=()) ⟨rfl,rfl⟩ (frOut:=frO) (md:= [3,6]) (m:=dM c v)
  (K0:=λl T h=>fits E2 (AHR c v ae (dsk c v 0) 0 0 []) 7 (frOf frO) h ()/\fitF ren7 T (frI l 0)) (KN:=KNr c v) (KE:=KEr c v) (KR:=λ_ _=>False) Yas (b1:=4) (b2:=5) Z2l (by show 26<46;decide) (by show 27<46;decide)
  (V:=λT h i ms K=>vcs FD 400 6 46 [rn0,rn1,rn4,rn5] T h i ms K) (V9:=λT h i ms K=>vcs FD 400 6 46 [rn9] T h i ms K) (λT h i ms K J t=>Zds [rn0,rn1,rn4,rn5] 6 46 T h i ms K J t) (λT h i ms K J t=>Zds [rn9] 6 46 T h i ms K J t) (by show 2<=46;omega) ?_ rfl (by simp[frO]) (headP:=Ybp c v) (Z9c hv a2) ?_ ?_ ?_ ?_ ?_ (λ_ _ _ h=>h.elim)
 ·refine(Z3z c v).mpr ⟨js,λy hy=>⟨λq=> ?_,λq=> ?_⟩⟩
  ·subst hy
   exact jv hv (by simpa using q)
  ·simp
 ·intro j hj
  obtain⟨x,hx⟩:=bt.1 hj;have:=Va hx;simp[A0R,blE] at this;omega
 ·refineλl=>(Z30 c v l (dsk c v 0)).mpr ⟨js,λy hy=> ?_⟩
  have hw:wr .i64 ((c.length:Int)+1)=(c.length:Int)+1:=wr64 (by omega) (by omega);rw[hw] at hy;subst hy;have hs:Zb8 ((c.length:Int)+1)=(eR ((c.length:Int)+1),0):=jb (by omega);rw[hs];simp[dsk,itF]
 ·rintro a l T h ⟨a0,k2⟩ B σ g W ai U R a1
  obtain⟨σ',I,q2,q3,q4⟩:=Znt a0 U a1;exact⟨σ',_,rfl,I,q2,q3,Zad Zd (Zxy I) R k2,q4⟩
 ·rintro a l k T h t ⟨k0,a0,k2⟩
  refine⟨k0,λB σ g W ai U R a1=> ?_⟩;obtain⟨σ',I,q2,q3,q4⟩:=Znt a0 U a1;exact⟨σ',_,rfl,I,q2,q3,Zad Zd (Zxy I) R k2,q4⟩
 ·rintro k h t ⟨rfl,a0⟩ B σ g W a U R a3
  obtain⟨σ',I,q2,q3,q4⟩:=Znt a0 U R;refine⟨σ',_,λb hb=> ?_,(Z2k c v _ _ _ _).mpr ?_,q2,q3,λb hb=>(I.out b (.inr hb)).trans (a3 b hb)⟩
  ·have:=Zpb _ _ _ _ _ _ _ b hb
   omega
  ·simp
end
section
open Go Go.RowKit
/-- a derivation -/
structure Drv where
  code:List Ins
  env:Env
  amount:Int
  err:Int
  leaves:List (List Int)
def drvV(d:Drv):SV thy:=drV d.code d.env d.amount d.err d.leaves
noncomputable def sn0:Code:=sqA (U7 Tryz.f10)
noncomputable def sn1:Code:=sqA (sqB (U7 Tryz.f10))
noncomputable def sn4:Code:=sqA (sqA (sqB (sqB (U7 Tryz.f10))))
noncomputable def snF:Code:=bkA (sqB (sqA (sqB (sqB (U7 Tryz.f10)))))
noncomputable def sn9:Code:=sqA (sqB (sqB (sqB (U7 Tryz.f10))))
theorem Yb1:U7 Tryz.f10= .seq sn0 (.seq sn1 (.seq (.seq sn4 (.block 0 (.rangeFunc (.tmp 24) #[25,26] (rfA snF) (rfB snF)))) (.seq sn9 .ret))):=by kernel_rfl
noncomputable def rsS:List ResultVar:=Tryz.f10.results.toList
def d0B(d:Drv):Blk thy:= .raw (.psl .ins d.code ae:: .int ae .i64 d.env.has:: .int ae .i64 d.env.v0:: .int ae .i64 d.env.v1:: .int ae .i64 d.env.v2:: .int ae .i64 d.env.v3:: .int ae .i64 d.env.v4:: .int ae .i64 d.env.v5:: .int ae .i64 d.env.v6:: .int ae .i64 d.env.v7:: .int ae .i64 d.env.v8:: .int ae .i64 d.env.v9:: .int ae .i64 d.env.v10:: .int ae .i64 d.env.v11:: .int ae .i64 d.env.v12:: .int ae .i64 d.env.v13:: .int ae .i64 d.env.v14:: .int ae .i64 d.env.v15:: .int ae .i64 d.amount:: .int ae .i64 d.err:: [.psl .digs d.leaves ae]) 0 aD
def zsB:Blk thy:= .raw [zI,zI,zI,zI,.val (.slice aD 0 0)] 0 aD
def blS(d:Drv) (i:Int):List (Nat×Blk thy):= [(0,d0B d),(1,.raw [.int ae .i64 i] 0 aD),(2,zsB),(3,.raw [zI] 0 aD),(4,cB d.code),(5,envB d.env)]
def blSH(d:Drv) (i:Int) (s:St):List (Nat×Blk thy):= [(0,d0B d),(1,.raw [.int ae .i64 i] 0 aD),(2,zsB),(3,.raw [zI] 0 aD),(4,cB d.code),(5,envB d.env),(6,sB s)]
def frS:List (Nat×SV thy):= [(2,.ptr 0 0),(3,.ptr 1 0),(4,.ptr 2 0),(5,.ptr 3 0)]
def A0S(d:Drv) (i:Int):Ann thy:={X:=Unit,fr:=λ_=>(24,.fn (.func 42) [] [.ptr 4 0,.ptr 5 0])::frS,bl:=λ_=>blS d i,src:=λ_=> [],md:= [],ih:=6,M:=6,meas:=λ_=>0}
def AHS(d:Drv) (i:Int) (s:St):Ann thy:={X:=Unit,fr:=λ_=>frS,bl:=λ_=>blSH d i s,src:=λ_=> [],md:= [2,3,6],ih:=8,M:=60,meas:=λ_=>0}
--@condg spre | (d : Drv) (i : Int) | vcs FD 400 10 32 [sn0, sn1, sn4] (nthD [drvV d, .int ae .i64 i]) hp0 0 [] (λT h j ms => Vj j 6 (fits E2 (A0S d i) 6 T h ()))
theorem Zvy(d:Drv) (i:Int):vcs FD 400 10 32 [sn0,sn1,sn4] (nthD [drvV d,.int ae .i64 i]) hp0 0 [] (λT h j ms=>Vj j 6 (fits E2 (A0S d i) 6 T h ()))=(
  True/\∀(y:Int×Int),y=verF (Drv.code d)->((aJ y !=0)=af->False)/\((aJ y !=0)=ae->((cg 42
  =cg (42:FuncId)/\True/\0=0/\0=0/\True)/\0=0/\0=0/\0=(0
  :Nat)/\0=0/\True)/\((Drv.code d=Drv.code d/\(ae=af->ae=af))/\bC (Drv.env d)=bC (Drv.env d)/\bM (Drv.env d)=bM
  (Drv.env d)/\bN (Drv.env d)=bN (Drv.env d)/\bO (Drv.env d)=bO (Drv.env d)/\bP (Drv.env d)=bP (Drv.env d)/\bQ (Drv.env d)=bQ (Drv.env d)
  /\bR (Drv.env d)=bR (Drv.env d)/\bK (Drv.env d)=bK (Drv.env d)/\bS (Drv.env d)=bS (Drv.env d)/\bT (Drv.env d)=bT (Drv.env d)/\bL
  (Drv.env d)=bL (Drv.env d)/\bp (Drv.env d)=bp (Drv.env d)/\bj (Drv.env d)=bj (Drv.env d)/\bq (Drv.env d)=bq (Drv.env d)/\bk
  (Drv.env d)=bk (Drv.env d)/\br (Drv.env d)=br (Drv.env d)/\bm (Drv.env d)=bm (Drv.env d)/\Drv.amount d=Drv.amount d/\Drv.err d=Drv.err d/\
  (Drv.leaves d=Drv.leaves d/\(ae=af->ae=af))/\True)/\(i=i/\True)/\((0:Int)=0/\(0:Int)=0/\(0:Int)=0/\0=(0:
  Int)/\bI aD 0 0=bI aD 0 0/\True)/\((0:Int)=0/\True)/\((Drv.code d=Drv.code d/\(ae=af->ae=
  af))/\True)/\(bC (Drv.env d)=bC (Drv.env d)/\bM (Drv.env d)=bM (Drv.env d)/\bN (Drv.env d)=bN (Drv.env d)/\bO (Drv.env d)=bO
  (Drv.env d)/\bP (Drv.env d)=bP (Drv.env d)/\bQ (Drv.env d)=bQ (Drv.env d)/\bR (Drv.env d)=bR (Drv.env d)/\bK (Drv.env d)=bK (Drv.env d)
  /\bS (Drv.env d)=bS (Drv.env d)/\bT (Drv.env d)=bT (Drv.env d)/\bL (Drv.env d)=bL (Drv.env d)/\bp (Drv.env d)=bp (Drv.env d)/\bj
  (Drv.env d)=bj (Drv.env d)/\bq (Drv.env d)=bq (Drv.env d)/\bk (Drv.env d)=bk (Drv.env d)/\br (Drv.env d)=br (Drv.env d)/\bm
  (Drv.env d)=bm (Drv.env d)/\True)/\True)
  ):=by kernel_rfl
--@end
--@condg sent | (d : Drv) (i : Int) (l : Nat) (s : St) | vcs FD 400 42 36 [it0, it1] (nthD [.val (.func (.yield l) #[] #[]), .ptr 4 0, .ptr 5 0]) (blOf (blS d i)) 6 [] (λT h j ms => j ≤ 60 ∧ fits E2 (AHS d i s) 7 (frOf frS) h () ∧ fitF ren7 T (frI l 0))
theorem Zvz(d:Drv) (i:Int) (l:Nat) (s:St):vcs FD 400 42 36 [it0,it1] (nthD [.val (.func (.yield l) #[] #[]),.ptr 4 0,.ptr 5 0]) (blOf (blS d i)) 6 [] (λT h j ms=>j<=60/\fits E2 (AHS d i s) 7 (frOf frS) h ()/\fitF ren7 T (frI l 0))=(
  True/\∀(y:St×Int),y=Zb8 (wr ac ((↑(ab (Drv.code d)):Int)+1))->7<=60/\((0=0/\0=0/\
  0=0/\0=0/\True)/\((Drv.code d=Drv.code d/\(ae=af->ae=af))/\bC (Drv.env d)=bC (Drv.env d)/\bM (Drv.env d)
  =bM (Drv.env d)/\bN (Drv.env d)=bN (Drv.env d)/\bO (Drv.env d)=bO (Drv.env d)/\bP (Drv.env d)=bP (Drv.env d)/\bQ (Drv.env d)=bQ
  (Drv.env d)/\bR (Drv.env d)=bR (Drv.env d)/\bK (Drv.env d)=bK (Drv.env d)/\bS (Drv.env d)=bS (Drv.env d)/\bT (Drv.env d)=bT (Drv.env d)
  /\bL (Drv.env d)=bL (Drv.env d)/\bp (Drv.env d)=bp (Drv.env d)/\bj (Drv.env d)=bj (Drv.env d)/\bq (Drv.env d)=bq (Drv.env d)/\
  bk (Drv.env d)=bk (Drv.env d)/\br (Drv.env d)=br (Drv.env d)/\bm (Drv.env d)=bm (Drv.env d)/\Drv.amount d=Drv.amount d/\Drv.err d=
  Drv.err d/\(Drv.leaves d=Drv.leaves d/\(ae=af->ae=af))/\True)/\(i=i/\True)/\((0:Int)=0/\(0:Int)=0/\(0:Int)=0/\(0:
  Int)=0/\bI aD 0 0=bI aD 0 0/\True)/\((0:Int)=0/\True)/\((Drv.code d=Drv.code d/\(ae=af
  ->ae=af))/\True)/\(bC (Drv.env d)=bC (Drv.env d)/\bM (Drv.env d)=bM (Drv.env d)/\bN (Drv.env d)=bN (Drv.env d)/\bO (Drv.env d)=
  bO (Drv.env d)/\bP (Drv.env d)=bP (Drv.env d)/\bQ (Drv.env d)=bQ (Drv.env d)/\bR (Drv.env d)=bR (Drv.env d)/\bK (Drv.env d)=bK
  (Drv.env d)/\bS (Drv.env d)=bS (Drv.env d)/\bT (Drv.env d)=bT (Drv.env d)/\bL (Drv.env d)=bL (Drv.env d)/\bp (Drv.env d)=bp (Drv.env
  d)/\bj (Drv.env d)=bj (Drv.env d)/\bq (Drv.env d)=bq (Drv.env d)/\bk (Drv.env d)=bk (Drv.env d)/\br (Drv.env d)=br (Drv.env d)/\
  bm (Drv.env d)=bm (Drv.env d)/\True)/\(be (ay y)=be s/\aQ (ay y)=aQ s/\av (ay y)=av s/\aw (ay y)
  =aw s/\(aF (ay y)=aF s/\(ae=af->ae=af))/\True)/\True)/\du (ec l) #[] #[]=du (ec l) #[] #[]/\0
  =0/\0=0/\0=0/\aJ y=0/\0=(↑(0:Nat):Int)/\True
  ):=by kernel_rfl
--@end
--@condg sit | (d : Drv) (i : Int) (l k k' : Nat) (s s' : St) (PN PE PR : Prop) | itC E2 cD itT o2p o2y o2s (frI l k) 32 (rfA snF) (rfB snF) [25, 26] frS [2, 3, 6] l (blOf (blSH d i s)) (λT h => PN ∧ fits E2 (AHS d i s') 7 (frOf frS) h () ∧ fitF ren7 T (frI l k')) (λh => PE ∧ fits E2 (AHS d i s) 7 (frOf frS) h ()) (λh => PR ∧ finX E2 rsS (.tup [stV s, .int ae .i64 0]) (frOf frS) h)
theorem Z1l(d:Drv) (i:Int) (l k R:Nat) (s j:St) (I t J:Prop):itC E2 cD itT o2p o2y o2s (frI l k) 32 (rfA snF) (rfB snF) [25,26] frS [2,3,6] l (blOf (blSH d i s)) (λT h=>I/\fits E2 (AHS d i j) 7 (frOf frS) h ()/\fitF ren7 T (frI l R)) (λh=>t/\fits E2 (AHS d i s) 7 (frOf frS) h ()) (λh=>J/\finX E2 rsS (.tup [stV s,.int ae .i64 0]) (frOf frS) h)=(
  du (ec l) #[] #[]=du (ec l) #[] #[]/\(((↑k:Int)==i)=af->J/\(be s=be s/\aQ s=aQ s/\av s=av s/\
  aw s=aw s/\(aF s=aF s/\(ae=af->ae=af))/\True)/\(0:Int)=0/\True)/\(((↑k:Int)==i)=ae->((av s==(0:
  Int))=af->True/\∀(y:St×Int),y=Uq (Drv.code d) (Drv.env d) s->I/\((0=0/\0=0/\0=0/\0=0
  /\True)/\((Drv.code d=Drv.code d/\(ae=af->ae=af))/\bC (Drv.env d)=bC (Drv.env d)/\bM (Drv.env d)=bM (Drv.env d)/\bN (Drv.env d)=
  bN (Drv.env d)/\bO (Drv.env d)=bO (Drv.env d)/\bP (Drv.env d)=bP (Drv.env d)/\bQ (Drv.env d)=bQ (Drv.env d)/\bR (Drv.env d)=bR
  (Drv.env d)/\bK (Drv.env d)=bK (Drv.env d)/\bS (Drv.env d)=bS (Drv.env d)/\bT (Drv.env d)=bT (Drv.env d)/\bL (Drv.env d)=bL (Drv.env d)
  /\bp (Drv.env d)=bp (Drv.env d)/\bj (Drv.env d)=bj (Drv.env d)/\bq (Drv.env d)=bq (Drv.env d)/\bk (Drv.env d)=bk (Drv.env d)/\
  br (Drv.env d)=br (Drv.env d)/\bm (Drv.env d)=bm (Drv.env d)/\Drv.amount d=Drv.amount d/\Drv.err d=Drv.err d/\(Drv.leaves d=Drv.leaves d/\(ae
  =af->ae=af))/\True)/\(i=i/\True)/\((0:Int)=0/\(0:Int)=0/\(0:Int)=0/\(0:Int)=0/\bI aD 0 (0:
  Nat)=bI aD 0 0/\True)/\((0:Int)=0/\True)/\((Drv.code d=Drv.code d/\(ae=af->ae=af))/\True)/\(bC (Drv.env d)=
  bC (Drv.env d)/\bM (Drv.env d)=bM (Drv.env d)/\bN (Drv.env d)=bN (Drv.env d)/\bO (Drv.env d)=bO (Drv.env d)/\bP (Drv.env d)=bP
  (Drv.env d)/\bQ (Drv.env d)=bQ (Drv.env d)/\bR (Drv.env d)=bR (Drv.env d)/\bK (Drv.env d)=bK (Drv.env d)/\bS (Drv.env d)=bS (Drv.env d)
  /\bT (Drv.env d)=bT (Drv.env d)/\bL (Drv.env d)=bL (Drv.env d)/\bp (Drv.env d)=bp (Drv.env d)/\bj (Drv.env d)=bj (Drv.env d)/\
  bq (Drv.env d)=bq (Drv.env d)/\bk (Drv.env d)=bk (Drv.env d)/\br (Drv.env d)=br (Drv.env d)/\bm (Drv.env d)=bm (Drv.env d)/\
  True)/\(be (ay y)=be j/\aQ (ay y)=aQ j/\av (ay y)=av j/\aw (ay y)=aw j/\(aF (ay y)
  =aF j/\(ae=af->ae=af))/\True)/\True)/\du (ec l) #[] #[]=du (ec l) #[] #[]/\0=0/\0=0/\
  0=0/\aJ y=0/\wr ac ((↑k:Int)+1)=(↑R:Int)/\True)/\((av s==0)=ae->t/\(0=0/\
  0=0/\0=0/\0=0/\True)/\((Drv.code d=Drv.code d/\(ae=af->ae=af))/\bC (Drv.env d)=bC (Drv.env
  d)/\bM (Drv.env d)=bM (Drv.env d)/\bN (Drv.env d)=bN (Drv.env d)/\bO (Drv.env d)=bO (Drv.env d)/\bP (Drv.env d)=bP (Drv.env d)/\bQ
  (Drv.env d)=bQ (Drv.env d)/\bR (Drv.env d)=bR (Drv.env d)/\bK (Drv.env d)=bK (Drv.env d)/\bS (Drv.env d)=bS (Drv.env d)/\bT (Drv.env d)
  =bT (Drv.env d)/\bL (Drv.env d)=bL (Drv.env d)/\bp (Drv.env d)=bp (Drv.env d)/\bj (Drv.env d)=bj (Drv.env d)/\bq (Drv.env d)=
  bq (Drv.env d)/\bk (Drv.env d)=bk (Drv.env d)/\br (Drv.env d)=br (Drv.env d)/\bm (Drv.env d)=bm (Drv.env d)/\Drv.amount d=Drv.amount
  d/\Drv.err d=Drv.err d/\(Drv.leaves d=Drv.leaves d/\(ae=af->ae=af))/\True)/\(i=i/\True)/\((0:Int)=0/\(0:Int)=0/\0=(0
  :Int)/\(0:Int)=0/\bI aD 0 0=bI aD 0 0/\True)/\((0:Int)=0/\True)/\((Drv.code d=Drv.code d/\
  (ae=af->ae=af))/\True)/\(bC (Drv.env d)=bC (Drv.env d)/\bM (Drv.env d)=bM (Drv.env d)/\bN (Drv.env d)=bN (Drv.env d)/\bO
  (Drv.env d)=bO (Drv.env d)/\bP (Drv.env d)=bP (Drv.env d)/\bQ (Drv.env d)=bQ (Drv.env d)/\bR (Drv.env d)=bR (Drv.env d)/\bK (Drv.env d)
  =bK (Drv.env d)/\bS (Drv.env d)=bS (Drv.env d)/\bT (Drv.env d)=bT (Drv.env d)/\bL (Drv.env d)=bL (Drv.env d)/\bp (Drv.env d)=bp
  (Drv.env d)/\bj (Drv.env d)=bj (Drv.env d)/\bq (Drv.env d)=bq (Drv.env d)/\bk (Drv.env d)=bk (Drv.env d)/\br (Drv.env d)=br
  (Drv.env d)/\bm (Drv.env d)=bm (Drv.env d)/\True)/\(be s=be s/\aQ s=aQ s/\av s=av s/\aw s=aw s/\(aF s=
  aF s/\(ae=af->ae=af))/\True)/\True))
  ):=by kernel_rfl
--@end
--@condg sfin | (d : Drv) (i : Int) (s : St) | vcs FD 400 10 32 [sn9] (frOf frS) (blOf (blSH d i s)) 60 [] (λT h i ms => finX E2 rsS (.tup [stV .zero, .int ae .i64 1]) T h)
theorem Zv0(d:Drv) (i:Int) (s:St):vcs FD 400 10 32 [sn9] (frOf frS) (blOf (blSH d i s)) 60 [] (λT h i ms=>finX E2 rsS (.tup [stV .zero,.int ae .i64 1]) T h)=(
  (0=be eX/\0=aQ eX/\0=av eX/\0=aw eX/\aF eX= []/\True)/\(1:Int)=1/\
  True
  ):=by kernel_rfl
--@end
--@condg sno | (d : Drv) (i : Int) | Zk E2 FD (vc E2 FD 400) 10 [drvV d, .int ae .i64 i] hp0 0 (λr => ret E2 (patch hp0 0 r) r.v (.tup [stV .zero, .int ae .i64 (verF d.code).2]))
theorem Z1m(d:Drv) (i:Int):Zk E2 FD (vc E2 FD 400) 10 [drvV d,.int ae .i64 i] hp0 0 (λr=>ret E2 (patch hp0 0 r) r.v (.tup [stV .zero,.int ae .i64 (verF d.code).2]))=(
  True/\∀(y:Int×Int),y=verF (Drv.code d)->((aJ y !=0)=af->(0=be eX/\0=aQ eX/\0=av eX/\(0
  :Int)=aw eX/\aF eX= []/\True)/\aJ y=aJ (verF (Drv.code d))/\True)/\((aJ y !=0)=ae->False)
  ):=by kernel_rfl
--@end
/-- what State answers -/
noncomputable def Yz(d:Drv) (i:Int):St×Int:=if(verF d.code).2=0 then(if 0<=i/\i<=dM d.code d.env then(dsk d.code d.env i.toNat,0) else(.zero,1)) else(.zero,(verF d.code).2)
def Z94(d:Drv) (i:Int) (k:Nat) (h:Hp thy):Prop:=(∀j:Nat,j<k->(j:Int)≠i)/\h=blOf (blSH d i (dsk d.code d.env k))
noncomputable def KNs(d:Drv) (i:Int) (l k:Nat) (T:Fr thy) (h:Hp thy):Prop:=(k+1<=dM d.code d.env/\∀j:Nat,j<k+1->(j:Int)≠i)/\fits E2 (AHS d i (dsk d.code d.env (k+1))) 7 (frOf frS) h ()/\fitF ren7 T (frI l (k+1))
noncomputable def KEs(d:Drv) (i:Int) (k:Nat) (h:Hp thy):Prop:=(k=dM d.code d.env/\∀j:Nat,j<k+1->(j:Int)≠i)/\fits E2 (AHS d i (dsk d.code d.env k)) 7 (frOf frS) h ()
noncomputable def KRs(d:Drv) (i:Int) (k:Nat) (h:Hp thy):Prop:=(k:Int)=i/\finX E2 rsS (.tup [stV (dsk d.code d.env k),.int ae .i64 0]) (frOf frS) h
theorem Zpv(d:Drv) (i:Int) (s:St):DomLt (blOf (blSH d i s)) 8:=by
  intro j t;obtain⟨x,I⟩:=bt.1 t;have:=Va I;simp[blSH] at this;omega
theorem Zv1{d:Drv} (i:Int) (hv:(verF d.code).2=0) (a3:d.code.length<=4096) (l k:Nat) (hk:k<=dM d.code d.env) (h:Hp thy) (hh:Z94 d i k h):
    DomLt h 8/\itC E2 cD itT o2p o2y o2s (frI l k) 32 (rfA snF) (rfB snF) [25,26] frS [2,3,6] l h (KNs d i l k) (KEs d i k) (KRs d i k):=by
  obtain⟨d1,a0,d3,I⟩:=Zct (v:=d.env) hv
  have hw:wr .i64 ((k:Int)+1)=((k+1:Nat):Int):=(wr64 (by omega) (by omega)).trans (by omega)
  have R:((dsk d.code d.env k).status==0)=af->k+1<=dM d.code d.env:=λq=>by
    rcases dC k (dM d.code d.env) with h|h
    ·exact h
    ·obtain rfl:k=dM d.code d.env:=by omega
     exact jv (by simpa using q) a0
  have a1:((dsk d.code d.env k).status==0)=ae->k=dM d.code d.env:=λq=>by
    rcases dC k (dM d.code d.env) with h|h
    ·rw[(I k h).1] at q;cases q
    ·omega
  obtain⟨a2,rfl⟩:=hh
  have J:(((k:Int))==i)=ae->∀j:Nat,j<k+1->(j:Int)≠i:=λq j hj=>by
    rcases dC j k with h|h
    ·exact a2 j h
    ·obtain rfl:j=k:=by omega
     simpa using q
  refine⟨Zpv _ _ _,(Z1l d i l k (k+1) (dsk d.code d.env k) (dsk d.code d.env (k+1)) (k+1<=dM d.code d.env/\∀j:Nat,j<k+1->(j:Int)≠i) (k=dM d.code d.env/\∀j:Nat,j<k+1->(j:Int)≠i) ((k:Int)=i)).mpr ⟨rfl,λq=> ?_,λq=>⟨λt=>⟨js,λy U=>⟨⟨R t,J q⟩,?_⟩⟩,λt=>⟨⟨a1 t,J q⟩,?_⟩⟩⟩⟩
  ·refine⟨by simpa using q,?_⟩
   simp
  ·rw[(I k (R t)).2.1] at U
   subst U
   simp
   exact hw
  ·simp
theorem Zm4{d:Drv} {i:Int} {s:St} {h:Hp thy} (J:fits E2 (AHS d i s) 7 (frOf frS) h ()) {B:Nat} {σ:Pl} {g:GH} {W:World} {j:Act} (I:Inv E2 B σ h g W) (t:FrOk E2 σ g (frOf frS) j):
    ∃σ',StpL 7 60 [2,3,6] σ g W σ' g W/\Inv E2 B σ' (blOf (blSH d i s)) g W/\FrOk E2 σ' g (frOf frS) j/\∀b,8<=b->b<60->σ' b=none:=
  Ze8 Zd (A:=AHS d i s) (x:=()) (by show 7<=8;omega) (by show 8<=60;omega) J I t
theorem Zpw{σ σ':Pl} {g:GH} {w:World} (h:StpL 7 60 [2,3,6] σ g w σ' g w):∀b c,ren7 b=ah c->σ' b=σ c:=λb c e=>by
  unfold ren7 at e;split at e
  ·rename_i q
   have:=gA q;cases e;exact h.out b (.inl (by omega))
  ·cases e
theorem Z1n:E2.P.funcs[(10:FuncId)]? =ah Tryz.f10:=rfl
theorem Zsb:Tryz.f10.body=ah (seqs [sn0,sn1] (.seq (.seq sn4 (.block 0 (.rangeFunc (.tmp 24) #[25,26] (rfA snF) (rfB snF)))) (.seq sn9 .ret))):=jy ah Yb1
theorem Zm5{d:Drv} (i:Int) (hv:(verF d.code).2=0) (a2:d.code.length<=4096):PureC E2 10 [drvV d,.int ae .i64 i] (.tup [stV (Yz d i).1,.int ae .i64 (Yz d i).2]):=by
  refine Zhb Zd (cD:=cD) X8 (V0:=λT h i ms K=>vcs FD 400 42 36 [it0,it1] T h i ms K) (VT:=itT) (λT h i ms K R t=>Zds [it0,it1] 42 36 T h i ms K R t) Z43 Za2 Za3 Vl Zgj Yat Zxx rfl rfl Yar (fr:=frI) (λ_ _=>rfl) (A0:=A0S d i) (x0:=()) ⟨rfl,rfl⟩ (frOut:=frS) (md:= [2,3,6]) (m:=dM d.code d.env)
    (K0:=λl T h=>fits E2 (AHS d i (dsk d.code d.env 0)) 7 (frOf frS) h ()/\fitF ren7 T (frI l 0)) (KN:=KNs d i) (KE:=KEs d i) (KR:=KRs d i) Z1n (b1:=4) (b2:=5) Zsb (by show 25<32;decide) (by show 26<32;decide)
    (V:=λT h i ms K=>vcs FD 400 10 32 [sn0,sn1,sn4] T h i ms K) (V9:=λT h i ms K=>vcs FD 400 10 32 [sn9] T h i ms K) (λT h i ms K R t=>Zds [sn0,sn1,sn4] 10 32 T h i ms K R t) (λT h i ms K R t=>Zds [sn9] 10 32 T h i ms K R t) (by show 2<=32;omega) ?_ rfl (by simp[frS]) (headP:=Z94 d i) (Zv1 i hv a2) ?_ ?_ ?_ ?_ ?_ ?_
  ·refine(Zvy d i).mpr ⟨js,λy hy=>⟨λq=> ?_,λq=> ?_⟩⟩
   ·subst hy
    exact jv hv (by simpa using q)
   ·simp
  ·intro j hj
   obtain⟨x,hx⟩:=bt.1 hj;have:=Va hx;simp[A0S,blS] at this;omega
  ·refineλl=>(Zvz d i l (dsk d.code d.env 0)).mpr ⟨js,λy hy=> ?_⟩
   have hw:wr .i64 ((d.code.length:Int)+1)=(d.code.length:Int)+1:=wr64 (by omega) (by omega);rw[hw] at hy;subst hy;have hs:Zb8 ((d.code.length:Int)+1)=(eR ((d.code.length:Int)+1),0):=jb (by omega);rw[hs];simp[dsk,itF]
  ·rintro a l T h ⟨I,k2⟩ B σ g W ai a0 U a1
   obtain⟨σ',J,q2,q3,q4⟩:=Zm4 I a0 a1;exact⟨σ',_,⟨λj hj=>jv hj (Nat.not_lt_zero j),rfl⟩,J,q2,q3,Zad Zd (Zpw J) U k2,q4⟩
  ·rintro a l k T h t ⟨⟨k0,kn⟩,I,k2⟩
   refine⟨k0,λB σ g W ai a0 U a1=> ?_⟩;obtain⟨σ',J,q2,q3,q4⟩:=Zm4 I a0 a1;exact⟨σ',_,⟨kn,rfl⟩,J,q2,q3,Zad Zd (Zpw J) U k2,q4⟩
  ·rintro k h t ⟨⟨rfl,kn⟩,I⟩ B σ g W a a0 U a3
   obtain⟨σ',J,q2,q3,q4⟩:=Zm4 I a0 U;have e:Yz d i=(.zero,1):=by
     unfold Yz;rw[jh hv,jb];rintro⟨z1,z2⟩;exact kn i.toNat (by omega) (by omega)
   refine⟨σ',_,λb hb=> ?_,?_,q2,q3,λb hb=>(J.out b (.inr hb)).trans (a3 b hb)⟩
   ·have:=Zpv _ _ _ b hb
    omega
   ·rw[e]
    exact(Zv0 d i _).mpr (by simp[eX])
  ·rintro k h t ⟨rfl,I⟩
   have e:Yz d (k:Int)=(dsk d.code d.env k,0):=by
     unfold Yz;rw[jh hv,jh (by omega)];rfl
   rw[e];exact I
/-- derive.State -/
theorem Zsc(d:Drv) (i:Int):PureC E2 10 [drvV d,.int ae .i64 i] (.tup [stV (Yz d i).1,.int ae .i64 (Yz d i).2]):=by
  by_cases j:(verF d.code).2=0
  ·obtain⟨D,I⟩:=Wf j
   have J:=I.short;exact Zm5 i j (by omega)
  ·have e:Yz d i=(.zero,(verF d.code).2):=jb j
   rw[e]
   exact Za Zd Z9a ((Z1m d i).mpr ⟨js,λy t=>⟨λ_=>by subst t;simp[eX],λq=>by
     subst t
     exact j (by simpa using q)⟩⟩)
end
section
open Go.ChangeShapes Go.WideShapes Go.ChangeAt Go.RowKit
section
variable {H:Type} {enc:TypeId × Value->H} {w:World} {spare:Nat->Bool} {held:Bool}
theorem Z2w:Tryz.prog.cellsOf 30=21:=by kernel_rfl
theorem Z8b:Tryz.prog.cellsOf 23=1:=by kernel_rfl
theorem Z2x:Tryz.prog.cellsOf 27=1:=by kernel_rfl
theorem Z2y:Tryz.prog.cellsOf 28=1:=by kernel_rfl
theorem Zg8{cs:List Value} {i:Nat} {x:Value} (h:(cs.drop i).take 1= [x]):cs[i]? =ah x:=by
 have j:((cs.drop i).take 1)[0]? =ah x:=by rw[h];rfl
 rw[bU,jh (by decide),cL] at j
 simpa using j
theorem Yax(fuel:Nat) (cs:List Value) (x:DataW H×List MemPlace) (h:dA enc Tryz.prog w 0 spare held fuel 36 cs=ah x):∃f:Nat->Int,∀i,i<32->cs[i]? =ah (.int .u8 (f i)):=by
 obtain⟨ys,m,rfl,_,J,U,I⟩:=jO Tryz.underlying36 h;rw[Zph] at J;have t:∀i,i<32->∃n:Int,cs[i]? =ah (.int .u8 n):=by
  intro i hi;have j:=I i hi;rw[aq (by omega)] at j;simp only[dY,dL,dN,Z5l,fP] at j;obtain⟨n,R,_⟩:=Ve Tryz.underlying5 j;exact⟨n,Zg8 R⟩
 exact Go.Deep.choose_lt (α:=Int) t
theorem Zn2(fuel:Nat) (cs:List Value) (x:DataW H×List MemPlace) (h:dA enc Tryz.prog w 0 spare held fuel 36 cs=ah x):∃a:List Int,∀(j:Nat) sv,(E.enc dD a)[j]? =ah sv->∃v,cs[j]? =ah v/\Den E σ0 (gTop w) sv v:=by
 obtain⟨f,J⟩:=Yax fuel cs x h;refine⟨(cy 32).map f,λj sv t=> ?_⟩;have e:E.enc dD ((cy 32).map f)=(cy 32).map λi=> .int ae .u8 (((cy 32).map f).getD i 0):=rfl;rw[e] at t;have I:j<32:=by have:=(ar.1 t).1;simpa using this
 rw[cw,fv I] at t;cases t;refine⟨_,J j I,?_⟩;have e:((cy 32).map f).getD j 0=f j:=by
  rw[aI,cw,fv I];rfl
 dsimp only;rw[e];exact .int _ _ _
theorem Zn3(fuel:Nat) (cs:List Value) (x:DataW H×List MemPlace) (h:dA enc Tryz.prog w 0 spare held fuel 26 cs=ah x):∃(p:Int) (f:Nat->Int),cs[0]? =ah (.int .i64 p)/\∀i,i<16->cs[1+i]? =ah (.int .i64 (f i)):=by
 obtain⟨xs,n,rfl,_,hl,a1,R⟩:=fF Tryz.underlying26 h;rw[Zm2] at hl;have j:=R 0 _ rfl;have t:=R 1 _ rfl;have a2:xs.length=2:=by simpa using a1
 rw[aq (by omega)] at j t;simp only[dY,dL,dN,Zgx,Zvv] at j t;obtain⟨p,hp,ip⟩:=Ve Tryz.underlying3 j;obtain⟨ys,m,rfl,_,_,a3,hg⟩:=jO Tryz.underlying24 t;have U:∀i,i<16->∃n:Int,cs[1+i]? =ah (.int .i64 n):=by
  intro i hi;have I:=hg i hi;rw[aq (by omega)] at I;simp only[dY,dL,dN,Zgx,fP] at I;obtain⟨n,hn,_⟩:=Ve Tryz.underlying3 I;refine⟨n,?_⟩;have J:((((cs.drop 1).take 16).drop i).take 1)[0]? =ah (.int .i64 n):=by rw[hn];rfl
  rw[bU,jh (by decide),cL,bU,jh (by omega),cL] at J
  simpa using J
 obtain⟨f,a0⟩:=Go.Deep.choose_lt (α:=Int) U;exact⟨p,f,Zg8 hp,a0⟩
set_option maxHeartbeats 1000000 in
theorem Z2z{v:Value} {d:DataW H} {ps:List MemPlace} (h:DataW.Trod enc Tryz.prog w 0 spare held 30 v d ps):∃x:Drv,Den E σ0 (gTop w) (drvV x) v:=by
 obtain⟨fuel,h⟩:=h;obtain⟨xs,n,rfl,_,hl,a3,J⟩:=fF Tryz.underlying30 h;rw[Z2w] at hl;have hv:=Zdf hl (by decide);generalize v.cells.toList=cs at*;have U:=J 0 _ rfl;have a0:=J 1 _ rfl;have h2:=J 2 _ rfl;have h3:=J 3 _ rfl;have h4:=J 4 _ rfl;have a4:xs.length=5:=by simpa using a3
 rw[aq (by omega)] at U a0 h2 h3 h4;simp only[dY,dL,dN,Zgx,Z8b,Zm2,Z2x,Z2y] at U a0 h2 h3 h4;obtain⟨sc,lc,a1,dc⟩:=Za8 (E:=E) (th:=Th.ins) (λ_=>rfl) (by decide) Tryz.underlying23 Zm3 U (λn R y hy=>Zez n R y hy);obtain⟨p,f,e1,e2⟩:=Zn3 _ _ _ a0;obtain⟨a,ha,_⟩:=Ve Tryz.underlying3 h2;obtain⟨e,he,_⟩:=Ve Tryz.underlying27 h3;obtain⟨sl,ll,a2,dl⟩:=Za8 (E:=E) (th:=dD) (λ_=>rfl) (by decide) Tryz.underlying28 Zph h4 (λn R y hy=>Zn2 n R y hy);have g0:=Zg8 a1;have g1:cs[1]? =ah (.int .i64 p):=by
  rw[bU,jh (by decide),cL] at e1;exact e1
 have I:∀i,i<16->cs[2+i]? =ah (.int .i64 (f i)):=λi hi=>by
  have:=e2 i hi;rw[bU,jh (by omega),cL] at this;rw[<-this];congr 1;omega
 have g3:=Zg8 ha;have g4:=Zg8 he;have g5:=Zg8 a2;have get:∀{i:Nat} {x:Value},cs[i]? =ah x->cs.getD i undef=x:=λh=>by rw[aI,h];rfl
 rw[hv];refine⟨⟨lc,⟨p,f 0,f 1,f 2,f 3,f 4,f 5,f 6,f 7,f 8,f 9,f 10,f 11,f 12,f 13,f 14,f 15⟩,a,e,ll⟩,.agg (λj=>cs.getD j undef) (by show cs.toArray.size=21;simpa using hl) (λj t=> ?_) (λj sv t=> ?_)⟩
 ·have t:j<21:=t
  rw[List.getElem?_toArray,aI,aq (by omega)];rfl
 ·match j,t with
  |0,t=>cases t;rw[get g0];exact dc
  |1,t=>cases t;rw[get g1];exact .int _ _ _
  |2,t=>cases t;rw[get (I 0 (by decide))];exact .int _ _ _
  |3,t=>cases t;rw[get (I 1 (by decide))];exact .int _ _ _
  |4,t=>cases t;rw[get (I 2 (by decide))];exact .int _ _ _
  |5,t=>cases t;rw[get (I 3 (by decide))];exact .int _ _ _
  |6,t=>cases t;rw[get (I 4 (by decide))];exact .int _ _ _
  |7,t=>cases t;rw[get (I 5 (by decide))];exact .int _ _ _
  |8,t=>cases t;rw[get (I 6 (by decide))];exact .int _ _ _
  |9,t=>cases t;rw[get (I 7 (by decide))];exact .int _ _ _
  |10,t=>cases t;rw[get (I 8 (by decide))];exact .int _ _ _
  |11,t=>cases t;rw[get (I 9 (by decide))];exact .int _ _ _
  |12,t=>cases t;rw[get (I 10 (by decide))];exact .int _ _ _
  |13,t=>cases t;rw[get (I 11 (by decide))];exact .int _ _ _
  |14,t=>cases t;rw[get (I 12 (by decide))];exact .int _ _ _
  |15,t=>cases t;rw[get (I 13 (by decide))];exact .int _ _ _
  |16,t=>cases t;rw[get (I 14 (by decide))];exact .int _ _ _
  |17,t=>cases t;rw[get (I 15 (by decide))];exact .int _ _ _
  |18,t=>cases t;rw[get g3];exact .int _ _ _
  |19,t=>cases t;rw[get g4];exact .int _ _ _
  |20,t=>cases t;rw[get g5];exact dl
end
end
section
open Go
def A36a:Fr thy->Hp thy->Nat->Ann thy:=λT h i=>{X:=LX,fr:=λx=> [(0,T 0),(4,T 4),(5,.int ae .i64 x.k)],bl:=λx=> [(bOf (T 4),.rows .ints x.D 0)],src:=λ_=> [],md:= [bOf (T 4)],ih:=i,M:=i+30,meas:=λx=>x.r}
def A36b:Fr thy->Hp thy->Nat->Ann thy:=λT h i=>{X:=LX,fr:=λx=> [(0,T 0),(4,T 4),(6,.int ae .i64 x.m),(7,.int ae .i64 x.k)],bl:=λx=> [(bOf (T 4),.rows .ints x.D 0)],src:=λ_=> [],md:= [bOf (T 4)],ih:=i,M:=i+30,meas:=λx=>x.r}
def A36c:Fr thy->Hp thy->Nat->Ann thy:=λT h i=>{X:=LX,fr:=λx=> [(0,T 0),(4,T 4),(6,T 6),(7,T 7),(11,T 11),(12,T 12),(13,.int ae .i64 x.k)],bl:=λx=> [(bOf (T 4),.rows .ints x.D 0)],src:=λ_=> [],md:= [bOf (T 4)],ih:=i,M:=i+20,meas:=λx=>x.r}
noncomputable def F8:Fns thy:=addL (addL (addL F4 24 7 A36a E) 24 15 A36b E) 24 26 A36c E
theorem Ycn:FnsOk E F8:=Zn E_ok (Zn E_ok (Zn E_ok Z5m _ _ _) _ _ _) _ _ _
abbrev qCT7:=(0:Nat)
abbrev qCT4(j:List Ins):=(↑(ab j):Int)
abbrev qCT1(j:List Ins):=(qCT7=qCT7/\ag (qCT4 j)=ag (qCT4 j)/\ag (qCT4 j)=ag (qCT4 j))
abbrev qCT2(t:Int) (j:Ins):=(wr ac (t-ay (eff (bG j)))+aJ (eff (bG j)))
abbrev qCT3(j:LX):=(↑(fE j):Int)
abbrev qCT5:=(0:Int)
abbrev qCT6:=(ae=af->ae=af)
abbrev qCT8:=(1:Int)
abbrev qCT9(j:List Ins):=(↑(ag (qCT4 j)):Int)
abbrev qCTa(j:Int) (t:Ins):=(wr ac (qCT2 j t))
abbrev qCTb:=(1:Nat)
theorem Zmd(c:List Ins) (p q:Int):Zk E F8 (vc E F8 400) 24 [.psl .ins c ae] hp0 0 (λr=>ret E (patch hp0 0 r) r.v (.tup [.int ae .i64 p,.int ae .i64 q]))=(
 (decide ((qCT4 c)>4096)=af->qCT5=p/\2=q/\True)/\(decide ((qCT4 c)>4096)=ae->(((qCT4 c)==qCT5)=af->qCT5=p/\200=q/\True)/\(((qCT4 c)==qCT5)=ae->qCT5<=(qCT4 c)/\(qCT4 c)<=(qCT4 c)/\(↑(8:Nat):Int)*(qCT4 c)<=281474976710656/\∃(R:LX->Prop),(∃(x:LX),R x/\af=af/\((c=c/\qCT6)/\(qCT1 c)/\qCT5=(qCT3 x)/\True)/\(aS (ag (qCT4 c)) qCT5=dG x/\qCT7=qCT7)/\True)/\∀(x:LX),R x->(decide ((qCT3 x)<(qCT4 c))=af->qCT5<=(qCT3 x)/\(qCT3 x)+qCT8<=(qCT4 c)/\∀(a0:Ins),c[ag (qCT3 x)]? =ah a0->True/\((!formedF a0)=af->qCT5=p/\200=q/\True)/\((!formedF a0)=ae->(qCT5<=(qCT3 x)/\(qCT3 x)+qCT8<=(qCT9 c))/\qCT7<=qCT7+ag (qCT3 x)/\qCT7+ag (qCT3 x)+qCTb<=ab (dG x)/\∀(j:Int),(dG x)[qCT7+ag (qCT3 x)]? =ah j->∃(J:LX),R J/\J.2+qCTb<=x.2/\af=af/\((c=c/\qCT6)/\(qCT1 c)/\wr ac ((qCT3 x)+qCT8)=(qCT3 J)/\True)/\(eG (dG x) (qCT7+ag (qCT3 x)) (-1:Int)=dG J/\qCT7=qCT7)/\True))/\(decide ((qCT3 x)<(qCT4 c))=ae->(qCT5<=qCT5/\qCT5+qCT8<=(qCT9 c))/\qCT7<=qCT7+ag qCT5/\qCT7+ag qCT5+qCTb<=ab (dG x)/\∀(a0:Int),(dG x)[qCT7+ag qCT5]? =ah a0->∃(R:LX->Prop),(∃(j:LX),R j/\af=af/\((c=c/\qCT6)/\(qCT1 c)/\qCT5=gX j/\qCT5=(qCT3 j)/\True)/\(eG (dG x) (qCT7+ag qCT5) qCT5=dG j/\qCT7=qCT7)/\True)/\∀(x:LX),R x->(decide ((qCT3 x)<(qCT4 c))=af->(qCT5<=(qCT3 x)/\(qCT3 x)+qCT8<=(qCT9 c))/\qCT7+ag (qCT3 x)+qCTb<=ab (dG x)/\∀(j:Int),(dG x)[qCT7+ag (qCT3 x)]? =ah j->(decide (j<qCT5)=af->∃(J:LX),R J/\J.2+qCTb<=x.2/\af=af/\((c=c/\qCT6)/\(qCT1 c)/\gX x=gX J/\wr ac ((qCT3 x)+qCT8)=(qCT3 J)/\True)/\(dG x=dG J/\qCT7=qCT7)/\True)/\(decide (j<qCT5)=ae->qCT5<=(qCT3 x)/\(qCT3 x)+qCT8<=(qCT4 c)/\∀(U:Ins),c[ag (qCT3 x)]? =ah U->True/\∃(Q:Bool->Prop),((decide (j<ay (eff (bG U)))=af->Q af)/\(decide (j<ay (eff (bG U)))=ae->qCT5<=(qCT3 x)/\(qCT3 x)+qCT8<=(qCT4 c)/\∀(I:Ins),c[ag (qCT3 x)]? =ah I->((bG I==15)=af->((j !=qCT8)=af->Q af)/\((j !=qCT8)=ae->qCT5<=(qCT3 x)/\(qCT3 x)+qCT8<=(qCT4 c)/\∀(t:Ins),c[ag (qCT3 x)]? =ah t->((bG t==16)=af->((j !=qCT5)=af->Q af)/\((j !=qCT5)=ae->Q ae))/\((bG t==16)=ae->Q ae)))/\((bG I==15)=ae->qCT5<=(qCT3 x)/\(qCT3 x)+qCT8<=(qCT4 c)/\∀(t:Ins),c[ag (qCT3 x)]? =ah t->((bG t==16)=af->((j !=qCT5)=af->Q af)/\((j !=qCT5)=ae->Q ae))/\((bG t==16)=ae->Q ae))))/\(Q af->qCT5=p/\200=q/\True)/\(Q ae->(qCT5<=(qCT3 x)/\(qCT3 x)+qCT8<=(qCT4 c)/\ab c<=4096)/\∃(a1:LX->Prop),(∃(I:LX),a1 I/\af=af/\((c=c/\qCT6)/\(qCT1 c)/\mm2 af (mm2 af (gX x) j) (qCTa j U)=mm2 af (mm2 af (gX x) j) (qCTa j U)/\(qCT3 x)=(qCT3 x)/\wr ac (qCT2 j U)=wr ac (qCT2 j U)/\(Zd0 c (qCT3 x)=Zd0 c (qCT3 x)/\qCT6)/\qCT5=(qCT3 I)/\True)/\(dG x=dG I/\qCT7=qCT7)/\True)/\∀(I:LX),a1 I->(decide ((qCT3 I)<(↑(ab (Zd0 c (qCT3 x))):Int))=af->qCT5<=(qCT3 I)/\(qCT3 I)+qCT8<=(↑(ab (Zd0 c (qCT3 x))):Int)/\∀(t:Int),(Zd0 c (qCT3 x))[ag (qCT3 I)]? =ah t->∃(Q:Bool->Prop),((decide (t<=(qCT3 x))=af->Q af)/\(decide (t<=(qCT3 x))=ae->
(decide (t>=(qCT4 c))=af->Q af)/\(decide (t>=(qCT4 c))=ae->(qCT5<=t/\t+qCT8<=(qCT9 c))/\qCT7+ag t+qCTb<=ab (dG I)/\∀(x:Int),(dG I)[qCT7+ag t]? =ah x->(decide (x>=qCT5)=af->(qCT5<=t/\t+qCT8<=(qCT9 c))/\qCT7+ag t+qCTb<=ab (dG I)/\∀(x:Int),(dG I)[qCT7+ag t]? =ah x->((x !=wr ac (qCT2 j U))=af->Q af)/\((x !=wr ac (qCT2 j U))=ae->Q ae))/\(decide (x>=qCT5)=ae->Q ae))))/\(Q af->qCT5=p/\200=q/\True)/\(Q ae->(qCT5<=t/\t+qCT8<=(qCT9 c))/\qCT7<=qCT7+ag t/\qCT7+ag t+qCTb<=ab (dG I)/\∀(a2:Int),(dG I)[qCT7+ag t]? =ah a2->∃(J:LX),a1 J/\J.2+qCTb<=I.2/\af=af/\((c=c/\qCT6)/\(qCT1 c)/\mm2 af (mm2 af (gX x) j) (qCTa j U)=mm2 af (mm2 af (gX x) j) (qCTa j U)/\(qCT3 x)=(qCT3 x)/\wr ac (qCT2 j U)=wr ac (qCT2 j U)/\(Zd0 c (qCT3 x)=Zd0 c (qCT3 x)/\qCT6)/\wr ac ((qCT3 I)+qCT8)=(qCT3 J)/\True)/\(eG (dG I) (qCT7+ag t) (qCTa j U)=dG J/\qCT7=qCT7)/\True))/\(decide ((qCT3 I)<(↑(ab (Zd0 c (qCT3 x))):Int))=ae->∃(J:LX),R J/\J.2+qCTb<=x.2/\af=af/\((c=c/\qCT6)/\(qCT1 c)/\mm2 af (mm2 af (gX x) j) (qCTa j U)=gX J/\wr ac ((qCT3 x)+qCT8)=(qCT3 J)/\True)/\(dG I=dG J/\qCT7=qCT7)/\True))))/\(decide ((qCT3 x)<(qCT4 c))=ae->(decide (gX x>64)=af->qCT5=p/\2=q/\True)/\(decide (gX x>64)=ae->gX x=p/\qCT5=q/\True)))))):=by kernel_rfl
theorem Zz6{len i after:Int} {D:List Int} {x:Ins} (hi:0<=i) (t:0<=after) (j:(D.length:Int)=len):setF len i after (Zlh i x) D=setF len i after (nextF i x) D:=by
 unfold Zlh nextF;split
 ·rfl
 ·split
  ·rfl
  ·split
   ·exact Zwp t hi j
   ·rfl
theorem Z35{n k:Nat} (t:k<n):(aS k (-1:Int)++aS (n-k) 0).set k (-1)=aS (k+1) (-1)++aS (n-(k+1)) 0:=by
 obtain⟨m,j⟩:∃m,n-k=m+1:=⟨n-k-1,by omega⟩;rw[j,show n-(k+1)=m by omega,List.replicate_succ,List.set_append_right _ _ (by simp),List.length_replicate,dS,List.set_cons_zero,gq,db];rfl
theorem Zme(c:List Ins):PureC E 24 [.psl .ins c ae] (.tup [.int ae .i64 (verF c).1,.int ae .i64 (verF c).2]):=by
 refine Za E_ok (Zb E_ok Ycn 400) ?_;rw[Zmd];delta qCT7 qCT4 qCT1 qCT2 qCT3 qCT5 qCT6 qCT8 qCT9 qCTa qCTb;have s1:4096<c.length->verF c=(0,2):=λh=>by unfold verF;rw[jh h]
 have s2:c.length=0->verF c=(0,200):=λh=>by unfold verF;rw[jb (by omega),jh (.inl h)]
 have s3:c.length<=4096->c.all formedF=ae->verF c=(0,200):=λh h2=>by unfold verF;rw[jb (by omega),jh (.inr h2)]
 have s4:c.length<=4096->c.length≠0->c.all formedF=af->verF c=endF (fromF c.length c 0 (deps c) 0):=λh h2 h3=>by unfold verF;rw[jb (by omega),jb (by simp[h2,h3])]
 generalize verF c=V at*;simp only[Zz,Zs,Ys,Yt,Yu,gF,gM,fV,fX,fw,fk,bw,bD,bh,bJ,az,bZ,cm,aX,ib,Zx,Z4,ne_eq,and_true,true_and,bu,bc,false_or,or_false,jn,bi,il,iF,bV,jH,jI,bB,bX,Int.toNat_zero]
 refine⟨λh=> ?_,λh=>⟨λh2=> ?_,λh2=>⟨by omega,Int.le_refl _,by omega,?_⟩⟩⟩
 ·rw[s1 (by omega)];simp
 ·rw[s2 (by omega)];simp
 have hn:c.length<=4096:=by omega
 refine⟨λx=>x.k+x.r=c.length/\x.D=aS x.k (-1)++aS (c.length-x.k) 0/\(c.take x.k).all formedF=af,⟨⟨0,c.length,aS c.length 0,0⟩,by simp,by simp⟩,λx hx=> ?_⟩;obtain⟨a9,hD,a2⟩:=hx;have b6:x.D.length=c.length:=by rw[hD];simp;omega
 refine⟨λb0=>⟨by omega,by omega,λy I=>⟨λhf=> ?_,λhf=>⟨by omega,bg _,by omega,λz hz=> ?_⟩⟩⟩,λa3=> ?_⟩
 ·rw[s3 hn (Zfj I hf)];simp
 ·refine⟨⟨x.k+1,x.r-1,x.D.set x.k (-1),0⟩,⟨by show x.k+1+(x.r-1)=_;omega,?_,?_⟩,by show x.r-1+1<=x.r;omega,?_⟩
  ·show x.D.set x.k (-1)=_
   rw[hD];exact Z35 (by omega)
  ·show(c.take (x.k+1)).all formedF=af
   rw[Zce I,a2,hf];rfl
  ·rw[wr64 (by omega) (by omega)];simp
 have a4:x.k=c.length:=by omega
 rw[a4,aN (aE _)] at a2;have h3:c.all formedF=true:=a2;rw[s4 hn (by omega) h3];clear s1 s2 s3 s4 V h;have hD:x.D=aS c.length (-1):=by rw[hD,a4,dS];simp
 clear a9 a3;refine⟨by omega,bg _,by omega,λz hz=> ?_⟩;rw[hD] at b6⊢;clear hz hD a4;refine⟨RV c,⟨⟨0,c.length,deps c,0⟩,⟨by show 0+c.length=_;omega,by simp[deps],?_,by simp⟩,by simp[deps]⟩,λx R=> ?_⟩
 ·intro d hd
  rcases List.mem_or_eq_of_mem_set hd with h|h
  ·rw[List.mem_replicate] at h;show-1<=d/\d<=0;omega
  ·show-1<=d/\d<=0;omega
 have b9:=R.len;refine⟨λb0=>⟨by omega,by omega,λx3 b4=> ?_⟩,λa3=> ?_⟩
 ·have hb:=R.lo x3 (List.mem_of_getElem? b4)
  have a9:=R.kr;have a1:x.D.getD x.k 0=x3:=by simp[aI,b4]
  obtain⟨x2,a7⟩:∃x2,c[x.k]? =ah x2:=⟨c[x.k]'(by omega),by simp⟩;have he:=Z4h x2.op;have b8:c.drop x.k=x2::c.drop (x.k+1):=by
   obtain⟨h1,rfl⟩:=ar.1 a7;exact cA h1
  have t:=R.run;rw[b8] at t;simp only[fromF] at t;have eK:wr .i64 ((x.k:Int)+1)=x.k+1:=wr64 (by omega) (by omega);have eA:wr .i64 (wr .i64 (x3-(eff x2.op).1)+(eff x2.op).2)=x3-(eff x2.op).1+(eff x2.op).2:=by
   have e0:wr .i64 (x3-(eff x2.op).1)=x3-(eff x2.op).1:=wr64 (by omega) (by omega);rw[e0];exact wr64 (by omega) (by omega)
  have c0:Zd0 c x.k=Zlh x.k x2:=by unfold Zd0;rw[bB,a7]
  simp only[a7,cF,forall_eq',eK,eA,c0];refine⟨λa0=> ?_,λa0=>⟨by omega,by omega,?_⟩⟩
  ·have a6:rndF c.length x.k x2 x.D x.m=ah (x.D,x.m):=by unfold rndF;rw[a1,jh a0]
   rw[a6] at t;exact⟨⟨x.k+1,x.r-1,x.D,x.m⟩,⟨by show x.k+1+(x.r-1)=_;omega,b9,λd hd=>by have:=R.lo d hd;show-1<=d/\d<=((x.k+1:Nat):Int);omega,t⟩,by show x.r-1+1<=x.r;omega,by simp⟩
  refine⟨λb=>(b=af↔(x3<(eff x2.op).1\/(x2.op=15/\x3≠1)\/(x2.op=16/\x3≠0))),?_,λj=> ?_,λj=> ?_⟩
  ·repeat' (first|(refine aK ?_ ?_)|(intro h))
   all_goals try simp
   all_goals omega
  ·have j:=j.1 rfl
   have a5:rndF c.length x.k x2 x.D x.m=none:=by unfold rndF;rw[a1,jb a0,jh j]
   rw[a5] at t;rw[<-t];simp[endF]
  have a8:¬(x3<(eff x2.op).1\/(x2.op=15/\x3≠1)\/(x2.op=16/\x3≠0)):=λh=>jv (j.2 h) (by simp);have b3:=Zz6 (x:=x2) (D:=x.D) (len:=c.length) (i:=x.k) (after:=x3-(eff x2.op).1+(eff x2.op).2) (by omega) (by omega) (by omega);generalize b7:Zlh x.k x2=U at*;have c4:U.length<=2:=by
   rw[<-b7];unfold Zlh
   repeat' split
   all_goals simp
  refine⟨by omega,?_⟩;refine⟨RN c x (x3-(eff x2.op).1+(eff x2.op).2) U,⟨⟨0,U.length,x.D,0⟩,⟨by simp,R.len,λd hd=>⟨(R.lo d hd).1,by have:=(R.lo d hd).2;omega⟩,rfl⟩,by simp⟩,λy I=>⟨λb0=> ?_,λa3=> ?_⟩⟩
  ·refine⟨by omega,by omega,λn c2=> ?_⟩
   have c1:U.drop y.k=n::U.drop (y.k+1):=by
    obtain⟨h1,rfl⟩:=ar.1 c2;exact cA h1
   have J:=I.run;rw[c1] at J;generalize hS:setF c.length x.k (x3-(eff x2.op).1+(eff x2.op).2) U x.D=SF at J;simp only[setF] at J;refine⟨λb=>(b=af↔(n<=x.k\/(c.length:Int)<=n\/(0<=y.D.getD n.toNat 0/\y.D.getD n.toNat 0≠x3-(eff x2.op).1+(eff x2.op).2))),?_,λj=> ?_,λj=> ?_⟩
   ·refine⟨λh=>by simp[h],λh=>⟨λh'=>by simp[h'],λh'=>⟨by omega,by rw[I.len];omega,λz hz=> ?_⟩⟩⟩
    have hg:y.D.getD n.toNat 0=z:=by simp[aI,hz]
    rw[hg];refine⟨λh0=>⟨by omega,by rw[I.len];omega,λz2 b5=> ?_⟩,λh0=>by simp;omega⟩;rw[hz] at b5;cases b5;exact⟨λh1=>by simp;omega,λh1=>by simp;omega⟩
   ·have j:=j.1 rfl
    rw[jh j] at J;have a5:rndF c.length x.k x2 x.D x.m=none:=by
     unfold rndF;rw[a1,jb a0,jb a8,<-b3,hS,<-J]
    rw[a5] at t;rw[<-t];simp[endF]
   ·have j:¬(n<=x.k\/(c.length:Int)<=n\/(0<=y.D.getD n.toNat 0/\y.D.getD n.toNat 0≠x3-(eff x2.op).1+(eff x2.op).2)):=λh=>by simp at j;exact jv h (by simpa using j)
    rw[jb j] at J;refine⟨by omega,bg _,by rw[I.len];omega,λz hz=> ?_⟩;refine⟨⟨y.k+1,y.r-1,y.D.set n.toNat (x3-(eff x2.op).1+(eff x2.op).2),0⟩,⟨by have:=I.kr;show y.k+1+(y.r-1)=_;omega,by simp[I.len],Zab I.lo (by omega),J.trans hS.symm⟩,by have:=I.kr;show y.r-1+1<=y.r;omega,?_⟩;rw[wr64 (by omega) (by omega)];simp
  ·have c3:U.drop y.k= []:=dK (by omega)
   have J:=I.run;rw[c3] at J;generalize hS:setF c.length x.k (x3-(eff x2.op).1+(eff x2.op).2) U x.D=SF at J;simp only[setF] at J;have a6:rndF c.length x.k x2 x.D x.m=ah (y.D,max (max x.m x3) (x3-(eff x2.op).1+(eff x2.op).2)):=by
    unfold rndF;rw[a1,jb a0,jb a8,<-b3,hS,<-J]
   rw[a6] at t;refine⟨⟨x.k+1,x.r-1,y.D,_⟩,⟨by have:=R.kr;show x.k+1+(x.r-1)=_;omega,I.len,λd hd=>by have:=I.lo d hd;show-1<=d/\d<=((x.k+1:Nat):Int);omega,t⟩,by have:=R.kr;show x.r-1+1<=x.r;omega,?_⟩;simp
 ·have t:=R.run
  rw[dK (by omega)] at t;simp only[fromF] at t;rw[<-t];refine⟨λh=> ?_,λh=> ?_⟩
  ·simp[endF,h]
  ·simp[endF,h]
end
section
open Go
theorem Zkd{X:List Int} {w:Int} {U:List Int} {j t I J:Prop} (h1:j) (h2:t) (h3:I) (h4:J) (hl:X.length<=64) (hz:X++ [w]=U):
 (X= []->j/\t/\I/\J/\0+1<=([w]:List Int).length/\aj (0+1) [w]=U)/\
 (¬X= []->(0+1<=X.length/\X.length*8<=140737488355328)/\(X.length<=X.length/\0<=X.length/\(X.length+1)*8<=140737488355328)/\j/\t/\I/\J/\X.length+1<=(X++ [w]).length/\aj (X.length+1) (X++ [w])=U):=by
 refine⟨λR=> ?_,λR=> ?_⟩
 ·subst R
  exact⟨h1,h2,h3,h4,by simp,by rw[<-hz];rfl⟩
 ·have:0<X.length:=fB.2 R
  exact⟨⟨by omega,by omega⟩,⟨aE _,bg _,by omega⟩,h1,h2,h3,h4,by simp,by rw[aN (by simp)];exact hz⟩
theorem Zh6(c:List Ins) (v:Env) (s:St) (below:Int) (h:CanAdv c s below):PureC E 77 [.psl .ins c ae,envV v,stV s,.int ae .i64 below] (stV (advF c v s below)):=by
 obtain⟨hc,h0,h1,hf,f0,f1,b0,b1,hs⟩:=h;refine Za E_ok (Zb E_ok Z7j 400) ?_;rw[Zir]; delta Wp Zfi Ua Zcd Yd Z78 Z73 Zdz Wg Zs3 Zx6 Ziq Yv Zt Yq Z75 Z74 Zs5 Zs6 Zs7 Z77 Z76 Z2s Zny Znz Zj Zk6 Znx Z2t Zs4 Z7x Xk Xj Uv Uj Uk Xa Xb Xc Z7r Z7t Z7w Z7v Z7y Z71 Z72 Z7s Z7q Z7z Z7u Z70;obtain⟨x,hx⟩:∃x,c[s.pc.toNat]? =ah x:=⟨c[s.pc.toNat]'(by omega),by simp⟩;have a5:=hf x hx;have b8:=Zk7 a5;have ef:wr .i64 (s.fuel-1)=s.fuel-1:=wr64 (by omega) (by omega);have ep:wr .i64 (s.pc+1)=s.pc+1:=wr64 (by omega) (by omega)
 have eb:wr .i64 (below+(s.stack.length:Int))=below+s.stack.length:=wr64 (by omega) (by omega);have e1:wr .i64 ((s.stack.length:Int)-1)=s.stack.length-1:=wr64 (by omega) (by omega);have e2:wr .i64 ((s.stack.length:Int)-2)=s.stack.length-2:=wr64 (by omega) (by omega);have a6:∀a b,wr .i64 (10+(binF x.op a b).2)=10+(binF x.op a b).2:=λa b=>by
  have:=Zqc x.op a b;rw[wr64 (by omega) (by omega)]
 simp only[hx,cF,forall_eq',ef,ep,eb,e1,e2,a6,bB,aM,eD,bX,Zz,Zs,Ys,Yt,Yu,gF,gM,fV,fX,fw,fk,bw,bD,bh,bJ,az,bZ,cm,aX,ib,Zx,Z4,ne_eq,and_true,true_and,bu,bc,false_or,or_false,jn,bi,il,iF,bV,jI,jH]
 refine⟨λh=>by unfold advF;rw[jh h];simp,λh=>⟨by omega,by omega,λJ=> ?_,λJ=> ?_⟩⟩
 all_goals rw[Zx7 hx h]
 ·have I:Zi x v {s with fuel:=s.fuel-1} below=({s with fuel:=s.fuel-1},200):=by unfold Zi;rw[jh J]
  rw[I];simp[advR]
 clear hx hf ef ep eb e1 e2 a6;obtain⟨j,a1⟩:∃j:St,j={s with fuel:=s.fuel-1}:=⟨_,rfl⟩;have U:j.pc=s.pc:=by rw[a1]
 have q2:j.fuel=s.fuel-1:=by rw[a1]
 have q3:j.status=s.status:=by rw[a1]
 have q4:j.clause=s.clause:=by rw[a1]
 have t:j.stack=s.stack:=by rw[a1]
 rw[<-a1];have J:¬((j.stack.length:Int)<Xi x.op):=by rw[t];exact J
 clear a1;obtain⟨op,n,m⟩:=x;dsimp only at*;have a3:ag ((s.stack.length:Int)-1)=s.stack.length-1:=by omega
 have a7:ag ((s.stack.length:Int)-2)=s.stack.length-2:=by omega
 refine⟨λho=> ?_,λo1=>⟨λho=> ?_,λo2=>⟨λho=> ?_,λa9=>⟨λho=> ?_,λb3=>⟨λho=> ?_,λb4=>⟨λho=> ?_,λb5=>⟨λho=> ?_,λb6=> ?_⟩⟩⟩⟩⟩⟩⟩
 ·subst ho
  refine⟨λa0=> ?_,λa0=>⟨λh=>jv h (by omega),λ_=> ?_⟩⟩
  ·have I:Zi ⟨1,n,m⟩ v j below=(j,200):=by unfold Zi;rw[jb J];simp[t,a0]
   rw[I,Ym _ _ (by omega)];simp[U,q2,q3,q4,t]
  ·have I:Zi ⟨1,n,m⟩ v j below=(j.pops 0 [n],0):=by unfold Zi;rw[jb J];simp[t,a0]
   rw[I,Yj];exact Zkd (by simp[bA,U]) (by simp[bA,q2]) (by simp[bA,q3]) (by simp[bA,q4]) (by omega) (by simp[bA,t])
 ·subst ho
  refine⟨λa0=> ?_,λa0=>⟨λ_=> ?_,λh=>jv rfl h⟩⟩
  ·have I:Zi ⟨2,n,m⟩ v j below=(j,200):=by unfold Zi;rw[jb J];simp[t,a0]
   rw[I,Ym _ _ (by omega)];simp[U,q2,q3,q4,t]
  have b7:0<=n/\n<=15:=by simp[formedF] at a5;omega
  have a8:Zo BinOp.and ac (aB v.has (2^min n.toNat ac.bits)) 1=(v.has/2^n.toNat)%2:=by
   have e:min n.toNat ac.bits=n.toNat:=by show min n.toNat 64=_;omega
   rw[e,cR _ (Int.le_of_lt (Int.pow_pos (by omega)))];exact Z59 _
  rw[a8];refine⟨by omega,λhb=> ?_,λa4=>⟨by omega,by omega,?_⟩⟩
  ·have I:Zi ⟨2,n,m⟩ v j below=(j,181):=by unfold Zi;rw[jb J];simp[t,a0,hb]
   rw[I,Ym _ _ (by omega)];simp[U,q2,q3,q4,t]
  have key:∀w:Int,v.v.getD n.toNat 0=w->∃Q:Bool->Prop,((w< -9007199254740992->Q af)/\(¬w< -9007199254740992->(9007199254740992<w->Q af)/\(¬9007199254740992<w->Q ae)))/\
   (Q af->s.pc=(advR j (Zi ⟨2,n,m⟩ v j below)).pc/\s.fuel-1=(advR j (Zi ⟨2,n,m⟩ v j below)).fuel/\13=(advR j (Zi ⟨2,n,m⟩ v j below)).status/\s.clause=(advR j (Zi ⟨2,n,m⟩ v j below)).clause/\s.stack=(advR j (Zi ⟨2,n,m⟩ v j below)).stack/\(False->False))/\
   (Q ae->(s.stack= []->s.pc+1=(advR j (Zi ⟨2,n,m⟩ v j below)).pc/\s.fuel-1=(advR j (Zi ⟨2,n,m⟩ v j below)).fuel/\s.status=(advR j (Zi ⟨2,n,m⟩ v j below)).status/\s.clause=(advR j (Zi ⟨2,n,m⟩ v j below)).clause/\0+1<=([w]:List Int).length/\aj (0+1) [w]=(advR j (Zi ⟨2,n,m⟩ v j below)).stack)/\
    (¬s.stack= []->(0+1<=s.stack.length/\s.stack.length*8<=140737488355328)/\(s.stack.length<=s.stack.length/\0<=s.stack.length/\(s.stack.length+1)*8<=140737488355328)/\s.pc+1=(advR j (Zi ⟨2,n,m⟩ v j below)).pc/\s.fuel-1=(advR j (Zi ⟨2,n,m⟩ v j below)).fuel/\s.status=(advR j (Zi ⟨2,n,m⟩ v j below)).status/\s.clause=(advR j (Zi ⟨2,n,m⟩ v j below)).clause/\
     s.stack.length+1<=(s.stack++ [w]).length/\aj (s.stack.length+1) (s.stack++ [w])=(advR j (Zi ⟨2,n,m⟩ v j below)).stack)):=by
   intro w hw;refine⟨λb=>(b=af↔(w< -9007199254740992\/9007199254740992<w)),⟨λh=>by simp[h],λh=>⟨λh'=>by simp[h'],λh'=>by simp;omega⟩⟩,λhQ=> ?_,λhQ=> ?_⟩
   ·have hQ:=hQ.1 rfl
    have I:Zi ⟨2,n,m⟩ v j below=(j,3):=by unfold Zi;rw[jb J];dsimp only;rw[jb (by omega),jh rfl,jb (by rw[t];exact a0),jb a4,hw,jh hQ]
    rw[I,Ym _ _ (by omega)];simp[U,q2,q3,q4,t]
   ·have hQ:¬(w< -9007199254740992\/9007199254740992<w):=λh=>jv (hQ.2 h) (by simp)
    have I:Zi ⟨2,n,m⟩ v j below=(j.pops 0 [w],0):=by unfold Zi;rw[jb J];dsimp only;rw[jb (by omega),jh rfl,jb (by rw[t];exact a0),jb a4,hw,jb hQ]
    rw[I,Yj];exact Zkd (by simp[bA,U]) (by simp[bA,q2]) (by simp[bA,q3]) (by simp[bA,q4]) (by omega) (by simp[bA,t])
  exact⟨λR=>key _ (by rw[show n=0 by omega];rfl),λ_=>⟨λR=>key _ (by rw[show n=1 by omega];rfl),λ_=>⟨λR=>key _ (by rw[show n=2 by omega];rfl),λ_=>⟨λR=>key _ (by rw[show n=3 by omega];rfl),λ_=>⟨λR=>key _ (by rw[show n=4 by omega];rfl),λ_=>⟨λR=>key _ (by rw[show n=5 by omega];rfl),λ_=>⟨λR=>key _ (by rw[show n=6 by omega];rfl),λ_=>⟨λR=>key _ (by rw[show n=7 by omega];rfl),λ_=>⟨λR=>key _ (by rw[show n=8 by omega];rfl),λ_=>⟨λR=>key _ (by rw[show n=9 by omega];rfl),λ_=>⟨λR=>key _ (by rw[show n=10 by omega];rfl),λ_=>⟨λR=>key _ (by rw[show n=11 by omega];rfl),λ_=>⟨λR=>key _ (by rw[show n=12 by omega];rfl),λ_=>⟨λR=>key _ (by rw[show n=13 by omega];rfl),λ_=>⟨λR=>key _ (by rw[show n=14 by omega];rfl),λ_=>⟨λR=>key _ (by rw[show n=15 by omega];rfl),λ_=>js⟩⟩⟩⟩⟩⟩⟩⟩⟩⟩⟩⟩⟩⟩⟩⟩
 ·subst ho
  have hl:1<=(s.stack.length:Int):=by rw[t] at J;simp[Xi] at J;omega
  refine⟨by omega,by omega,λa ha=> ?_⟩;have t0:topF j.stack 0=a:=Yg (by rw[t];exact ha) (by rw[t];omega);have I:Zi ⟨12,n,m⟩ v j below=(j.pops 1 [if n<=a/\a<=m then 1 else 0],0):=by unfold Zi;rw[jb J];simp[t0]
  rw[I,Yj,a3] at*;refine⟨λa2=>⟨by omega,by omega,λb hb=> ?_⟩,λa2=> ?_⟩
  ·rw[ha] at hb;cases hb
   refine⟨λhm=> ?_,λhm=> ?_⟩
   all_goals
    refine⟨⟨by omega,by omega⟩,Zkd (by simp[bA,U]) (by simp[bA,q2]) (by simp[bA,q3]) (by simp[bA,q4]) (by rw[aW];omega) (by simp[bA,t,a2,hm])⟩
  ·refine⟨⟨by omega,by omega⟩,Zkd (by simp[bA,U]) (by simp[bA,q2]) (by simp[bA,q3]) (by simp[bA,q4]) (by rw[aW];omega) (by simp[bA,t,a2])⟩
 ·subst ho
  have hl:1<=(s.stack.length:Int):=by rw[t] at J;simp[Xi] at J;omega
  refine⟨by omega,by omega,λa ha=>⟨⟨by omega,by omega⟩,?_⟩⟩;have t0:topF j.stack 0=a:=Yg (by rw[t];exact ha) (by rw[t];omega);have I:Zi ⟨13,n,m⟩ v j below=({j.pops 1 [] with pc:=if a=0 then n else j.pc+1},0):=by unfold Zi;rw[jb J];simp[t0]
  rw[I,Yj,a3];refine⟨λhz=> ?_,λhz=> ?_⟩
  all_goals simp[bA,U,q2,q3,q4,t,hz]
 ·subst ho
  have I:Zi ⟨14,n,m⟩ v j below=({j with pc:=n},0):=by unfold Zi;rw[jb J];simp
  rw[I,Yj];simp[U,q2,q3,q4,t]
 ·subst ho
  have I:Zi ⟨15,n,m⟩ v j below=({j with status:=1,clause:=n},0):=by unfold Zi;rw[jb J];simp
  rw[I,Yj];simp[U,q2,q3,q4,t]
 ·subst ho
  have I:Zi ⟨16,n,m⟩ v j below=(j,180):=by unfold Zi;rw[jb J];simp
  rw[I,Ym _ _ (by omega)];simp[U,q2,q3,q4,t]
 have hl:2<=(s.stack.length:Int):=by
  rw[t] at J;have e:Xi op=2:=by unfold Xi;rw[jb (by omega),jh (by omega)]
  rw[e] at J;omega
 refine⟨by omega,by omega,λa ha=>⟨by omega,by omega,λb hb=> ?_⟩⟩;have t1:topF j.stack 1=a:=Yg (by rw[t];exact ha) (by rw[t];omega);have t0:topF j.stack 0=b:=Yg (by rw[t];exact hb) (by rw[t];omega);have I:Zi ⟨op,n,m⟩ v j below=if(binF op a b).2≠0 then(j,(binF op a b).2) else(j.pops 2 [(binF op a b).1],0):=by
  unfold Zi;rw[jb J];simp only[t0,t1,o1,o2,a9,b3,b4,b5,b6,jQ]
 refine⟨λhe=>⟨λ_=> ?_,λh'=>jv h' he⟩,λhe=>⟨⟨by omega,by omega⟩,?_⟩⟩
 ·rw[I,jh he,Ym _ _ he];simp[U,q2,q3,q4,t]
 ·rw[I,jb (by simp[he]),Yj,a7]
  exact Zkd (by simp[bA,U]) (by simp[bA,q2]) (by simp[bA,q3]) (by simp[bA,q4]) (by rw[aW];omega) (by simp[bA,t])
end
section
open Go
structure SLX where
 s:St
 L:List St
 r:Nat
def A39:Fr thy->Hp thy->Nat->Ann thy:=λT h i=>{X:=SLX,fr:=λx=> [(0,T 0),(4,T 4),(7,T 7),(8,.sl i 0 x.L.length 5 aD)],bl:=λx=> [(i,.rows la x.L 0),(bOf (T 7),.raw (stV x.s).cells 0 aD)]++blkP h (T 4),src:=λ_=> [(i,8)],md:= [bOf (T 7),bOf (T 8)],ih:=i+1,M:=i+40,meas:=λx=>x.r}
noncomputable def FstD:Fns thy:=addL (addS F0 77 Sadv) 50 3 A39 E
theorem Z45:FnsOk E FstD:=Zn E_ok (Zc F0_ok (Yc E_ok (Ze (f:=77) rfl) λx h=>Zh6 x.1 x.2.1 x.2.2.1 x.2.2.2.1 h)) _ _ _
abbrev qCV1(j:Env):=(bC j=bC j/\bM j=bM j/\bN j=bN j/\bO j=bO j/\bP j=bP j/\bQ j=bQ j/\bR j=bR j/\bK j=bK j/\bS j=bS j/\bT j=bT j/\bL j=bL j/\bp j=bp j/\bj j=bj j/\bq j=bq j/\bk j=bk j/\br j=br j/\bm j=bm j/\True)
abbrev qCV2:=(0:Nat)
abbrev qCV3:=(0:Int)
abbrev qCV4:=(ae=af->ae=af)
theorem Zmf(c:List Ins) (v:Env) (f:Int) (l:List St):Zk E FstD (vc E FstD 400) 50 [.psl .ins c ae,envV v,.int ae .i64 f] hp0 0 (λr=>ret E (patch hp0 0 r) r.v (.psl la l ae))=(
 ∃(R:SLX->Prop),(∃(x:SLX),R x/\af=af/\((c=c/\qCV4)/\qCV2=qCV2/\qCV2=qCV2/\(qCV2=qCV2/\1=ab (SLX.L x)/\True)/\True)/\ [St.mk qCV3 f qCV3 qCV3 []]=SLX.L x/\(qCV3=be (SLX.s x)/\f=aQ (SLX.s x)/\qCV3=av (SLX.s x)/\qCV3=aw (SLX.s x)/\aF (SLX.s x)= []/\True)/\(qCV1 v)/\True)/\∀(x:SLX),R x->((av (SLX.s x)==qCV3)=af->CanAdv c (SLX.s x) qCV3/\(ab (SLX.L x)<=ab (SLX.L x)/\qCV2<=ab (SLX.L x)/\(ab (SLX.L x)+1)*56<=140737488355328)/\∃(j:SLX),R j/\j.3+1<=x.3/\af=af/\((c=c/\qCV4)/\qCV2=qCV2/\qCV2=qCV2/\(qCV2=qCV2/\ab (SLX.L x)+1=ab (SLX.L j)/\True)/\True)/\(aj (ab (SLX.L x)) (SLX.L x)++ [advF c v (SLX.s x) qCV3]=SLX.L j/\qCV2=qCV2)/\(be (advF c v (SLX.s x) qCV3)=be (SLX.s j)/\aQ (advF c v (SLX.s x) qCV3)=aQ (SLX.s j)/\av (advF c v (SLX.s x) qCV3)=av (SLX.s j)/\aw (advF c v (SLX.s x) qCV3)=aw (SLX.s j)/\(aF (advF c v (SLX.s x) qCV3)=aF (SLX.s j)/\qCV4)/\True)/\(qCV1 v)/\True)/\((av (SLX.s x)==qCV3)=ae->qCV2+ab (SLX.L x)<=ab (SLX.L x)/\aj (ab (SLX.L x)) (SLX.L x)=l)):=by kernel_rfl
def stsF(c:List Ins) (v:Env):Nat->St->List St
 |0,s=> [s]
 |n+1,s=>if s.status=0 then s::stsF c v n (advF c v s 0) else[s]
theorem Zbr{c:List Ins} {v:Env} {s:St} (h:s.status≠0):∀n,stsF c v n s= [s]
 |0=>rfl
 |n+1=>by simp[stsF,h]
theorem Zmg(c:List Ins) (v:Env) (f:Int) (hv:(verF c).2=0) (a1:0<=f) (a2:f<=32768):PureC E 50 [.psl .ins c ae,envV v,.int ae .i64 f] (.psl la (stsF c v (f.toNat+1) (eR f)) ae):=by
 refine Za E_ok (Zb E_ok Z45 400) ?_;rw[Zmf];delta qCV1 qCV2 qCV3 qCV4;simp only[Zz,Zs,Ys,Yt,Yu,gF,gM,fV,fX,fw,fk,bw,bD,bh,bJ,az,bZ,cm,aX,ib,Zx,Z4,ne_eq,and_true,true_and,bu,bc,false_or,or_false,jn,bi,il,iF,bV,jH,jI,aM,bX]
 obtain⟨D,R⟩:=Wf hv
 refine⟨λx=>(x.s.status=0->Good c D x.s/\x.s.fuel<=32768/\x.s.fuel<x.r)/\x.L.length+x.r<=40000/\∃P,x.L=P++ [x.s]/\P++stsF c v (x.s.fuel.toNat+1) x.s=stsF c v (f.toNat+1) (eR f),
  ⟨⟨eR f,[eR f],f.toNat+1⟩,⟨λ_=>⟨Zg3 R a1,by show f<=32768;omega,by show f<((f.toNat+1:Nat):Int);omega⟩,by show 1+(f.toNat+1)<=40000;omega,[],rfl,rfl⟩,by simp[eR]⟩,λx U=>⟨λJ=> ?_,λJ=> ?_⟩⟩
 ·obtain⟨t,hb,P,I,j⟩:=U
  obtain⟨t,hf,hr⟩:=t J;have h0:=t.fuel;refine⟨Z3a R t hf,⟨aE _,bg _,by omega⟩,?_⟩;have e1:stsF c v (x.s.fuel.toNat+1) x.s=x.s::stsF c v x.s.fuel.toNat (advF c v x.s 0):=by simp[stsF,J]
  rw[e1] at j;by_cases hz:x.s.fuel=0
  ·have ea:advF c v x.s 0={x.s with status:=220}:=Z10 hz
   have a0:(advF c v x.s 0).status≠0:=by rw[ea];show 220≠0;omega
   refine⟨⟨advF c v x.s 0,x.L++ [advF c v x.s 0],x.r-1⟩,⟨λh=>jv h a0,by simp only[aO,aT,bF];omega,x.L,rfl,?_⟩,by show x.r-1+1<=x.r;omega,by simp⟩;show x.L++stsF c v _ (advF c v x.s 0)=_;rw[Zbr a0] at j⊢;rw[I,db];exact j
  ·obtain⟨p1,p2,p3,p4⟩:=Zif (v:=v) R t (by omega)
   refine⟨⟨advF c v x.s 0,x.L++ [advF c v x.s 0],x.r-1⟩,⟨λh=>⟨(p1 h).1,by show(advF c v x.s 0).fuel<=32768;omega,by show(advF c v x.s 0).fuel<((x.r-1:Nat):Int);omega⟩,by simp only[aO,aT,bF];omega,x.L,rfl,?_⟩,by show x.r-1+1<=x.r;omega,by simp⟩;show x.L++stsF c v ((advF c v x.s 0).fuel.toNat+1) (advF c v x.s 0)=_;rw[p2,show(x.s.fuel-1).toNat+1=x.s.fuel.toNat by omega,I,db];exact j
 ·obtain⟨t,hb,P,I,j⟩:=U
  rw[Zbr J] at j;exact⟨aE _,by rw[I,j]⟩
end
section
open Go Go.RowKit
section
variable {Y:Thy} {E:Eng Y}
def dMap{α j:Type} (d:Dc E α) (f:α->j) (e:j->SV Y) (I:∀a,e (f a)=d.enc a):Dc E j where
  dec v:=(d.dec v).map f
  enc b:=e b
  ok v b h:=by
    obtain⟨a,t,rfl⟩:=Option.map_eq_some_iff.1 h
    rw[I]
    exact d.ok v a t
end
def evZ:Env:=⟨0,0,0,0,0,0,0,0,0,0,0,0,0,0,0,0,0⟩
/-- what Run answers -/
noncomputable def drF(c:List Ins) (v:Env):Drv×Int:=if(verF c).2=0 then(⟨c,v,(Zw (dsk c v (dM c v))).1,(Zw (dsk c v (dM c v))).2.2,lvL c v (dM c v+1)⟩,0) else(⟨[],evZ,0,0,[]⟩,(verF c).2)
--@condg noz | (c : List Ins) (v : Env) (z : Drv) | Zk E2 FD (vc E2 FD 400) 6 [.psl .ins c ae, envV v] hp0 0 (λr => ret E2 (patch hp0 0 r) r.v (.tup [drvV z, .int ae .i64 (verF c).2]))
theorem Z1h(c:List Ins) (v:Env) (z:Drv):Zk E2 FD (vc E2 FD 400) 6 [.psl .ins c ae,envV v] hp0 0 (λr=>ret E2 (patch hp0 0 r) r.v (.tup [drvV z,.int ae .i64 (verF c).2]))=(
  True/\∀(y:Int×Int),y=verF c->((aJ y !=0)=af->(Drv.code z= []/\0=bC (Drv.env z)/\0=bM (Drv.env z)/\0=bN
  (Drv.env z)/\0=bO (Drv.env z)/\0=bP (Drv.env z)/\0=bQ (Drv.env z)/\0=bR (Drv.env z)/\0=bK (Drv.env z)/\
  0=bS (Drv.env z)/\0=bT (Drv.env z)/\0=bL (Drv.env z)/\0=bp (Drv.env z)/\0=bj (Drv.env z)/\0=
  bq (Drv.env z)/\0=bk (Drv.env z)/\0=br (Drv.env z)/\0=bm (Drv.env z)/\0=Drv.amount z/\0=Drv.err z/\
  Drv.leaves z= []/\True)/\aJ y=aJ (verF c)/\True)/\((aJ y !=0)=ae->False)
  ):=by kernel_rfl
--@end
/-- derive.Run -/
theorem Zvu(c:List Ins) (v:Env):PureC E2 6 [.psl .ins c ae,envV v] (.tup [drvV (drF c v).1,.int ae .i64 (drF c v).2]):=by
  by_cases j:(verF c).2=0
  ·obtain⟨D,I⟩:=Wf j
   have J:=I.short;have e:drF c v=(⟨c,v,(Zw (dsk c v (dM c v))).1,(Zw (dsk c v (dM c v))).2.2,lvL c v (dM c v+1)⟩,0):=jh j;rw[e];exact Zxz j (by omega)
  ·have e:drF c v=(⟨[],evZ,0,0,[]⟩,(verF c).2):=jb j
   rw[e]
   exact Za Zd Z9a ((Z1h c v ⟨[],evZ,0,0,[]⟩).mpr ⟨js,λy t=>⟨λ_=>by subst t;simp[evZ],λq=>by
     subst t
     exact j (by simpa using q)⟩⟩)
noncomputable def dI2:Dc E2 Int:=dInt (E:=E2) .i64
noncomputable def Zr9:Dc E2 (List (List Int)):=(Zlr (E:=E2) dD:Dc E2 (List (thy.dom dD)))
noncomputable def Ybz:DcL E2 (List Ins×Int×Int×Int×Int×Int×Int×Int×Int×Int×Int×Int×Int×Int×Int×Int×Int×Int×Int×Int×List (List Int)×Unit):= .cons (Zbv E2) (.cons dI2 (.cons dI2 (.cons dI2 (.cons dI2 (.cons dI2 (.cons dI2 (.cons dI2 (.cons dI2 (.cons dI2 (.cons dI2 (.cons dI2 (.cons dI2 (.cons dI2 (.cons dI2 (.cons dI2 (.cons dI2 (.cons dI2 (.cons dI2 (.cons dI2 (.cons Zr9 .nil))))))))))))))))))))
noncomputable def dDrv:Dc E2 Drv:=dMap (dAgg Ybz) (λa=>⟨a.1,⟨a.2.1,a.2.2.1,a.2.2.2.1,a.2.2.2.2.1,a.2.2.2.2.2.1,a.2.2.2.2.2.2.1,a.2.2.2.2.2.2.2.1,a.2.2.2.2.2.2.2.2.1,a.2.2.2.2.2.2.2.2.2.1,a.2.2.2.2.2.2.2.2.2.2.1,a.2.2.2.2.2.2.2.2.2.2.2.1,a.2.2.2.2.2.2.2.2.2.2.2.2.1,a.2.2.2.2.2.2.2.2.2.2.2.2.2.1,a.2.2.2.2.2.2.2.2.2.2.2.2.2.2.1,a.2.2.2.2.2.2.2.2.2.2.2.2.2.2.2.1,a.2.2.2.2.2.2.2.2.2.2.2.2.2.2.2.2.1,a.2.2.2.2.2.2.2.2.2.2.2.2.2.2.2.2.2.1⟩,a.2.2.2.2.2.2.2.2.2.2.2.2.2.2.2.2.2.2.1,a.2.2.2.2.2.2.2.2.2.2.2.2.2.2.2.2.2.2.2.1,a.2.2.2.2.2.2.2.2.2.2.2.2.2.2.2.2.2.2.2.2.1⟩) drvV (λ_=>rfl)
noncomputable def Z1i:Sum thy:=Yh E2 gthV 10 (.cons (Zbv E2) (.cons Zku .nil)) (λ_=>True) (λx=>drF x.1 x.2.1) λy=> .tup [drvV y.1,.int ae .i64 y.2]
theorem Zhx:SumOk E2 6 Z1i:=Zl Zd (Ze rfl) λx _=>Zvu x.1 x.2.1
noncomputable def Zmz:Sum thy:=Yh E2 gthV 10 (.cons dDrv (.cons dI2 .nil)) (λ_=>True) (λx=>Yz x.1 x.2.1) λy=> .tup [stV y.1,.int ae .i64 y.2]
theorem Zgv:SumOk E2 10 Zmz:=Zl Zd (Ze rfl) λx _=>Zsc x.1 x.2.1
def ACk:Fr thy->Hp thy->Nat->Ann thy:=λT h i=>{X:=LX,fr:=λx=> [(1,T 1),(4,T 4),(39,T 39),(40,T 40),(41,.int ae .i64 x.k)],bl:=λx=>blkP h (T 1)++blkP h (T 4),src:=λ_=> [],md:= [],ih:=i,M:=i+30,meas:=λx=>x.r}
noncomputable def FCk:Fns thy:=addL (addS F0 6 Z1i) 12 9 ACk E2
theorem Z93:FnsOk E2 FCk:=Zn Zd (Zc Z7 Zhx) _ _ _
--@cond check | 12 | E2:FCk | 400 | (d : Drv) (z : Int × Int) | [drvV d] | | .tup [.int ae .i64 z.1, .int ae .i64 z.2]
theorem Zsa(d:Drv) (z:Int×Int):Zk E2 FCk (vc E2 FCk 400) 12 [drvV d] hp0 0 (λr=>ret E2 (patch hp0 0 r) r.v (.tup [.int ae .i64 z.1,.int ae .i64 z.2]))=(
  (((↑(ab (Drv.code d)):Int)==0)=af->∃(Q:Bool->Prop),((decide ((↑(ab (Drv.leaves d)):Int)>0)=af->Q af)/\(decide
  ((↑(ab (Drv.leaves d)):Int)>0)=ae->((Drv.amount d !=0)=af->Q af)/\((Drv.amount d !=0)=ae->((Drv.err d !=220)=
  af->Q af)/\((Drv.err d !=220)=ae->Q ae))))/\(Q af->0=ay z/\300=aJ z/\True)/\(Q ae->0=ay z/\(0:
  Int)=aJ z/\True))/\(((↑(ab (Drv.code d)):Int)==0)=ae->True/\∀(y:Drv×Int),y=drF (Drv.code d) (Drv.env d)->((aJ y !=0)=
  af->0=ay z/\aJ y=aJ z/\True)/\((aJ y !=0)=ae->∃(R:LX->Prop),(∃(x:LX),R x/\af=af/\(0=0/\
  0=0/\(Drv.leaves (ay y)=Drv.leaves (ay y)/\(ae=af->ae=af))/\(↑(ab (Drv.leaves (ay y))):Int)=(↑(ab
  (Drv.leaves (ay y))):Int)/\0=(↑(fE x):Int)/\True)/\((Drv.code d=Drv.code d/\(ae=af->ae=af))/\bC (Drv.env d)=bC (Drv.env d)/\
  bM (Drv.env d)=bM (Drv.env d)/\bN (Drv.env d)=bN (Drv.env d)/\bO (Drv.env d)=bO (Drv.env d)/\bP (Drv.env d)=bP (Drv.env d)/\bQ
  (Drv.env d)=bQ (Drv.env d)/\bR (Drv.env d)=bR (Drv.env d)/\bK (Drv.env d)=bK (Drv.env d)/\bS (Drv.env d)=bS (Drv.env d)/\bT (Drv.env d)
  =bT (Drv.env d)/\bL (Drv.env d)=bL (Drv.env d)/\bp (Drv.env d)=bp (Drv.env d)/\bj (Drv.env d)=bj (Drv.env d)/\bq (Drv.env d)=
  bq (Drv.env d)/\bk (Drv.env d)=bk (Drv.env d)/\br (Drv.env d)=br (Drv.env d)/\bm (Drv.env d)=bm (Drv.env d)/\Drv.amount d=Drv.amount
  d/\Drv.err d=Drv.err d/\(Drv.leaves d=Drv.leaves d/\(ae=af->ae=af))/\True)/\((Drv.code (ay y)=Drv.code (ay y)/\(ae=af->ae=af))
  /\bC (Drv.env (ay y))=bC (Drv.env (ay y))/\bM (Drv.env (ay y))=bM (Drv.env (ay y))/\bN (Drv.env (ay y))=bN (Drv.env
  (ay y))/\bO (Drv.env (ay y))=bO (Drv.env (ay y))/\bP (Drv.env (ay y))=bP (Drv.env (ay y))/\bQ (Drv.env (ay y))=
  bQ (Drv.env (ay y))/\bR (Drv.env (ay y))=bR (Drv.env (ay y))/\bK (Drv.env (ay y))=bK (Drv.env (ay y))/\bS (Drv.env
  (ay y))=bS (Drv.env (ay y))/\bT (Drv.env (ay y))=bT (Drv.env (ay y))/\bL (Drv.env (ay y))=bL (Drv.env (ay y))/\
  bp (Drv.env (ay y))=bp (Drv.env (ay y))/\bj (Drv.env (ay y))=bj (Drv.env (ay y))/\bq (Drv.env (ay y))=bq
  (Drv.env (ay y))/\bk (Drv.env (ay y))=bk (Drv.env (ay y))/\br (Drv.env (ay y))=br (Drv.env (ay y))/\bm (Drv.env
  (ay y))=bm (Drv.env (ay y))/\Drv.amount (ay y)=Drv.amount (ay y)/\Drv.err (ay y)=Drv.err (ay y)/\(Drv.leaves (ay y)=
  Drv.leaves (ay y)/\(ae=af->ae=af))/\True)/\True)/\∀(x:LX),R x->(decide ((↑(fE x):Int)<(↑(ab (Drv.leaves (ay y))):Int))=af->
  0<=(↑(fE x):Int)/\(↑(fE x):Int)+1<=(↑(ab (Drv.leaves (ay y))):Int)/\∀(j:List Int),(Drv.leaves (ay y))[ag (↑(fE
  x):Int)]? =ah j->(decide ((↑(fE x):Int)>=(↑(ab (Drv.leaves d)):Int))=af->(↑(fE x):Int)=ay z/\300=aJ z/\True)/\(decide
  ((↑(fE x):Int)>=(↑(ab (Drv.leaves d)):Int))=ae->0<=(↑(fE x):Int)/\(↑(fE x):Int)+1<=(↑(ab (Drv.leaves d)):Int)/\∀(t
  :List Int),(Drv.leaves d)[ag (↑(fE x):Int)]? =ah t->∀(v:Bool),v= !(aa t 0 0==aa j 0 0&&(aa t
  1 0==aa j 1 0&&(aa t 2 0==aa j 2 0&&(aa t 3 0==
  aa j 3 0&&(aa t 4 0==aa j 4 0&&(aa t 5 0==aa j 5 (0:
  Int)&&(aa t 6 0==aa j 6 0&&(aa t 7 0==aa j 7 0&&(aa t (8:
  Nat) 0==aa j 8 0&&(aa t 9 0==aa j 9 0&&(aa t 10 0==aa
  j 10 0&&(aa t 11 0==aa j 11 0&&(aa t 12 0==aa j 12 0
  &&(aa t 13 0==aa j 13 0&&(aa t 14 0==aa j 14 0&&(aa t (15:
  Nat) 0==aa j 15 0&&(aa t 16 0==aa j 16 0&&(aa t 17 0==
  aa j 17 0&&(aa t 18 0==aa j 18 0&&(aa t 19 0==aa j 19
  0&&(aa t 20 0==aa j 20 0&&(aa t 21 0==aa j 21 0&&(aa
  t 22 0==aa j 22 0&&(aa t 23 0==aa j 23 0&&(aa t 24 0
  ==aa j 24 0&&(aa t 25 0==aa j 25 0&&(aa t 26 0==aa j (26:
  Nat) 0&&(aa t 27 0==aa j 27 0&&(aa t 28 0==aa j 28 0&&
  (aa t 29 0==aa j 29 0&&(aa t 30 0==aa j 30 0&&(aa t 31
  0==aa j 31 0&&af))))))))))))))))))))))))))))))))->(v=af->(↑(fE x):Int)=ay z/\300=aJ z/\True)/\(v=ae
  ->∃(I:LX),R I/\I.2+1<=x.2/\af=af/\(0=0/\0=0/\(Drv.leaves (ay y)=Drv.leaves (ay y)/\(ae=af
  ->ae=af))/\(↑(ab (Drv.leaves (ay y))):Int)=(↑(ab (Drv.leaves (ay y))):Int)/\wr ac ((↑(fE x):Int)+1)=(↑(fE
  I):Int)/\True)/\((Drv.code d=Drv.code d/\(ae=af->ae=af))/\bC (Drv.env d)=bC (Drv.env d)/\bM (Drv.env d)=bM (Drv.env d)/\bN
  (Drv.env d)=bN (Drv.env d)/\bO (Drv.env d)=bO (Drv.env d)/\bP (Drv.env d)=bP (Drv.env d)/\bQ (Drv.env d)=bQ (Drv.env d)/\bR (Drv.env d)
  =bR (Drv.env d)/\bK (Drv.env d)=bK (Drv.env d)/\bS (Drv.env d)=bS (Drv.env d)/\bT (Drv.env d)=bT (Drv.env d)/\bL (Drv.env d)=bL
  (Drv.env d)/\bp (Drv.env d)=bp (Drv.env d)/\bj (Drv.env d)=bj (Drv.env d)/\bq (Drv.env d)=bq (Drv.env d)/\bk (Drv.env d)=bk
  (Drv.env d)/\br (Drv.env d)=br (Drv.env d)/\bm (Drv.env d)=bm (Drv.env d)/\Drv.amount d=Drv.amount d/\Drv.err d=Drv.err d/\(Drv.leaves d=
  Drv.leaves d/\(ae=af->ae=af))/\True)/\((Drv.code (ay y)=Drv.code (ay y)/\(ae=af->ae=af))/\bC (Drv.env (ay y))=bC
  (Drv.env (ay y))/\bM (Drv.env (ay y))=bM (Drv.env (ay y))/\bN (Drv.env (ay y))=bN (Drv.env (ay y))/\bO (Drv.env (ay
  y))=bO (Drv.env (ay y))/\bP (Drv.env (ay y))=bP (Drv.env (ay y))/\bQ (Drv.env (ay y))=bQ (Drv.env (ay y))/\bR
  (Drv.env (ay y))=bR (Drv.env (ay y))/\bK (Drv.env (ay y))=bK (Drv.env (ay y))/\bS (Drv.env (ay y))=bS (Drv.env (ay
  y))/\bT (Drv.env (ay y))=bT (Drv.env (ay y))/\bL (Drv.env (ay y))=bL (Drv.env (ay y))/\bp (Drv.env (ay y))=bp
  (Drv.env (ay y))/\bj (Drv.env (ay y))=bj (Drv.env (ay y))/\bq (Drv.env (ay y))=bq (Drv.env (ay y))/\bk (Drv.env
  (ay y))=bk (Drv.env (ay y))/\br (Drv.env (ay y))=br (Drv.env (ay y))/\bm (Drv.env (ay y))=bm (Drv.env (ay y))/\
  Drv.amount (ay y)=Drv.amount (ay y)/\Drv.err (ay y)=Drv.err (ay y)/\(Drv.leaves (ay y)=Drv.leaves (ay y)/\(ae=af->ae=
  af))/\True)/\True)))/\(decide ((↑(fE x):Int)<(↑(ab (Drv.leaves (ay y))):Int))=ae->(decide ((↑(ab (Drv.leaves d)):Int)>(↑(ab
  (Drv.leaves (ay y))):Int))=af->(↑(ab (Drv.leaves (ay y))):Int)=ay z/\300=aJ z/\True)/\(decide ((↑(ab (Drv.leaves
  d)):Int)>(↑(ab (Drv.leaves (ay y))):Int))=ae->((Drv.amount d !=Drv.amount (ay y))=af->wr ac ((↑(ab (Drv.leaves (ay
  y))):Int)-1)=ay z/\300=aJ z/\True)/\((Drv.amount d !=Drv.amount (ay y))=ae->((Drv.err d !=Drv.err (ay y))=af->wr
  ac ((↑(ab (Drv.leaves (ay y))):Int)-1)=ay z/\300=aJ z/\True)/\((Drv.err d !=Drv.err (ay y))=ae->(0:
  Int)=ay z/\0=aJ z/\True))))))
  ):=by kernel_rfl
--@end
theorem Z1j(a b:List Int):(aa a 0 0==aa b 0 0&&(aa a 1 0==aa b 1 0&&(aa a 2 0==aa b 2 0&&(aa a 3 0==aa b 3 0&&(aa a 4 0==aa b 4 0&&(aa a 5 0==aa b 5 0&&(aa a 6 0==aa b 6 0&&(aa a 7 0==aa b 7 0&&(aa a 8 0==aa b 8 0&&(aa a 9 0==aa b 9 0&&(aa a 10 0==aa b 10 0&&(aa a 11 0==aa b 11 0&&(aa a 12 0==aa b 12 0&&(aa a 13 0==aa b 13 0&&(aa a 14 0==aa b 14 0&&(aa a 15 0==aa b 15 0&&(aa a 16 0==aa b 16 0&&(aa a 17 0==aa b 17 0&&(aa a 18 0==aa b 18 0&&(aa a 19 0==aa b 19 0&&(aa a 20 0==aa b 20 0&&(aa a 21 0==aa b 21 0&&(aa a 22 0==aa b 22 0&&(aa a 23 0==aa b 23 0&&(aa a 24 0==aa b 24 0&&(aa a 25 0==aa b 25 0&&(aa a 26 0==aa b 26 0&&(aa a 27 0==aa b 27 0&&(aa a 28 0==aa b 28 0&&(aa a 29 0==aa b 29 0&&(aa a 30 0==aa b 30 0&&(aa a 31 0==aa b 31 0&&(af)))))))))))))))))))))))))))))))))=decide (n32 a=n32 b):=by
  rw[Bool.eq_iff_iff];simp only[n32x,List.cons.injEq,fw,az,gF,and_true]
/-- the first of the leaves R that is not in its place in L -/
def V2:List (List Int)->List (List Int)->Nat->Option Nat
  | [],_,_=>aD
  |x::r,[],k=>ah k
  |x::r,y::l,k=>if n32 y=n32 x then V2 r l (k+1) else ah k
theorem Zey{R L:List (List Int)} {k:Nat} {x y:List Int} (U:R[k]? =ah x) (a0:L[k]? =ah y):V2 (R.drop k) (L.drop k) k=if n32 y=n32 x then V2 (R.drop (k+1)) (L.drop (k+1)) (k+1) else ah k:=by
  obtain⟨j,I⟩:=ar.1 U;obtain⟨t,J⟩:=ar.1 a0;rw[cA j,cA t,I,J];rfl
theorem Zgw{R L:List (List Int)} {k:Nat} {x:List Int} (t:R[k]? =ah x) (I:L.length<=k):V2 (R.drop k) (L.drop k) k=ah k:=by
  obtain⟨j,J⟩:=ar.1 t;rw[cA j,ja I];rfl
theorem Zhy{R L:List (List Int)} {k:Nat} (j:R.length<=k):V2 (R.drop k) (L.drop k) k=none:=by
  rw[ja j];rfl
/-- what Check answers -/
noncomputable def Z5(d:Drv):Int×Int:=
  if d.code= [] then(if 0<d.leaves.length\/d.amount≠0\/d.err≠220 then(0,300) else(0,0))
  else if(drF d.code d.env).2≠0 then(0,(drF d.code d.env).2)
  else match V2 (drF d.code d.env).1.leaves d.leaves 0 with
    |some k=>((k:Int),300)
    |none=>if(drF d.code d.env).1.leaves.length<d.leaves.length then(((drF d.code d.env).1.leaves.length:Int),300)
      else if d.amount≠(drF d.code d.env).1.amount\/d.err≠(drF d.code d.env).1.err then(((drF d.code d.env).1.leaves.length:Int)-1,300)
      else(0,0)
theorem Zm0{c:List Ins} {v:Env} (h:(drF c v).2=0):1<=(drF c v).1.leaves.length/\(drF c v).1.leaves.length<=4097/\(drF c v).1.leaves.length<=c.length+1:=by
  by_cases j:(verF c).2=0
  ·obtain⟨D,t⟩:=Wf j
   have I:=t.short;have J:=(Zct (v:=v) j).1;unfold drF;rw[jh j];show 1<=(lvL c v (dM c v+1)).length/\(lvL c v (dM c v+1)).length<=4097/\(lvL c v (dM c v+1)).length<=c.length+1;rw[Zbp];omega
  ·unfold drF at h
   rw[jb j] at h;exact jv h j
/-- derive.Check -/
theorem Zm1(d:Drv):PureC E2 12 [drvV d] (.tup [.int ae .i64 (Z5 d).1,.int ae .i64 (Z5 d).2]):=by
  refine Za Zd (Zb Zd Z93 400) ?_;rw[Zsa d (Z5 d)];refine⟨λh0=> ?_,λh0=>⟨js,λy hy=>⟨λh1=> ?_,λh1=> ?_⟩⟩⟩
  ·have R:d.code= []:=by simpa using h0
   refine⟨λb=>b=decide (0<d.leaves.length\/d.amount≠0\/d.err≠220),⟨λj=> ?_,λj=>⟨λt=> ?_,λt=>⟨λI=> ?_,λI=> ?_⟩⟩⟩,λq=> ?_,λq=> ?_⟩
   ·simp only[fw] at j
    exact(iZ (.inl (by omega))).symm
   ·exact(iZ (.inr (.inl (by simpa using t)))).symm
   ·exact(iZ (.inr (.inr (by simpa using I)))).symm
   ·simp only[fk,fX] at j t I
    refine(decide_eq_false ?_).symm;rintro(h|h|h)
    ·omega
    ·exact h t
    ·exact h I
   ·have e:Z5 d=(0,300):=by
      unfold Z5;rw[jh R,jh (iK q.symm)]
    rw[e];exact⟨rfl,rfl,js⟩
   ·have e:Z5 d=(0,0):=by
      unfold Z5;rw[jh R,jb (iT q.symm)]
    rw[e];exact⟨rfl,rfl,js⟩
  ·have R:d.code≠ []:=by simpa using h0
   subst hy;have hn:(drF d.code d.env).2≠0:=by simpa using h1
   have e:Z5 d=(0,(drF d.code d.env).2):=by
     unfold Z5;rw[jb R,jh hn]
   rw[e];exact⟨rfl,rfl,js⟩
  ·have R:d.code≠ []:=by simpa using h0
   have hn:(drF d.code d.env).2=0:=by rw[<-hy];simpa using h1
   obtain⟨n1,n2,n3⟩:=Zm0 hn
   have e0:Z5 d=(match V2 (drF d.code d.env).1.leaves d.leaves 0 with
       |some k=>((k:Int),300)
       |none=>if(drF d.code d.env).1.leaves.length<d.leaves.length then(((drF d.code d.env).1.leaves.length:Int),300)
         else if d.amount≠(drF d.code d.env).1.amount\/d.err≠(drF d.code d.env).1.err then(((drF d.code d.env).1.leaves.length:Int)-1,300)
         else(0,0)):=by
     unfold Z5;rw[jb R,jb (by simpa using hn)]
   rw[<-hy] at n1 n2 n3 e0;rw[e0];clear e0 hy;generalize y.1=r at n1 n2 n3⊢;refine⟨λx=>x.k<=r.leaves.length/\V2 (r.leaves.drop x.k) (d.leaves.drop x.k) x.k=V2 r.leaves d.leaves 0/\x.r=r.leaves.length-x.k,⟨⟨0,r.leaves.length,[],0⟩,⟨bg _,rfl,rfl⟩,by simp⟩,?_⟩;rintro x ⟨k1,k2,k3⟩;refine⟨λa2=> ?_,λa1=> ?_⟩
   ·have a2:x.k<r.leaves.length:=by simpa using a2
    refine⟨by omega,by omega,λx1 J=>⟨λU=> ?_,λU=>⟨by omega,?_,λx2 a0 b hb=>⟨λq=> ?_,λq=> ?_⟩⟩⟩⟩
    ·have J:r.leaves[x.k]? =ah x1:=J
     have U:d.leaves.length<=x.k:=by simpa using U
     rw[<-k2,Zgw J U];exact⟨rfl,rfl,js⟩
    ·have U:x.k<d.leaves.length:=by simpa using U
     omega
    ·have J:r.leaves[x.k]? =ah x1:=J
     have a0:d.leaves[x.k]? =ah x2:=a0;rw[Z1j] at hb;rw[<-k2,Zey J a0,jb]
     ·exact⟨rfl,rfl,js⟩
     ·intro e
      rw[hb] at q;simp[e] at q
    ·have J:r.leaves[x.k]? =ah x1:=J
     have a0:d.leaves[x.k]? =ah x2:=a0;rw[Z1j] at hb;have e:n32 x2=n32 x1:=by
       rw[hb] at q
       simpa using q
     rw[Zey J a0,jh e] at k2;refine⟨⟨x.k+1,r.leaves.length-(x.k+1),[],0⟩,⟨a2,k2,rfl⟩,by show r.leaves.length-(x.k+1)+1<=x.r;omega,?_⟩;simp;exact(wr64 (by omega) (by omega)).trans (by omega)
   ·have a1:r.leaves.length<=x.k:=by simpa using a1
    rw[<-k2,Zhy a1];refine⟨λj=> ?_,λj=>⟨λt=> ?_,λt=>⟨λI=> ?_,λI=> ?_⟩⟩⟩
    ·have j:r.leaves.length<d.leaves.length:=by simpa using j
     simp only[jh j];exact⟨js,js,js⟩
    ·have j:¬r.leaves.length<d.leaves.length:=by simpa using j
     have t:d.amount≠r.amount:=by simpa using t
     simp only[jb j,jh (Or.inl t:d.amount≠r.amount\/d.err≠r.err)];exact⟨wr64 (by omega) (by omega),js,js⟩
    ·have j:¬r.leaves.length<d.leaves.length:=by simpa using j
     have I:d.err≠r.err:=by simpa using I
     simp only[jb j,jh (Or.inr I:d.amount≠r.amount\/d.err≠r.err)];exact⟨wr64 (by omega) (by omega),js,js⟩
    ·have j:¬r.leaves.length<d.leaves.length:=by simpa using j
     have t:d.amount=r.amount:=by simpa using t
     have I:d.err=r.err:=by simpa using I
     have a3:¬(d.amount≠r.amount\/d.err≠r.err):=by
       rintro(h|h)
       ·exact h t
       ·exact h I
     simp only[jb j,jb a3];exact⟨js,js,js⟩
end
section
open Go Go.RowKit
noncomputable def Zmt:Sum thy:=Yh E2 gthV 10 (.cons dDrv .nil) (λ_=>True) (λx=>Z5 x.1) λy=> .tup [.int ae .i64 y.1,.int ae .i64 y.2]
theorem Zgs:SumOk E2 12 Zmt:=Zl Zd (Ze rfl) λx _=>Zm1 x.1
noncomputable def Zva:Sum thy:=Yh E2 gthV 10 (.cons dSt2 (.cons dSt2 .nil)) (λx=>x.1.stack.length<=1000000) (λx=>Zkq x.1 x.2.1) λy=> .bool ae y
theorem Zj6:SumOk E2 15 Zva:=Zl Zd (Ze rfl) λx h=>up2 (Zyr x.1 x.2.1 h)
--@cond changed | 19 | E2:F0 | 400 | (d : Drv) (i : Int) | [drvV d, .int ae .i64 i] | (z : Drv) | drvV z
theorem Zj7(d:Drv) (i:Int) (z:Drv):Zk E2 F0 (vc E2 F0 400) 19 [drvV d,.int ae .i64 i] hp0 0 (λr=>ret E2 (patch hp0 0 r) r.v (drvV z))=(
  (Drv.leaves d= []->0<=i/\i+1<=(↑(0:Nat):Int)/\True)/\(Drv.leaves d≠ []->(0+1<=0+ab (Drv.leaves d)/\(0
  +ab (Drv.leaves d))*32<=140737488355328)/\(0<=i/\i+1<=(↑(0+ab (Drv.leaves d)):Int))/\0+ag
  i+1<=ab ([]++Drv.leaves d)/\∀(x:List Int),([]++Drv.leaves d)[0+ag i]? =ah x->(0<=i/\i+1<=(↑(0+
  ab (Drv.leaves d)):Int))/\0<=0+ag i/\0+ag i+1<=ab ([]++Drv.leaves d)/\∀(j:List Int),([]++
  Drv.leaves d)[0+ag i]? =ah j->(Drv.code d=Drv.code z/\(ae=af->ae=af))/\bC (Drv.env d)=bC (Drv.env z)/\bM (Drv.env d)=
  bM (Drv.env z)/\bN (Drv.env d)=bN (Drv.env z)/\bO (Drv.env d)=bO (Drv.env z)/\bP (Drv.env d)=bP (Drv.env z)/\bQ (Drv.env d)=bQ
  (Drv.env z)/\bR (Drv.env d)=bR (Drv.env z)/\bK (Drv.env d)=bK (Drv.env z)/\bS (Drv.env d)=bS (Drv.env z)/\bT (Drv.env d)=bT (Drv.env z)
  /\bL (Drv.env d)=bL (Drv.env z)/\bp (Drv.env d)=bp (Drv.env z)/\bj (Drv.env d)=bj (Drv.env z)/\bq (Drv.env d)=bq (Drv.env z)/\
  bk (Drv.env d)=bk (Drv.env z)/\br (Drv.env d)=br (Drv.env z)/\bm (Drv.env d)=bm (Drv.env z)/\Drv.amount d=Drv.amount z/\Drv.err d=
  Drv.err z/\(0+(0+ab (Drv.leaves d))<=ab (eG ([]++Drv.leaves d) (0+ag i) [Zo cW ax (aa x
  0 0) 1,aa j 1 0,aa j 2 0,aa j 3 0,aa j 4 0,
  aa j 5 0,aa j 6 0,aa j 7 0,aa j 8 0,aa j 9 0,
  aa j 10 0,aa j 11 0,aa j 12 0,aa j 13 0,aa j 14 0,
  aa j 15 0,aa j 16 0,aa j 17 0,aa j 18 0,aa j 19 0,
  aa j 20 0,aa j 21 0,aa j 22 0,aa j 23 0,aa j 24 0,
  aa j 25 0,aa j 26 0,aa j 27 0,aa j 28 0,aa j 29 0,
  aa j 30 0,aa j 31 0])/\aj (0+ab (Drv.leaves d)) (eG ([]++Drv.leaves d) (0+ag
  i) [Zo cW ax (aa x 0 0) 1,aa j 1 0,aa j 2 0,aa j 3 (0:
  Int),aa j 4 0,aa j 5 0,aa j 6 0,aa j 7 0,aa j 8 0,
  aa j 9 0,aa j 10 0,aa j 11 0,aa j 12 0,aa j 13 0,
  aa j 14 0,aa j 15 0,aa j 16 0,aa j 17 0,aa j 18 0,
  aa j 19 0,aa j 20 0,aa j 21 0,aa j 22 0,aa j 23 0,
  aa j 24 0,aa j 25 0,aa j 26 0,aa j 27 0,aa j 28 0,
  aa j 29 0,aa j 30 0,aa j 31 0])=Drv.leaves z)/\True)
  ):=by kernel_rfl
--@end
--@cond few30 | 5 | E2:F0 | 400 | (c : List Ins) | [.psl .ins c ae] | (b : Bool) | .bool ae b
theorem Zr1(c:List Ins) (b:Bool):Zk E2 F0 (vc E2 F0 400) 5 [.psl .ins c ae] hp0 0 (λr=>ret E2 (patch hp0 0 r) r.v (.bool ae b))=(
  (decide ((↑(ab c):Int)<=40)=af->af=b)/\(decide ((↑(ab c):Int)<=40)=ae->ae=b)
  ):=by kernel_rfl
--@end
def Zmu(x:List Int):List Int:= [Zo cW ax (aa x 0 0) 1,aa x 1 0,aa x 2 0,aa x 3 0,aa x 4 0,aa x 5 0,aa x 6 0,aa x 7 0,aa x 8 0,aa x 9 0,aa x 10 0,aa x 11 0,aa x 12 0,aa x 13 0,aa x 14 0,aa x 15 0,aa x 16 0,aa x 17 0,aa x 18 0,aa x 19 0,aa x 20 0,aa x 21 0,aa x 22 0,aa x 23 0,aa x 24 0,aa x 25 0,aa x 26 0,aa x 27 0,aa x 28 0,aa x 29 0,aa x 30 0,aa x 31 0]
/-- one leaf is another one -/
def W9(d:Drv) (i:Int):Drv:={d with leaves:=d.leaves.set i.toNat (Zmu (d.leaves.getD i.toNat []))}
theorem Zj8(d:Drv) (i:Int) (t:0<=i) (I:i<d.leaves.length) (h2:d.leaves.length<=5000):PureC E2 19 [drvV d,.int ae .i64 i] (drvV (W9 d i)):=by
  refine Za Zd (Zb Zd Z7 400) ?_;rw[Zj7 d i (W9 d i)];refine⟨λe=> ?_,λ_=>⟨⟨by omega,by omega⟩,⟨t,by omega⟩,by rw[eD];omega,λx j=>⟨⟨t,by omega⟩,bg _,by rw[eD];omega,λx1 J=> ?_⟩⟩⟩
  ·rw[e] at I
   exact jv I (by simp;omega)
  ·rw[j] at J
   cases J;have e:d.leaves.getD i.toNat []=x:=by
     rw[eD,bX] at j;rw[aI,j];rfl
   have R:(W9 d i).leaves=d.leaves.set i.toNat (Zmu x):=by rw[<-e];rfl
   rw[R];simp only[W9,eD,bX,kg,aE,true_and];refine⟨λh=>h,?_⟩;refine⟨?_,js⟩;have U:(d.leaves.set i.toNat (Zmu x)).length=d.leaves.length:=kg;exact(aN (by rw[U];exact aE _):aj d.leaves.length (d.leaves.set i.toNat (Zmu x))=_)
theorem Zvb(c:List Ins):PureC E2 5 [.psl .ins c ae] (.bool ae (decide (c.length<=40))):=by
  refine Za Zd (Zb Zd Z7 400) ?_;rw[Zr1];refine⟨λj=> ?_,λj=> ?_⟩
  ·exact(iZ (by simp only[fw] at j;omega)).symm
  ·exact(decide_eq_false (by simp only[fk] at j;omega)).symm
noncomputable def Z9q:Sum thy:=Yh E2 gthV 10 (.cons dDrv (.cons dI2 .nil)) (λx=>0<=x.2.1/\x.2.1<x.1.leaves.length/\x.1.leaves.length<=5000) (λx=>W9 x.1 x.2.1) drvV
theorem Z01:SumOk E2 19 Z9q:=Zl Zd (Ze rfl) λx h=>Zj8 x.1 x.2.1 h.1 h.2.1 h.2.2
noncomputable def Z9r:Sum thy:=Yh E2 gthV 10 (.cons (Zbv E2) .nil) (λ_=>True) (λx=>decide (x.1.length<=40)) λy=> .bool ae y
theorem Z02:SumOk E2 5 Z9r:=Zl Zd (Ze rfl) λx _=>Zvb x.1
noncomputable def FS0:Fns thy:=addS (addS (addS (addS (addS F0 6 Z1i) 10 Zmz) 12 Zmt) 15 Zva) 19 Z9q
theorem Z9s:FnsOk E2 FS0:=Zc (Zc (Zc (Zc (Zc Z7 Zhx) Zgv) Zgs) Zj6) Z01
--@cond sane30 | 4 | E2:FS0 | 400 | (b : Bool) | [] | | .bool ae b
theorem Zmv(b:Bool):Zk E2 FS0 (vc E2 FS0 400) 4 [] hp0 0 (λr=>ret E2 (patch hp0 0 r) r.v (.bool ae b))=(
  True/\∀(y:Drv×Int),y=drF [iw 2 6 0,iw 1 7 0,iw 5 0 0,iw 15 0 (0
  :Int)] (Env.mk 64 0 0 0 0 0 0 30 0 0 0 0 0 0 0 0 (0
  :Int))->True/\∀(j:Drv×Int),j=drF [iw 2 6 0,iw 1 7 0,iw 5 0 0,iw 15
  0 0] (Env.mk 0 0 0 0 0 0 0 0 0 0 0 0 0 0 0
  0 0)->∃(Q:Bool->Prop),(((aJ y !=0)=af->Q af)/\((aJ y !=0)=ae->(((↑(ab (Drv.leaves (ay y))):Int)
  !=5)=af->Q af)/\(((↑(ab (Drv.leaves (ay y))):Int) !=5)=ae->((Drv.amount (ay y) !=210)=af->Q af)/\
  ((Drv.amount (ay y) !=210)=ae->((Drv.err (ay y) !=0)=af->Q af)/\((Drv.err (ay y) !=0)=ae->((aJ j !=(0:
  Int))=af->Q af)/\((aJ j !=0)=ae->(((↑(ab (Drv.leaves (ay j))):Int) !=2)=af->Q af)/\(((↑(ab (Drv.leaves
  (ay j))):Int) !=2)=ae->((Drv.amount (ay j) !=0)=af->Q af)/\((Drv.amount (ay j) !=0)=ae->((Drv.err (ay
  j) !=181)=af->Q af)/\((Drv.err (ay j) !=181)=ae->Q ae)))))))))/\(Q af->ae=b)/\(Q ae->True/\∀(t:St×Int),t=
  Yz (ay y) 2->True/\∀(U:St×Int),U=Yz (ay y) 5->((0:Int)<=3/\3+1<=(↑(ab (Drv.leaves
  (ay y))):Int)/\ab (Drv.leaves (ay y))<=5000)/\∀(a0:Drv),a0=W9 (ay y) 3->True/\∀(I:Int×Int),I=Z5 a0
  ->True/\∀(J:Int×Int),J=Z5 (Drv.mk (Drv.code (ay y)) (Drv.env (ay y)) 211 (Drv.err (ay y)) (Drv.leaves (ay y)))->(0<=(4:
  Int)/\4<=(↑(ab (Drv.leaves (ay y))):Int))/\True/\∀(R:Int×Int),R=Z5 (Drv.mk (Drv.code (ay y)) (Drv.env (ay y)) 210
  0 (aj (ag 4) (Drv.leaves (ay y))))->((aJ t==0)=af->ab (aF (ay t))<=1000000/\∀(y:
  Bool),y=Zkq (ay t) (St.mk 2 3 0 0 [30,7])->(y=af->((aJ U==1)=af->((ay I==(3:
  Int))=af->((aJ I==300)=af->((ay J==4)=af->((aJ J==300)=af->((ay R==4)=af->
  ((aJ R==300)=af->af=b)/\((aJ R==300)=ae->ae=b))/\((ay R==4)=ae->ae=b))/\((aJ J==
  300)=ae->ae=b))/\((ay J==4)=ae->ae=b))/\((aJ I==300)=ae->ae=b))/\((ay I==3)=
  ae->ae=b))/\((aJ U==1)=ae->ae=b))/\(y=ae->ae=b))/\((aJ t==0)=ae->ae=b))
  ):=by kernel_rfl
--@end
def Y9:List Ins:= [⟨2,6,0⟩,⟨1,7,0⟩,⟨5,0,0⟩,⟨15,0,0⟩]
def X1:Env:=⟨64,0,0,0,0,0,0,30,0,0,0,0,0,0,0,0,0⟩
theorem x30a:(verF Y9).2=0:=by decide+kernel
theorem x30b:dM Y9 X1=4:=by decide+kernel
theorem x30c:dM Y9 evZ=1:=by decide+kernel
theorem x30d:Zw (dsk Y9 X1 4)=(210,0,0):=by decide+kernel
theorem x30e:(Zw (dsk Y9 evZ 1)).1=0/\(Zw (dsk Y9 evZ 1)).2.2=181:=by decide+kernel
theorem x30f:Zkq (dsk Y9 X1 2) ⟨2,3,0,0,[30,7]⟩=af/\(dsk Y9 X1 2).stack.length<=1000000:=by decide+kernel
theorem Z4e:drF Y9 X1=(⟨Y9,X1,210,0,lvL Y9 X1 5⟩,0):=by
  unfold drF;rw[jh x30a,x30b,x30d]
theorem Z9t:(drF Y9 evZ).2=0/\(drF Y9 evZ).1.leaves.length=2/\(drF Y9 evZ).1.amount=0/\(drF Y9 evZ).1.err=181:=by
  unfold drF;rw[jh x30a,x30c];exact⟨rfl,Zbp _ _ _,x30e.1,x30e.2⟩
theorem Z5u(a:Int):Zo .xor .u8 a 1≠a:=by
  intro h;have t:∀x:BitVec 8,x^^^1#8≠x:=by decide
  have e:Zo .xor .u8 a 1=((bW 8 a^^^1#8).toNat:Int):=by
    have j:=(bW 8 a^^^1#8).isLt;show eZ .u8 ((bW 8 a^^^1#8).toNat:Int)=_;generalize (bW 8 a^^^1#8).toNat=n at j⊢;simp only[eZ,ak,fo,Bool.false_and,bc,jQ];omega
  rw[e] at h;refine t (bW 8 a) ?_;have:bW 8 a=bW 8 ((bW 8 a^^^1#8).toNat:Int):=jy (bW 8) h.symm;rw[BitVec.ofInt_natCast,BitVec.ofNat_toNat] at this
  simpa using this.symm
theorem Z03(x:List Int):n32 (Zmu x)≠n32 x:=by
  intro h;have j:=jy (λl=>aa l 0 0) h;exact Z5u (aa x 0 0) (by simpa[n32x,Zmu] using j)
noncomputable def D30:Drv:=⟨Y9,X1,210,0,lvL Y9 X1 5⟩
theorem Ybt:Yz D30 2=(dsk Y9 X1 2,0):=by
  unfold Yz;have e:(verF D30.code).2=0:=x30a;have j:dM D30.code D30.env=4:=x30b;rw[jh e,j];rfl
theorem Ybu:(Yz D30 5).2=1:=by
  unfold Yz;have e:(verF D30.code).2=0:=x30a;have j:dM D30.code D30.env=4:=x30b;rw[jh e,j];rfl
theorem lv30:∃a b c d e,lvL Y9 X1 5= [a,b,c,d,e]:=⟨_,_,_,_,_,rfl⟩
theorem Z5v{d:Drv} (j:d.code=Y9) (t:d.env=X1) {z:Int×Int} (h:(match V2 (lvL Y9 X1 5) d.leaves 0 with
        |some k=>((k:Int),300)
        |none=>if(lvL Y9 X1 5).length<d.leaves.length then(((lvL Y9 X1 5).length:Int),300)
          else if d.amount≠210\/d.err≠0 then(((lvL Y9 X1 5).length:Int)-1,300)
          else(0,0))=z):Z5 d=z:=by
  unfold Z5
  rw[j,t,Z4e,jb (by decide),jb (by simp)]
  exact h
theorem Ybv:Z5 (W9 D30 3)=(3,300):=by
  refine Z5v rfl rfl ?_;have e:(W9 D30 3).leaves=(lvL Y9 X1 5).set 3 (Zmu ((lvL Y9 X1 5).getD 3 [])):=rfl;rw[e];obtain⟨t,I,J,R,U,j⟩:=lv30;rw[j];simp[V2,Z03]
theorem Ybw:Z5 ⟨Y9,X1,211,0,lvL Y9 X1 5⟩=(4,300):=by
  refine Z5v rfl rfl ?_;show(match V2 (lvL Y9 X1 5) (lvL Y9 X1 5) 0 with|some k=>_|none=>_)=_;obtain⟨t,I,J,R,U,j⟩:=lv30;rw[j];simp[V2]
theorem Ybx:Z5 ⟨Y9,X1,210,0,(lvL Y9 X1 5).take 4⟩=(4,300):=by
  refine Z5v rfl rfl ?_;show(match V2 (lvL Y9 X1 5) ((lvL Y9 X1 5).take 4) 0 with|some k=>_|none=>_)=_;obtain⟨t,I,J,R,U,j⟩:=lv30;rw[j];simp[V2]
theorem Zr2:PureC E2 4 [] (.bool ae af):=by
  refine Za Zd (Zb Zd Z9s 400) ?_;rw[Zmv af];refine⟨js,λy hy=>⟨js,λy1 a1=> ?_⟩⟩;obtain rfl:y=(D30,0):=hy.trans Z4e;obtain rfl:y1=drF Y9 evZ:=a1;obtain⟨z1,z2,z3,z4⟩:=Z9t;have j:D30.leaves.length=5:=Zbp _ _ _
  refine⟨λb=>b=ae,⟨λh=>by simp at h,λ_=>⟨λh=>by simp[j] at h,λ_=>⟨λh=>by simp[D30] at h,λ_=>⟨λh=>by simp[D30] at h,λ_=>⟨λh=>by simp[z1] at h,λ_=>⟨λh=>by simp[z2] at h,λ_=>⟨λh=>by simp[z3] at h,λ_=>⟨λh=>by simp[z4] at h,λ_=>rfl⟩⟩⟩⟩⟩⟩⟩⟩,λh=>(by cases h),λ_=>⟨js,λy2 I=>⟨js,λy3 J=>⟨⟨by decide,by rw[j];decide,by rw[j];decide⟩,λy4 a2=>⟨js,λy5 R=>⟨js,λy6 U=>⟨⟨by decide,by rw[j];decide⟩,js,λy7 a0=> ?_⟩⟩⟩⟩⟩⟩⟩;have I:y2=(dsk Y9 X1 2,0):=I.trans Ybt;have J:y3.2=1:=by rw[J];exact Ybu
  have R:y5=(3,300):=by rw[R,a2];exact Ybv
  have U:y6=(4,300):=U.trans Ybw;have a0:y7=(4,300):=a0.trans Ybx;subst I R U a0;refine⟨λ_=>⟨x30f.2,λb t=> ?_⟩,λh=>by simp at h⟩;have t:b=true:=t.trans x30f.1;subst t;simp[J]
end
section
open Go Go.RowKit
noncomputable def Z4g:Sum thy:=Yh E2 gthV 10 .nil (λ_=>True) (λ_=>af) λy=> .bool ae y
theorem Zvf:SumOk E2 4 Z4g:=Zl Zd (Ze rfl) λx _=>Zr2
theorem Zcx(d:List Int):n32 (n32 d)=n32 d:=Z4n (by simp[n32])
theorem Zr3(s:St):Zkq s s=true:=by simp[Zkq]
end
section
open Go Go.RowKit
def len8L:List Nat:=
 toL (ByteArray.mk (List.toArray (jz (jz [(0:UInt8),(1:UInt8),(2:UInt8),(2:UInt8),(3:UInt8),(3:UInt8),(3:UInt8),(3:UInt8),(4:UInt8),(4:
 UInt8),(4:UInt8),(4:UInt8),(4:UInt8),(4:UInt8),(4:UInt8),(4:UInt8),(5:UInt8),(5:UInt8),(5:UInt8),(5:UInt8),(5:UInt8),(5:UInt8),(5:UInt8),(5
 :UInt8),(5:UInt8),(5:UInt8),(5:UInt8),(5:UInt8),(5:UInt8),(5:UInt8),(5:UInt8),(5:UInt8),(6:UInt8),(6:UInt8),(6:UInt8),(6:UInt8),(6:UInt8),
 (6:UInt8),(6:UInt8),(6:UInt8),(6:UInt8),(6:UInt8),(6:UInt8),(6:UInt8),(6:UInt8),(6:UInt8),(6:UInt8),(6:UInt8),(6:UInt8),(6:UInt8),(6:
 UInt8),(6:UInt8),(6:UInt8),(6:UInt8),(6:UInt8),(6:UInt8),(6:UInt8),(6:UInt8),(6:UInt8),(6:UInt8),(6:UInt8),(6:UInt8),(6:UInt8),(6:UInt8)] [(7
 :UInt8),(7:UInt8),(7:UInt8),(7:UInt8),(7:UInt8),(7:UInt8),(7:UInt8),(7:UInt8),(7:UInt8),(7:UInt8),(7:UInt8),(7:UInt8),(7:UInt8),(7:UInt8),
 (7:UInt8),(7:UInt8),(7:UInt8),(7:UInt8),(7:UInt8),(7:UInt8),(7:UInt8),(7:UInt8),(7:UInt8),(7:UInt8),(7:UInt8),(7:UInt8),(7:UInt8),(7:
 UInt8),(7:UInt8),(7:UInt8),(7:UInt8),(7:UInt8),(7:UInt8),(7:UInt8),(7:UInt8),(7:UInt8),(7:UInt8),(7:UInt8),(7:UInt8),(7:UInt8),(7:UInt8),(7
 :UInt8),(7:UInt8),(7:UInt8),(7:UInt8),(7:UInt8),(7:UInt8),(7:UInt8),(7:UInt8),(7:UInt8),(7:UInt8),(7:UInt8),(7:UInt8),(7:UInt8),(7:UInt8),
 (7:UInt8),(7:UInt8),(7:UInt8),(7:UInt8),(7:UInt8),(7:UInt8),(7:UInt8),(7:UInt8),(7:UInt8)]) (jz [(8:UInt8),(8:UInt8),(8:UInt8),(8:
 UInt8),(8:UInt8),(8:UInt8),(8:UInt8),(8:UInt8),(8:UInt8),(8:UInt8),(8:UInt8),(8:UInt8),(8:UInt8),(8:UInt8),(8:UInt8),(8:UInt8),(8:UInt8),(8
 :UInt8),(8:UInt8),(8:UInt8),(8:UInt8),(8:UInt8),(8:UInt8),(8:UInt8),(8:UInt8),(8:UInt8),(8:UInt8),(8:UInt8),(8:UInt8),(8:UInt8),(8:UInt8),
 (8:UInt8),(8:UInt8),(8:UInt8),(8:UInt8),(8:UInt8),(8:UInt8),(8:UInt8),(8:UInt8),(8:UInt8),(8:UInt8),(8:UInt8),(8:UInt8),(8:UInt8),(8:
 UInt8),(8:UInt8),(8:UInt8),(8:UInt8),(8:UInt8),(8:UInt8),(8:UInt8),(8:UInt8),(8:UInt8),(8:UInt8),(8:UInt8),(8:UInt8),(8:UInt8),(8:UInt8),(8
 :UInt8),(8:UInt8),(8:UInt8),(8:UInt8),(8:UInt8),(8:UInt8)] [(8:UInt8),(8:UInt8),(8:UInt8),(8:UInt8),(8:UInt8),(8:UInt8),(8:UInt8),(8:UInt8),
 (8:UInt8),(8:UInt8),(8:UInt8),(8:UInt8),(8:UInt8),(8:UInt8),(8:UInt8),(8:UInt8),(8:UInt8),(8:UInt8),(8:UInt8),(8:UInt8),(8:UInt8),(8:
 UInt8),(8:UInt8),(8:UInt8),(8:UInt8),(8:UInt8),(8:UInt8),(8:UInt8),(8:UInt8),(8:UInt8),(8:UInt8),(8:UInt8),(8:UInt8),(8:UInt8),(8:UInt8),(8
 :UInt8),(8:UInt8),(8:UInt8),(8:UInt8),(8:UInt8),(8:UInt8),(8:UInt8),(8:UInt8),(8:UInt8),(8:UInt8),(8:UInt8),(8:UInt8),(8:UInt8),(8:UInt8),
 (8:UInt8),(8:UInt8),(8:UInt8),(8:UInt8),(8:UInt8),(8:UInt8),(8:UInt8),(8:UInt8),(8:UInt8),(8:UInt8),(8:UInt8),(8:UInt8),(8:UInt8),(8:
 UInt8),(8:UInt8)]))))
theorem Z3u(x:Int) (q:Int):Zk E F0 (vc E F0 400) 109 [.int ae .u64 x] hp0 0 (λr=>ret E (patch hp0 0 r) r.v (.int ae .i64 q))=(
 (decide (x>=4294967296)=af->(decide (aB x (2^min (ag 32) (ak aA))>=65536)=af->(decide (aB
 (aB x (2^min (ag 32) (ak aA))) (2^min (ag 16) (ak aA))>=256)=af->(0:
 Int)<=wr ax (aB (aB (aB x (2^min (ag 32) (ak aA))) (2^min (ag 16) (ak
 aA))) (2^min (ag 8) (ak aA)))/\wr ax (aB (aB (aB x (2^min (ag 32)
 (ak aA))) (2^min (ag 16) (ak aA))) (2^min (ag 8) (ak aA)))+1<=
 (↑(ab len8L):Int)/\∀(j:Nat),len8L[ag (wr ax (aB (aB (aB x (2^min (ag 32) (ak aA)))
 (2^min (ag 16) (ak aA))) (2^min (ag 8) (ak aA))))]? =ah j->wr ac (56
 +wr ac (↑j:Int))=q)/\(decide (aB (aB x (2^min (ag 32) (ak aA))) (2^min (ag 16)
 (ak aA))>=256)=ae->0<=wr ax (aB (aB x (2^min (ag 32) (ak aA))) (2
 ^min (ag 16) (ak aA)))/\wr ax (aB (aB x (2^min (ag 32) (ak aA))) (2^
 min (ag 16) (ak aA)))+1<=(↑(ab len8L):Int)/\∀(j:Nat),len8L[ag (wr ax (aB (aB x (2
 ^min (ag 32) (ak aA))) (2^min (ag 16) (ak aA))))]? =ah j->wr ac (48+wr
 ac (↑j:Int))=q))/\(decide (aB x (2^min (ag 32) (ak aA))>=65536)=ae->(decide (aB x (2
 ^min (ag 32) (ak aA))>=256)=af->0<=wr ax (aB (aB x (2^min (ag 32)
 (ak aA))) (2^min (ag 8) (ak aA)))/\wr ax (aB (aB x (2^min (ag 32)
 (ak aA))) (2^min (ag 8) (ak aA)))+1<=(↑(ab len8L):Int)/\∀(j:Nat),len8L[ag (wr
 ax (aB (aB x (2^min (ag 32) (ak aA))) (2^min (ag 8) (ak aA))))]? =ah
 j->wr ac (40+wr ac (↑j:Int))=q)/\(decide (aB x (2^min (ag 32) (ak aA))>=256)=
 ae->0<=wr ax (aB x (2^min (ag 32) (ak aA)))/\wr ax (aB x (2^min (ag (32:
 Int)) (ak aA)))+1<=(↑(ab len8L):Int)/\∀(j:Nat),len8L[ag (wr ax (aB x (2^min (ag 32)
 (ak aA))))]? =ah j->wr ac (32+wr ac (↑j:Int))=q)))/\(decide (x>=4294967296)=ae->(decide (x>=(65536:
 Int))=af->(decide (aB x (2^min (ag 16) (ak aA))>=256)=af->0<=wr ax (aB (aB x ((2:
 Int)^min (ag 16) (ak aA))) (2^min (ag 8) (ak aA)))/\wr ax (aB (aB x (2
 ^min (ag 16) (ak aA))) (2^min (ag 8) (ak aA)))+1<=(↑(ab len8L):Int)/\∀(j:
 Nat),len8L[ag (wr ax (aB (aB x (2^min (ag 16) (ak aA))) (2^min (ag 8) (ak
 aA))))]? =ah j->wr ac (24+wr ac (↑j:Int))=q)/\(decide (aB x (2^min (ag 16) (ak
 aA))>=256)=ae->0<=wr ax (aB x (2^min (ag 16) (ak aA)))/\wr ax (aB x ((2:
 Int)^min (ag 16) (ak aA)))+1<=(↑(ab len8L):Int)/\∀(j:Nat),len8L[ag (wr ax (aB x (2^
 min (ag 16) (ak aA))))]? =ah j->wr ac (16+wr ac (↑j:Int))=q))/\(decide (x>=65536)=ae->
 (decide (x>=256)=af->0<=wr ax (aB x (2^min (ag 8) (ak aA)))/\wr ax (aB x (2
 ^min (ag 8) (ak aA)))+1<=(↑(ab len8L):Int)/\∀(j:Nat),len8L[ag (wr ax (aB x (2^min
 (ag 8) (ak aA))))]? =ah j->wr ac (8+wr ac (↑j:Int))=q)/\(decide (x>=256)=ae->0<=
 wr ax x/\wr ax x+1<=(↑(ab len8L):Int)/\∀(j:Nat),len8L[ag (wr ax x)]? =ah j->wr ac (0+wr
 ac (↑j:Int))=q)))
 ):=by kernel_rfl
theorem Ybn(x:Int):aB x (2^min (ag 32) (ak aA))=x/4294967296:=cR _ (by decide)
theorem Ybo(x:Int):aB x (2^min (ag 16) (ak aA))=x/65536:=cR _ (by decide)
theorem Ych(x:Int):aB x (2^min (ag 8) (ak aA))=x/256:=cR _ (by decide)
theorem wu8q(n:Int) (h:0<=n) (j:n<256):wr .u8 n=n:=by
 show eZ .u8 n=n;simp[eZ,ak,fo];omega
def blen(n:Nat):Nat:=if n=0 then 0 else n.log2+1
set_option maxRecDepth 100000 in
theorem Z3v:∀k,k<256->len8L[k]? =ah (blen k):=by decide+kernel
theorem Zzy:len8L.length=256:=by decide+kernel
theorem Zt6{n k:Nat} (c:Nat) (h:n/2^c=k) (j:k≠0):blen n=c+blen k:=by
 have R:0<2^c:=iL c;have J:n≠0:=by rintro rfl;simp at h;exact j h.symm
 unfold blen;rw[jb J,jb j];have:n.log2=k.log2+c:=by
  rw[Nat.log2_eq_iff J];have t:=Nat.log2_self_le j;have I:k<2^(k.log2+1):=(jE j).1 (fx _);refine⟨?_,?_⟩
  ·rw[kR]
   rw[<-h] at t⊢;exact(jA R).1 t
  ·rw[show k.log2+c+1=k.log2+1+c by omega,kR]
   rw[<-h] at I⊢;exact(ga R).1 I
 omega
theorem Z9b{n b:Nat} (h:n<2^b):blen n<=b:=by
 unfold blen;split
 ·omega
 ·rename_i j
  have:=(jE j).2 h;omega
theorem Z3w{k y:Nat} (j:k<256) (h:len8L[k]? =ah y):y=blen k:=by
 rw[Z3v k j] at h;exact(aU h).symm
theorem Z3x{n k y c:Nat} (j:n/2^c=k) (I:k<256) (J:k≠0\/c=0) (t:len8L[k]? =ah y) (U:c<=56):wr .i64 ((c:Int)+wr .i64 (y:Int))=blen n:=by
 have t:=Z3w I t;subst t;have R:blen k<=8:=Z9b I;rw[wr64 (n:=(blen k:Int)) (by omega) (by omega),wr64 (by omega) (by omega)];rcases J with h|rfl
 ·rw[Zt6 c j h];simp
 ·rw[Nat.pow_zero,Nat.div_one] at j;rw[j];simp
theorem Z3y(n:Nat) (h:n<18446744073709551616):PureC E 109 [.int ae .u64 (n:Int)] (.int ae .i64 (blen n)):=by
 refine Za E_ok (Zb E_ok F0_ok 400) ?_;rw[Z3u];simp only[Ybn,Ybo,Ych,Zzy,fw,fk];have leaf:∀(c k:Nat) (K:Int),K=(k:Int)->n/2^c=k->k<256->(k≠0\/c=0)->c<=56->∀C:Int,C=(c:Int)->0<=wr .u8 K/\wr .u8 K+1<=((256:Nat):Int)/\∀y:Nat,len8L[ag (wr .u8 K)]? =ah y->wr .i64 (C+wr .i64 (y:Int))=(blen n:Int):=by
  intro c k K R U hk a1 a0 C J;subst R J;rw[wu8q _ (by omega) (by omega)];exact⟨by omega,by omega,λy hy=>Z3x U hk a1 hy a0⟩
 refine⟨λI=>⟨λt=>⟨λj=> ?_,λj=> ?_⟩,λt=>⟨λj=> ?_,λj=> ?_⟩⟩,λI=>⟨λt=>⟨λj=> ?_,λj=> ?_⟩,λt=>⟨λj=> ?_,λj=> ?_⟩⟩⟩
 ·exact leaf 56 (n/2^56) _ (by omega) rfl (by omega) (.inl (by omega)) (by omega) _ rfl
 ·exact leaf 48 (n/2^48) _ (by omega) rfl (by omega) (.inl (by omega)) (by omega) _ rfl
 ·exact leaf 40 (n/2^40) _ (by omega) rfl (by omega) (.inl (by omega)) (by omega) _ rfl
 ·exact leaf 32 (n/2^32) _ (by omega) rfl (by omega) (.inl (by omega)) (by omega) _ rfl
 ·exact leaf 24 (n/2^24) _ (by omega) rfl (by omega) (.inl (by omega)) (by omega) _ rfl
 ·exact leaf 16 (n/2^16) _ (by omega) rfl (by omega) (.inl (by omega)) (by omega) _ rfl
 ·exact leaf 8 (n/2^8) _ (by omega) rfl (by omega) (.inl (by omega)) (by omega) _ rfl
 ·exact leaf 0 n _ (by omega) (by simp) (by omega) (.inr rfl) (by omega) _ rfl
end
section
open Go Go.RowKit
noncomputable def Yao:Sum thy:=Ub (.cons (dInt (E:=E2) .u64) .nil) (λx=>0<=x.1/\x.1<18446744073709551616) (λx=>blen x.1.toNat) λ(y:Nat)=> .int ae .i64 (y:Int)
theorem Z2h:SumOk E2 109 Yao:=Yn Zd (Ze rfl) λx h=>by
 obtain⟨a,_⟩:=x;obtain⟨j,t⟩:=h;dsimp only at j t;obtain⟨n,rfl⟩:=de j;exact up2 (Z3y n (by omega))
noncomputable def Yap:Sum thy:=Yh E2 gthV 4 (.cons (Z9g E2) .nil) (λx=>PartsOk x.1) (λx=>shaF x.1.flatten) Zm
theorem Z2i:SumOk E2 142 Yap:=Zl Zd (Ze (f:=142) rfl) λx h=>by
 obtain⟨⟨p,r,j,t⟩,I,J⟩:=h;exact Zq2 x.1 p r j t I J
noncomputable def FQ0:Fns thy:=addS (addS F0 109 Yao) 142 Yap
theorem Zxn:FnsOk E2 FQ0:=Zc (Zc Z7 Z2h) Z2i
theorem Znr(n:Int) (v:Int):Zk E2 FQ0 (vc E2 FQ0 400) 58 [.int ae .i64 n] hp0 0 (λr=>ret E2 (patch hp0 0 r) r.v (.int ae .i64 v))=(
∃(Q:Bool->Prop),((decide (n<0)=af->Q af)/\(decide (n<0)=ae->(decide (n>65536)=af->Q af)/\(decide (n>65536)=ae->Q ae)))/\(Q af->(-1:Int)=v)/\(Q ae->(0<=wr aA (wr ac (mm2 af n 1-1))/\wr aA (wr ac (mm2 af n 1-1))+(1:Int)<=18446744073709551616)/\∀(y:Nat),y=blen (ag (wr aA (wr ac (mm2 af n 1-1))))->(↑y:Int)=v)):=by kernel_rfl
abbrev qDA1:=(0:Int)
theorem Zxo(d:List Int):Zk E2 FQ0 (vc E2 FQ0 400) 106 [] hp0 0 (λr=>ret E2 (patch hp0 0 r) r.v (Zm d))=(
 PartsOk [[3],[(↑(112:Nat):Int),(↑(97:Nat):Int),(↑(100:Nat):Int)],[]]/\∀(y:List Int),y=shaF (eE [[3],[(↑(112:Nat):Int),(↑(97:Nat):Int),(↑(100:Nat):Int)],[]])->aa y 0 qDA1=aa d 0 qDA1/\aa y 1 qDA1=aa d 1 qDA1/\aa y 2 qDA1=aa d 2 qDA1/\aa y 3 qDA1=aa d 3 qDA1/\aa y 4 qDA1=aa d 4 qDA1/\aa y 5 qDA1=aa d 5 qDA1/\aa y 6 qDA1=aa d 6 qDA1/\aa y 7 qDA1=aa d 7 qDA1/\aa y 8 qDA1=aa d 8 qDA1/\aa y 9 qDA1=aa d 9 qDA1/\aa y 10 qDA1=aa d 10 qDA1/\aa y 11 qDA1=aa d 11 qDA1/\aa y 12 qDA1=aa d 12 qDA1/\aa y 13 qDA1=aa d 13 qDA1/\aa y 14 qDA1=aa d 14 qDA1/\aa y 15 qDA1=aa d 15 qDA1/\aa y 16 qDA1=aa d 16 qDA1/\aa y 17 qDA1=aa d 17 qDA1/\aa y 18 qDA1=aa d 18 qDA1/\aa y 19 qDA1=aa d 19 qDA1/\aa y 20 qDA1=aa d 20 qDA1/\aa y 21 qDA1=aa d 21 qDA1/\aa y 22 qDA1=aa d 22 qDA1/\aa y 23 qDA1=aa d 23 qDA1/\aa y 24 qDA1=aa d 24 qDA1/\aa y 25 qDA1=aa d 25 qDA1/\aa y 26 qDA1=aa d 26 qDA1/\aa y 27 qDA1=aa d 27 qDA1/\aa y 28 qDA1=aa d 28 qDA1/\aa y 29 qDA1=aa d 29 qDA1/\aa y 30 qDA1=aa d 30 qDA1/\aa y 31 qDA1=aa d 31 qDA1/\True):=by kernel_rfl
abbrev qDA5:=(0:Nat)
abbrev qDA4:=(0:Int)
abbrev qDA3(j:List Int):=(aj qDA5 []++ [aa j qDA5 qDA4,aa j (1:Nat) qDA4,aa j (2:Nat) qDA4,aa j (3:Nat) qDA4,aa j (4:Nat) qDA4,aa j (5:Nat) qDA4,aa j (6:Nat) qDA4,aa j (7:Nat) qDA4,aa j (8:Nat) qDA4,aa j (9:Nat) qDA4,aa j (10:Nat) qDA4,aa j (11:Nat) qDA4,aa j (12:Nat) qDA4,aa j (13:Nat) qDA4,aa j (14:Nat) qDA4,aa j (15:Nat) qDA4,aa j (16:Nat) qDA4,aa j (17:Nat) qDA4,aa j (18:Nat) qDA4,aa j (19:Nat) qDA4,aa j (20:Nat) qDA4,aa j (21:Nat) qDA4,aa j (22:Nat) qDA4,aa j (23:Nat) qDA4,aa j (24:Nat) qDA4,aa j (25:Nat) qDA4,aa j (26:Nat) qDA4,aa j (27:Nat) qDA4,aa j (28:Nat) qDA4,aa j (29:Nat) qDA4,aa j (30:Nat) qDA4,aa j (31:Nat) qDA4])
abbrev qDA2(t:List Int) (j:List Int):=(aj (qDA5+(32:Nat)) (qDA3 t)++ [aa j qDA5 qDA4,aa j (1:Nat) qDA4,aa j (2:Nat) qDA4,aa j (3:Nat) qDA4,aa j (4:Nat) qDA4,aa j (5:Nat) qDA4,aa j (6:Nat) qDA4,aa j (7:Nat) qDA4,aa j (8:Nat) qDA4,aa j (9:Nat) qDA4,aa j (10:Nat) qDA4,aa j (11:Nat) qDA4,aa j (12:Nat) qDA4,aa j (13:Nat) qDA4,aa j (14:Nat) qDA4,aa j (15:Nat) qDA4,aa j (16:Nat) qDA4,aa j (17:Nat) qDA4,aa j (18:Nat) qDA4,aa j (19:Nat) qDA4,aa j (20:Nat) qDA4,aa j (21:Nat) qDA4,aa j (22:Nat) qDA4,aa j (23:Nat) qDA4,aa j (24:Nat) qDA4,aa j (25:Nat) qDA4,aa j (26:Nat) qDA4,aa j (27:Nat) qDA4,aa j (28:Nat) qDA4,aa j (29:Nat) qDA4,aa j (30:Nat) qDA4,aa j (31:Nat) qDA4])
abbrev qDA6:=(qDA5+(32:Nat)+(32:Nat))
theorem Zxp(a b:List Int) (d:List Int):Zk E2 FQ0 (vc E2 FQ0 400) 107 [Zm a,Zm b] hp0 0 (λr=>ret E2 (patch hp0 0 r) r.v (Zm d))=(
 (qDA4<=64/\(↑(1:Nat):Int)*(64:Int)<=281474976710656)/\(qDA5<=qDA5/\qDA5<=qDA5/\(qDA5+32)*1<=140737488355328)/\(qDA5+32<=ab (qDA3 a)/\qDA5<=qDA5+32/\qDA6*1<=140737488355328)/\qDA5+qDA6<=ab (qDA2 a b)/\PartsOk [[4],[(↑(110:Nat):Int),(↑(111:Nat):Int),(↑(100:Nat):Int),(↑(101:Nat):Int)],aj qDA6 (aV qDA5 (qDA2 a b))]/\∀(y:List Int),y=shaF (eE [[4],[(↑(110:Nat):Int),(↑(111:Nat):Int),(↑(100:Nat):Int),(↑(101:Nat):Int)],aj qDA6 (aV qDA5 (qDA2 a b))])->aa y qDA5 qDA4=aa d qDA5 qDA4/\aa y 1 qDA4=aa d 1 qDA4/\aa y 2 qDA4=aa d 2 qDA4/\aa y 3 qDA4=aa d 3 qDA4/\aa y 4 qDA4=aa d 4 qDA4/\aa y 5 qDA4=aa d 5 qDA4/\aa y 6 qDA4=aa d 6 qDA4/\aa y 7 qDA4=aa d 7 qDA4/\aa y 8 qDA4=aa d 8 qDA4/\aa y 9 qDA4=aa d 9 qDA4/\aa y 10 qDA4=aa d 10 qDA4/\aa y 11 qDA4=aa d 11 qDA4/\aa y 12 qDA4=aa d 12 qDA4/\aa y 13 qDA4=aa d 13 qDA4/\aa y 14 qDA4=aa d 14 qDA4/\aa y 15 qDA4=aa d 15 qDA4/\aa y 16 qDA4=aa d 16 qDA4/\aa y 17 qDA4=aa d 17 qDA4/\aa y 18 qDA4=aa d 18 qDA4/\aa y 19 qDA4=aa d 19 qDA4/\aa y 20 qDA4=aa d 20 qDA4/\aa y 21 qDA4=aa d 21 qDA4/\aa y 22 qDA4=aa d 22 qDA4/\aa y 23 qDA4=aa d 23 qDA4/\aa y 24 qDA4=aa d 24 qDA4/\aa y 25 qDA4=aa d 25 qDA4/\aa y 26 qDA4=aa d 26 qDA4/\aa y 27 qDA4=aa d 27 qDA4/\aa y 28 qDA4=aa d 28 qDA4/\aa y 29 qDA4=aa d 29 qDA4/\aa y 30 qDA4=aa d 30 qDA4/\aa y 31 qDA4=aa d 31 qDA4/\True):=by kernel_rfl
theorem Uu(d:List Int):(n32 d).length=32:=by simp[n32]
noncomputable def mPad:List Int:=n32 (shaF (eE [[(3:Int)],[((112:Nat):Int),((97:Nat):Int),((100:Nat):Int)],[]]))
noncomputable def mP(a b:List Int):List Int:=n32 (shaF (eE [[(4:Int)],[((110:Nat):Int),((111:Nat):Int),((100:Nat):Int),((101:Nat):Int)],n32 a++n32 b]))
def depM(n:Nat):Nat:=blen (max n 1-1)
theorem Zxq:PureC E2 106 [] (Zm mPad):=by
 refine Za Zd (Zb Zd Zxn 400) ?_;rw[Zxo];delta qDA1;refine⟨⟨⟨_,_,rfl,by simp⟩,by decide,by decide⟩,λy j=> ?_⟩;rw[j];unfold mPad;generalize shaF _=z
 repeat' (first|exact rfl|exact js|apply aK)
theorem Zxr(a b:List Int):PureC E2 107 [Zm a,Zm b] (Zm (mP a b)):=by
 refine Za Zd (Zb Zd Zxn 400) ?_;rw[Zxp];delta qDA5 qDA4 qDA3 qDA2 qDA6;obtain⟨z,I⟩:∃z,shaF (eE [[4],[((110:Nat):Int),((111:Nat):Int),((100:Nat):Int),((101:Nat):Int)],n32 a++n32 b])=z:=⟨_,rfl⟩;have j:mP a b=n32 z:=by unfold mP;rw[I]
 rw[j];rw[<-n32x a,<-n32x b];have J:=Uu a;have R:=Uu b;clear j;generalize n32 a=A at*;generalize n32 b=B at*;have U:aj 0 ([]:List Int)++A=A:=rfl;have e2:aj (0+32) A=A:=aN (by omega);have e3:aj (0+32+32) (aV 0 (A++B))=A++B:=by
  rw[List.drop_zero];exact aN (by rw[aO];omega)
 rw[U,e2,e3,aO,J,R];refine⟨⟨by omega,by decide⟩,⟨by omega,by omega,by omega⟩,⟨by omega,by omega,by omega⟩,by omega,⟨⟨_,_,rfl,by simp⟩,?_,by simp⟩,λy t=> ?_⟩
 ·simp[J,R]
 rw[I] at t;subst t
 repeat' (first|exact rfl|exact js|apply aK)
theorem Zns(n:Nat) (h:n<=65536):PureC E2 58 [.int ae .i64 (n:Int)] (.int ae .i64 (depM n:Int)):=by
 refine Za Zd (Zb Zd Zxn 400) ?_;rw[Znr];have e:wr .u64 (wr .i64 (mm2 af (n:Int) 1-1))=((max n 1-1:Nat):Int):=by
  rw[Zx,wr64 (by omega) (by omega)];show eZ .u64 _=_;rw[dj];omega
 rw[e];refine⟨λb=>b=ae,⟨λk=>jv (iK k) (by omega),λ_=>⟨λk=>jv (iK k) (by omega),λ_=>rfl⟩⟩,λk=>(by cases k),λ_=>⟨⟨by omega,by omega⟩,λy j=> ?_⟩⟩;rw[j,bB];rfl
theorem Z7c(n:Nat):n<=2^depM n:=by
 unfold depM blen;split
 ·have:=iL 0;simp;omega
 ·rename_i h
  have:=(jE h).1 (fx _);omega
theorem Yaq(a b:List Int):n32 (mP a b)=mP a b:=Zcx _
theorem mP_l(a b:List Int):mP (n32 a) b=mP a b:=by unfold mP;rw[Zcx]
theorem mP_r(a b:List Int):mP a (n32 b)=mP a b:=by unfold mP;rw[Zcx]
end
section
open Go
section
variable (P:List Int->List Int->List Int) (pad:List Int)
def mAt(row:List (List Int)) (k:Nat) (p:List Int):List Int:=(row[k]?).getD p
def Wk(row:List (List Int)) (p:List Int):List (List Int):=(cy ((row.length+1)/2)).map λk=>P (mAt row (2*k) p) (mAt row (2*k+1) p)
def mPd:Nat->List Int
 |0=>pad
 |j+1=>P (mPd j) (mPd j)
def mRow(L:List (List Int)):Nat->List (List Int)
 |0=>L
 |j+1=>Wk P (mRow L j) (mPd P pad j)
def Zdw(L:List (List Int)) (d:Nat):List Int:=mAt (mRow P pad L d) 0 (mPd P pad d)
variable {P pad}
theorem Zb5(row:List (List Int)) (p:List Int):(Wk P row p).length=(row.length+1)/2:=by simp[Wk]
theorem Zvx(row:List (List Int)) (p:List Int) (k:Nat):(Wk P row p)[k]? =if k<(row.length+1)/2 then ah (P (mAt row (2*k) p) (mAt row (2*k+1) p)) else none:=by
 unfold Wk;rw[cw];split
 ·rw[fv ‹_›];rfl
 ·rw[eH (by rw[hC];omega)];rfl
end
end
section
open Go Go.RowKit
noncomputable def Z9n:Sum thy:=Yh E2 gthV 10 .nil (λ_=>True) (λ_=>mPad) Zm
noncomputable def Z9o:Sum thy:=Yh E2 gthV 10 (.cons (dDig E2) (.cons (dDig E2) .nil)) (λ_=>True) (λx=>mP x.1 x.2.1) Zm
noncomputable def Z5s:Sum thy:=Yh E2 gthV 10 (.cons dI2 .nil) (λx=>0<=x.1/\x.1<=65536) (λx=>depM x.1.toNat) λ(y:Nat)=> .int ae .i64 (y:Int)
noncomputable def FR0:Fns thy:=addS (addS (addS F0 106 Z9n) 107 Z9o) 58 Z5s
theorem Z0z:SumOk E2 106 Z9n:=Zl Zd (Ze rfl) λx _=>Zxq
theorem Z00:SumOk E2 107 Z9o:=Zl Zd (Ze rfl) λx _=>Zxr x.1 x.2.1
theorem Zpq:SumOk E2 58 Z5s:=Zl Zd (Ze rfl) λx h=>by
 obtain⟨a,_⟩:=x;obtain⟨j,t⟩:=h;dsimp only at j t;obtain⟨n,rfl⟩:=de j;exact Zns n (by omega)
theorem Z9p:FnsOk E2 FR0:=Zc (Zc (Zc Z7 Z0z) Z00) Zpq
structure MlX where
 row:List (List Int)
 pad:List Int
 d:List Int
 p:List (List Int)
 k:Nat
 r:Nat
def capN:SV thy->Nat->SV thy| .fn _ _ cs,j=>cs.getD j .unk|_,_=> .unk
def Anl1:Fr thy->Hp thy->Nat->Ann thy:=λT h i=>{X:=Bool×MlX,fr:=λx=> [(2,T 2),(6,match x.1 with|true=> .sl i 0 x.2.row.length 32 aD|false=> .psl dD x.2.row ae),(7,T 7),(14,T 14),(15,.int ae .i64 x.2.k)],bl:=λx=>(bOf (T 7),.raw (Zm x.2.pad).cells 0 aD)::(bOf (capN (T 2) 2),.raw (Zm x.2.d).cells 0 aD)::((match x.1 with|true=> [(i,.rows dD x.2.row 0)]|false=> [])++(blkP h (capN (T 2) 0)++blkP h (capN (T 2) 1))),src:=λx=>(match x.1 with|true=> [(i,6)]|false=> []),md:= [bOf (T 7),bOf (capN (T 2) 2)],ih:=i+1,M:=i+80,meas:=λx=>x.2.r,ex:=ex2,al:=al2,exOk:=Z4i,alOk:=Z4j}
def Anl2:Fr thy->Hp thy->Nat->Ann thy:=λT h i=>{X:=MlX,fr:=λx=> [(2,T 2),(6,T 6),(7,T 7),(9,.sl i 0 x.row.length 32 aD),(10,.int ae .i64 x.k),(14,T 14),(15,T 15)],bl:=λx=>(i,.rows dD x.row 0)::(blkS h (T 6)++blkP h (T 7)++blkP h (capN (T 2) 0)++blkP h (capN (T 2) 1)++blkP h (capN (T 2) 2)),src:=λ_=> [(i,9)],md:= [bOf (T 9)],ih:=i+1,M:=i+60,meas:=λx=>x.r}
noncomputable def Fnod:Fns thy:=addL (addL FR0 80 2 Anl1 E2) 80 7 Anl2 E2
theorem Zu9(L:List (List Int)) (j k:Int) (d:List Int) (b:Bool):Zk E2 Fnod (vc E2 Fnod 400) 57 [.psl dD L ae,.int ae .i64 j,.int ae .i64 k] hp0 0 (λr=>ret E2 (patch hp0 0 r) r.v (.tup [Zm d,.bool ae b]))=(
 (decide ((↑(ab L):Int)>65536)=af->(z32q d)/\ae=b/\True)/\(decide ((↑(ab L):Int)>65536)=ae->(decide (j<0)=
 af->(z32q d)/\ae=b/\True)/\(decide (j<0)=ae->(decide (j>16)=af->(z32q d)/\ae=b/\True)/\(decide (j>16)=ae->(decide
 (k<0)=af->(z32q d)/\ae=b/\True)/\(decide (k<0)=ae->0<=wr ac (16-j)/\(decide (k>=wr ac (1*(2
 :Int)^min (ag (wr ac (16-j))) (ak ac)))=af->(z32q d)/\ae=b/\True)/\(decide (k>=wr ac (1*2^
 min (ag (wr ac (16-j))) (ak ac)))=ae->True/\∀(y:List Int),y=mPad->∃(R:Bool×MlX->Prop),((∃(J:MlX),R (ae,
 J)/\af=af/\((cg 81=cg 81/\True/\0=0/\0=0/\(0:
 Nat)=0/\True)/\(L=MlX.row J/\(ae=af->ae=af))/\0=0/\wr ac (j+1)=wr ac (j+1)/\0
 =(↑(MlX.k J):Int)/\True)/\(e32q y (MlX.pad J))/\(z32q (MlX.d J))/\(j=j/\True)/\(k=k/\True)/\True)\/∃(y:MlX),R (af,y)/\af=af/\False)/\(∀(y:
 MlX),R (ae,y)->(decide ((↑(MlX.k y):Int)<wr ac (j+1))=af->(((↑(MlX.k y):Int)==j)=af->(decide (k<(↑(ab (MlX.row y)):Int))=
 af->0<=k/\k+1<=(↑(ab (MlX.row y)):Int)/\∀(x:List Int),(MlX.row y)[ag k]? =ah x->(0<=wr ac (eN (wr
 ac ((↑(ab (MlX.row y)):Int)+1)) 2)/\(↑(32:Nat):Int)*wr ac (eN (wr ac ((↑(ab (MlX.row y)):Int)+(1:
 Int))) 2)<=281474976710656)/\∃(a1:MlX->Prop),(∃(t:MlX),a1 t/\af=af/\((cg 81=cg
 81/\True/\0=0/\0=0/\0=0/\True)/\(MlX.row y=MlX.row y/\(ae=af->ae=
 af))/\0=0/\(0=0/\0=ab (MlX.row t)/\True)/\0=(↑(MlX.k t):Int)/\wr ac (j+1)=wr
 ac (j+1)/\(↑(MlX.k y):Int)=(↑(MlX.k y):Int)/\True)/\([]=MlX.row t/\0=0)/\(e32q (MlX.pad y) (MlX.pad y))/\(j=j/\True)/\(k
 =k/\True)/\(e32q x x)/\True)/\∀(t:MlX),a1 t->(decide ((↑(MlX.k t):Int)<(↑(ab (MlX.row y)):Int))=af->0<=(↑(MlX.k t):Int)/\(↑(MlX.k
 t):Int)+1<=(↑(ab (MlX.row y)):Int)/\∀(U:List Int),(MlX.row y)[ag (↑(MlX.k t):Int)]? =ah U->(decide (wr ac ((↑(MlX.k t)
 :Int)+1)<(↑(ab (MlX.row y)):Int))=af->0<=wr ac ((↑(MlX.k t):Int)+1)/\wr ac ((↑(MlX.k t):Int)+1)
 +1<=(↑(ab (MlX.row y)):Int)/\∀(a0:List Int),(MlX.row y)[ag (wr ac ((↑(MlX.k t):Int)+1))]? =ah a0->True/\∀(J:List
 Int),J=mP (n32q U) (n32q a0)->(ab (MlX.row t)<=ab (MlX.row t)/\0<=ab (MlX.row t)/\(ab (MlX.row t)+1)*(32
 :Nat)<=140737488355328)/\∃(a2:MlX),a1 a2/\a2.6+1<=t.6/\af=af/\((cg 81=cg 81/\True/\0=0/\(0
 :Nat)=0/\0=0/\True)/\(MlX.row y=MlX.row y/\(ae=af->ae=af))/\0=0/\(0=0/\ab (MlX.row
 t)+1=ab (MlX.row a2)/\True)/\wr ac ((↑(MlX.k t):Int)+2)=(↑(MlX.k a2):Int)/\wr ac (j+1)=wr ac
 (j+1)/\(↑(MlX.k y):Int)=(↑(MlX.k y):Int)/\True)/\(aj (ab (MlX.row t)) (MlX.row t)++ [(n32q J)]=MlX.row a2/\0=0)/\
 (e32q (MlX.pad y) (MlX.pad y))/\(j=j/\True)/\(k=k/\True)/\(e32q x x)/\True)/\(decide (wr ac ((↑(MlX.k t):Int)+1)<(↑(ab (MlX.row y)):
 Int))=ae->True/\∀(J:List Int),J=mP (n32q U) (n32q (MlX.pad y))->(ab (MlX.row t)<=ab (MlX.row t)/\0<=ab (MlX.row t)/\
 (ab (MlX.row t)+1)*32<=140737488355328)/\∃(a0:MlX),a1 a0/\a0.6+1<=t.6/\af=af/\((cg 81=cg
 81/\True/\0=0/\0=0/\0=0/\True)/\(MlX.row y=MlX.row y/\(ae=af->ae=af))/\0=0
 /\(0=0/\ab (MlX.row t)+1=ab (MlX.row a0)/\True)/\wr ac ((↑(MlX.k t):Int)+2)=(↑(MlX.k a0):Int)/\wr
 ac (j+1)=wr ac (j+1)/\(↑(MlX.k y):Int)=(↑(MlX.k y):Int)/\True)/\(aj (ab (MlX.row t)) (MlX.row t)++ [(n32q
 J)]=MlX.row a0/\0=0)/\(e32q (MlX.pad y) (MlX.pad y))/\(j=j/\True)/\(k=k/\True)/\(e32q x x)/\True))/\(decide ((↑(MlX.k t):Int)<
 (↑(ab (MlX.row y)):Int))=ae->True/\∀(J:List Int),J=mP (n32q (MlX.pad y)) (n32q (MlX.pad y))->(∃(I:MlX),R (ae,I)/\I.6+1<=y.6/\
 af=af/\((cg 81=cg 81/\True/\0=0/\0=0/\0=(0
 :Nat)/\True)/\False/\0=0/\wr ac (j+1)=wr ac (j+1)/\wr ac ((↑(MlX.k y):Int)+1)=(↑(MlX.k I)
 :Int)/\True)/\(e32q J (MlX.pad I))/\(e32q x (MlX.d I))/\(j=j/\True)/\(k=k/\True)/\True)\/∃(I:MlX),R (af,I)/\I.6+1<=y.6/\af=af
 /\((cg 81=cg 81/\True/\0=0/\0=0/\0=0/\
 True)/\(0=0/\ab (MlX.row t)=ab (MlX.row I)/\True)/\0=0/\wr ac (j+1)=wr ac (j+(1:
 Int))/\wr ac ((↑(MlX.k y):Int)+1)=(↑(MlX.k I):Int)/\True)/\(e32q J (MlX.pad I))/\(e32q x (MlX.d I))/\(MlX.row t=MlX.row I/\0=
 0)/\(j=j/\True)/\(k=k/\True)/\True))/\(decide (k<(↑(ab (MlX.row y)):Int))=ae->(0<=wr ac (eN (wr ac
 ((↑(ab (MlX.row y)):Int)+1)) 2)/\(↑(32:Nat):Int)*wr ac (eN (wr ac ((↑(ab (MlX.row y)):Int)+1)) (2:
 Int))<=281474976710656)/\∃(a1:MlX->Prop),(∃(x:MlX),a1 x/\af=af/\((cg 81=cg (81
 :Nat)/\True/\0=0/\0=0/\0=0/\True)/\(MlX.row y=MlX.row y/\(ae=af->ae=af))/\0=0/\
 (0=0/\0=ab (MlX.row x)/\True)/\0=(↑(MlX.k x):Int)/\wr ac (j+1)=wr ac (j+1)/\(↑(MlX.k
 y):Int)=(↑(MlX.k y):Int)/\True)/\([]=MlX.row x/\0=0)/\(e32q (MlX.pad y) (MlX.pad y))/\(j=j/\True)/\(k=k/\True)/\(e32q (MlX.pad y) (MlX.pad
 y))/\True)/\∀(x:MlX),a1 x->(decide ((↑(MlX.k x):Int)<(↑(ab (MlX.row y)):Int))=af->0<=(↑(MlX.k x):Int)/\(↑(MlX.k x):Int)+1<=
 (↑(ab (MlX.row y)):Int)/\∀(t:List Int),(MlX.row y)[ag (↑(MlX.k x):Int)]? =ah t->(decide (wr ac ((↑(MlX.k x):Int)+1)<
 (↑(ab (MlX.row y)):Int))=af->0<=wr ac ((↑(MlX.k x):Int)+1)/\wr ac ((↑(MlX.k x):Int)+1)+1<=
 (↑(ab (MlX.row y)):Int)/\∀(U:List Int),(MlX.row y)[ag (wr ac ((↑(MlX.k x):Int)+1))]? =ah U->True/\∀(J:List Int),J=mP
 (n32q t) (n32q U)->(ab (MlX.row x)<=ab (MlX.row x)/\0<=ab (MlX.row x)/\(ab (MlX.row x)+1)*32<=
 140737488355328)/\∃(a0:MlX),a1 a0/\a0.6+1<=x.6/\af=af/\((cg 81=cg 81/\True/\0=0/\0=
 0/\0=0/\True)/\(MlX.row y=MlX.row y/\(ae=af->ae=af))/\0=0/\(0=0/\ab (MlX.row x)+(1
 :Nat)=ab (MlX.row a0)/\True)/\wr ac ((↑(MlX.k x):Int)+2)=(↑(MlX.k a0):Int)/\wr ac (j+1)=wr ac (j+(1:
 Int))/\(↑(MlX.k y):Int)=(↑(MlX.k y):Int)/\True)/\(aj (ab (MlX.row x)) (MlX.row x)++ [(n32q J)]=MlX.row a0/\0=0)/\(e32q (MlX.pad y)
 (MlX.pad y))/\(j=j/\True)/\(k=k/\True)/\(e32q (MlX.pad y) (MlX.pad y))/\True)/\(decide (wr ac ((↑(MlX.k x):Int)+1)<(↑(ab (MlX.row y)):
 Int))=ae->True/\∀(J:List Int),J=mP (n32q t) (n32q (MlX.pad y))->(ab (MlX.row x)<=ab (MlX.row x)/\0<=ab (MlX.row x)/\
 (ab (MlX.row x)+1)*32<=140737488355328)/\∃(U:MlX),a1 U/\U.6+1<=x.6/\af=af/\((cg
 81=cg 81/\True/\0=0/\0=0/\0=0/\True)/\
 (MlX.row y=MlX.row y/\(ae=af->ae=af))/\0=0/\(0=0/\ab (MlX.row x)+1=ab (MlX.row U)/\True)/\
 wr ac ((↑(MlX.k x):Int)+2)=(↑(MlX.k U):Int)/\wr ac (j+1)=wr ac (j+1)/\(↑(MlX.k y):Int)=(↑(MlX.k y):Int)
 /\True)/\(aj (ab (MlX.row x)) (MlX.row x)++ [(n32q J)]=MlX.row U/\0=0)/\(e32q (MlX.pad y) (MlX.pad y))/\(j=j/\True)/\(k=k/\
 True)/\(e32q (MlX.pad y) (MlX.pad y))/\True))/\(decide ((↑(MlX.k x):Int)<(↑(ab (MlX.row y)):Int))=ae->True/\∀(J:List Int),J=mP (n32q (MlX.pad y))
 (n32q (MlX.pad y))->(∃(I:MlX),R (ae,I)/\I.6+1<=y.6/\af=af/\((cg 81=cg (81
 :Nat)/\True/\0=0/\0=0/\0=0/\True)/\False/\0=0/\wr ac (j+1)=wr ac (j
 +1)/\wr ac ((↑(MlX.k y):Int)+1)=(↑(MlX.k I):Int)/\True)/\(e32q J (MlX.pad I))/\(e32q (MlX.pad y) (MlX.d I))/\(j=j/\True)/\(k=
 k/\True)/\True)\/∃(I:MlX),R (af,I)/\I.6+1<=y.6/\af=af/\((cg 81=cg (81:
 Nat)/\True/\0=0/\0=0/\0=0/\True)/\(0=0/\ab (MlX.row x)=ab (MlX.row I)/\True)/\
 0=0/\wr ac (j+1)=wr ac (j+1)/\wr ac ((↑(MlX.k y):Int)+1)=(↑(MlX.k I):Int)/\True)/\(e32q
 J (MlX.pad I))/\(e32q (MlX.pad y) (MlX.d I))/\(MlX.row x=MlX.row I/\0=0)/\(j=j/\True)/\(k=k/\True)/\True)))/\(((↑(MlX.k y):Int)==j)
 =ae->(0<=wr ac (eN (wr ac ((↑(ab (MlX.row y)):Int)+1)) 2)/\(↑(32:Nat):Int)*wr ac (eN (wr
 ac ((↑(ab (MlX.row y)):Int)+1)) 2)<=281474976710656)/\∃(a1:MlX->Prop),(∃(x:MlX),a1 x/\af=af/\((cg
 81=cg 81/\True/\0=0/\0=0/\0=0/\True)/\
 (MlX.row y=MlX.row y/\(ae=af->ae=af))/\0=0/\(0=0/\0=ab (MlX.row x)/\True)/\0=(↑(MlX.k x):
 Int)/\wr ac (j+1)=wr ac (j+1)/\(↑(MlX.k y):Int)=(↑(MlX.k y):Int)/\True)/\([]=MlX.row x/\0=0)/\(e32q
 (MlX.pad y) (MlX.pad y))/\(j=j/\True)/\(k=k/\True)/\(e32q (MlX.d y) (MlX.d y))/\True)/\∀(x:MlX),a1 x->(decide ((↑(MlX.k x):Int)<(↑(ab (MlX.row y)):
 Int))=af->0<=(↑(MlX.k x):Int)/\(↑(MlX.k x):Int)+1<=(↑(ab (MlX.row y)):Int)/\∀(t:List Int),(MlX.row y)[ag (↑(MlX.k x):Int)]?
 =ah t->(decide (wr ac ((↑(MlX.k x):Int)+1)<(↑(ab (MlX.row y)):Int))=af->0<=wr ac ((↑(MlX.k x):Int)+1)/\
 wr ac ((↑(MlX.k x):Int)+1)+1<=(↑(ab (MlX.row y)):Int)/\∀(U:List Int),(MlX.row y)[ag (wr ac ((↑(MlX.k x):Int)+
 1))]? =ah U->True/\∀(J:List Int),J=mP (n32q t) (n32q U)->(ab (MlX.row x)<=ab (MlX.row x)/\0<=ab (MlX.row x)/\
 (ab (MlX.row x)+1)*32<=140737488355328)/\∃(a0:MlX),a1 a0/\a0.6+1<=x.6/\af=af/\((cg
 81=cg 81/\True/\0=0/\0=0/\0=0/\True)/\(MlX.row y=MlX.row y/\(ae=
 af->ae=af))/\0=0/\(0=0/\ab (MlX.row x)+1=ab (MlX.row a0)/\True)/\wr ac ((↑(MlX.k x):
 Int)+2)=(↑(MlX.k a0):Int)/\wr ac (j+1)=wr ac (j+1)/\(↑(MlX.k y):Int)=(↑(MlX.k y):Int)/\True)/\(aj
 (ab (MlX.row x)) (MlX.row x)++ [(n32q J)]=MlX.row a0/\0=0)/\(e32q (MlX.pad y) (MlX.pad y))/\(j=j/\True)/\(k=k/\True)/\(e32q (MlX.d y)
 (MlX.d y))/\True)/\(decide (wr ac ((↑(MlX.k x):Int)+1)<(↑(ab (MlX.row y)):Int))=ae->True/\∀(J:List Int),J=mP (n32q t) (n32q
 (MlX.pad y))->(ab (MlX.row x)<=ab (MlX.row x)/\0<=ab (MlX.row x)/\(ab (MlX.row x)+1)*32<=(140737488355328:
 Nat))/\∃(U:MlX),a1 U/\U.6+1<=x.6/\af=af/\((cg 81=cg 81/\True/\(0:
 Nat)=0/\0=0/\0=0/\True)/\(MlX.row y=MlX.row y/\(ae=af->ae=af))/\0=0/\(0=0
 /\ab (MlX.row x)+1=ab (MlX.row U)/\True)/\wr ac ((↑(MlX.k x):Int)+2)=(↑(MlX.k U):Int)/\wr ac (j+1)
 =wr ac (j+1)/\(↑(MlX.k y):Int)=(↑(MlX.k y):Int)/\True)/\(aj (ab (MlX.row x)) (MlX.row x)++ [(n32q J)]=MlX.row U/\0=(0
 :Nat))/\(e32q (MlX.pad y) (MlX.pad y))/\(j=j/\True)/\(k=k/\True)/\(e32q (MlX.d y) (MlX.d y))/\True))/\(decide ((↑(MlX.k x):Int)<(↑(ab (MlX.row y)):
 Int))=ae->True/\∀(J:List Int),J=mP (n32q (MlX.pad y)) (n32q (MlX.pad y))->(∃(I:MlX),R (ae,I)/\I.6+1<=y.6/\af=af/\((cg
 81=cg 81/\True/\0=0/\0=0/\0=0/\True)/\False/\
 0=0/\wr ac (j+1)=wr ac (j+1)/\wr ac ((↑(MlX.k y):Int)+1)=(↑(MlX.k I):Int)/\True)/\(e32q
 J (MlX.pad I))/\(e32q (MlX.d y) (MlX.d I))/\(j=j/\True)/\(k=k/\True)/\True)\/∃(I:MlX),R (af,I)/\I.6+1<=y.6/\af=af/\((cg
 81=cg 81/\True/\0=0/\0=0/\0=0/\True)/\((0:
 Nat)=0/\ab (MlX.row x)=ab (MlX.row I)/\True)/\0=0/\wr ac (j+1)=wr ac (j+1)/\wr
 ac ((↑(MlX.k y):Int)+1)=(↑(MlX.k I):Int)/\True)/\(e32q J (MlX.pad I))/\(e32q (MlX.d y) (MlX.d I))/\(MlX.row x=MlX.row I/\0=(0:
 Nat))/\(j=j/\True)/\(k=k/\True)/\True)))/\(decide ((↑(MlX.k y):Int)<wr ac (j+1))=ae->(e32q (MlX.d y) d)/\af=b/\True))/\∀(y:MlX),
 R (af,y)->(decide ((↑(MlX.k y):Int)<wr ac (j+1))=af->(((↑(MlX.k y):Int)==j)=af->(decide (k<(↑(ab (MlX.row y)):Int))=af->
 (0<=k/\k+1<=(↑(ab (MlX.row y)):Int))/\0+ag k+1<=ab (MlX.row y)/\∀(x:List Int),(MlX.row y)[0+
 ag k]? =ah x->(0<=wr ac (eN (wr ac ((↑(ab (MlX.row y)):Int)+1)) 2)/\(↑(32:Nat):Int)*wr ac
 (eN (wr ac ((↑(ab (MlX.row y)):Int)+1)) 2)<=281474976710656)/\∃(a1:MlX->Prop),(∃(t:MlX),a1 t/\af=af/\
 ((cg 81=cg 81/\True/\0=0/\0=0/\0=0/\True)
 /\(0=0/\ab (MlX.row y)=ab (MlX.row y)/\True)/\0=0/\(0=0/\0=ab (MlX.row t)/\
 True)/\0=(↑(MlX.k t):Int)/\wr ac (j+1)=wr ac (j+1)/\(↑(MlX.k y):Int)=(↑(MlX.k y):Int)/\True)/\([]=MlX.row t/\
 0=0)/\(MlX.row y=MlX.row y/\0=0)/\(e32q (MlX.pad y) (MlX.pad y))/\(j=j/\True)/\(k=k/\True)/\(e32q x x)/\True)/\∀(t:MlX),
 a1 t->(decide ((↑(MlX.k t):Int)<(↑(ab (MlX.row y)):Int))=af->(0<=(↑(MlX.k t):Int)/\(↑(MlX.k t):Int)+1<=(↑(ab
 (MlX.row y)):Int))/\0+ag (↑(MlX.k t):Int)+1<=ab (MlX.row y)/\∀(U:List Int),(MlX.row y)[0+ag (↑(MlX.k t):
 Int)]? =ah U->(decide (wr ac ((↑(MlX.k t):Int)+1)<(↑(ab (MlX.row y)):Int))=af->(0<=wr ac ((↑(MlX.k t):Int)+(1
 :Int))/\wr ac ((↑(MlX.k t):Int)+1)+1<=(↑(ab (MlX.row y)):Int))/\0+ag (wr ac ((↑(MlX.k t):Int)+(1:
 Int)))+1<=ab (MlX.row y)/\∀(a0:List Int),(MlX.row y)[0+ag (wr ac ((↑(MlX.k t):Int)+1))]? =ah a0->True/\∀
 (J:List Int),J=mP (n32q U) (n32q a0)->(ab (MlX.row t)<=ab (MlX.row t)/\0<=ab (MlX.row t)/\(ab (MlX.row t)+(1:
 Nat))*32<=140737488355328)/\∃(a2:MlX),a1 a2/\a2.6+1<=t.6/\af=af/\((cg 81=cg 81/\True/\0=(0
 :Nat)/\0=0/\0=0/\True)/\(0=0/\ab (MlX.row y)=ab (MlX.row y)/\True)/\0=0/\((0:
 Nat)=0/\ab (MlX.row t)+1=ab (MlX.row a2)/\True)/\wr ac ((↑(MlX.k t):Int)+2)=(↑(MlX.k a2):Int)/\wr
 ac (j+1)=wr ac (j+1)/\(↑(MlX.k y):Int)=(↑(MlX.k y):Int)/\True)/\(aj (ab (MlX.row t)) (MlX.row t)++ [(n32q
 J)]=MlX.row a2/\0=0)/\(MlX.row y=MlX.row y/\0=0)/\(e32q (MlX.pad y) (MlX.pad y))/\(j=j/\True)/\(k=k/\True)/\(e32q x x)/\
 True)/\(decide (wr ac ((↑(MlX.k t):Int)+1)<(↑(ab (MlX.row y)):Int))=ae->True/\∀(J:List Int),J=mP (n32q U) (n32q (MlX.pad y))->
 (ab (MlX.row t)<=ab (MlX.row t)/\0<=ab (MlX.row t)/\(ab (MlX.row t)+1)*32<=140737488355328)/\∃
 (a0:MlX),a1 a0/\a0.6+1<=t.6/\af=af/\((cg 81=cg 81/\True/\0=0/\0=0/\0=(0:
 Nat)/\True)/\(0=0/\ab (MlX.row y)=ab (MlX.row y)/\True)/\0=0/\(0=0/\ab (MlX.row t)+(1
 :Nat)=ab (MlX.row a0)/\True)/\wr ac ((↑(MlX.k t):Int)+2)=(↑(MlX.k a0):Int)/\wr ac (j+1)=wr ac (j+(1:
 Int))/\(↑(MlX.k y):Int)=(↑(MlX.k y):Int)/\True)/\(aj (ab (MlX.row t)) (MlX.row t)++ [(n32q J)]=MlX.row a0/\0=0)/\(MlX.row y=
 MlX.row y/\0=0)/\(e32q (MlX.pad y) (MlX.pad y))/\(j=j/\True)/\(k=k/\True)/\(e32q x x)/\True))/\(decide ((↑(MlX.k t):Int)<(↑(ab
 (MlX.row y)):Int))=ae->True/\∀(J:List Int),J=mP (n32q (MlX.pad y)) (n32q (MlX.pad y))->(∃(I:MlX),R (ae,I)/\I.6+1<=y.6/\af=af/\
 ((cg 81=cg 81/\True/\0=0/\0=0/\0=0/\True)
 /\False/\0=0/\wr ac (j+1)=wr ac (j+1)/\wr ac ((↑(MlX.k y):Int)+1)=(↑(MlX.k I):Int)/\True)
 /\(e32q J (MlX.pad I))/\(e32q x (MlX.d I))/\(j=j/\True)/\(k=k/\True)/\True)\/∃(I:MlX),R (af,I)/\I.6+1<=y.6/\af=af/\((cg
 81=cg 81/\True/\0=0/\0=0/\0=0/\True)/\((0:
 Nat)=0/\ab (MlX.row t)=ab (MlX.row I)/\True)/\0=0/\wr ac (j+1)=wr ac (j+1)/\wr
 ac ((↑(MlX.k y):Int)+1)=(↑(MlX.k I):Int)/\True)/\(e32q J (MlX.pad I))/\(e32q x (MlX.d I))/\(MlX.row t=MlX.row I/\0=0)
 /\(j=j/\True)/\(k=k/\True)/\True))/\(decide (k<(↑(ab (MlX.row y)):Int))=ae->(0<=wr ac (eN (wr ac ((↑(ab
 (MlX.row y)):Int)+1)) 2)/\(↑(32:Nat):Int)*wr ac (eN (wr ac ((↑(ab (MlX.row y)):Int)+1)) 2)<=
 281474976710656)/\∃(a1:MlX->Prop),(∃(x:MlX),a1 x/\af=af/\((cg 81=cg 81/\
 True/\0=0/\0=0/\0=0/\True)/\(0=0/\ab (MlX.row y)=ab (MlX.row y)/\True)/\(0:
 Nat)=0/\(0=0/\0=ab (MlX.row x)/\True)/\0=(↑(MlX.k x):Int)/\wr ac (j+1)=wr ac (j+(1
 :Int))/\(↑(MlX.k y):Int)=(↑(MlX.k y):Int)/\True)/\([]=MlX.row x/\0=0)/\(MlX.row y=MlX.row y/\0=0)/\(e32q (MlX.pad y) (MlX.pad
 y))/\(j=j/\True)/\(k=k/\True)/\(e32q (MlX.pad y) (MlX.pad y))/\True)/\∀(x:MlX),a1 x->(decide ((↑(MlX.k x):Int)<(↑(ab (MlX.row y)):Int))=af->
 (0<=(↑(MlX.k x):Int)/\(↑(MlX.k x):Int)+1<=(↑(ab (MlX.row y)):Int))/\0+ag (↑(MlX.k x):Int)+1<=ab (MlX.row
 y)/\∀(t:List Int),(MlX.row y)[0+ag (↑(MlX.k x):Int)]? =ah t->(decide (wr ac ((↑(MlX.k x):Int)+1)<(↑(ab (MlX.row y))
 :Int))=af->(0<=wr ac ((↑(MlX.k x):Int)+1)/\wr ac ((↑(MlX.k x):Int)+1)+1<=(↑(ab (MlX.row y)):Int))/\
 0+ag (wr ac ((↑(MlX.k x):Int)+1))+1<=ab (MlX.row y)/\∀(U:List Int),(MlX.row y)[0+ag (wr
 ac ((↑(MlX.k x):Int)+1))]? =ah U->True/\∀(J:List Int),J=mP (n32q t) (n32q U)->(ab (MlX.row x)<=ab (MlX.row x)/\(0:
 Nat)<=ab (MlX.row x)/\(ab (MlX.row x)+1)*32<=140737488355328)/\∃(a0:MlX),a1 a0/\a0.6+1<=x.6/\af=af/\
 ((cg 81=cg 81/\True/\0=0/\0=0/\0=0/\True)/\(0=0/\ab (MlX.row y)
 =ab (MlX.row y)/\True)/\0=0/\(0=0/\ab (MlX.row x)+1=ab (MlX.row a0)/\True)/\wr ac
 ((↑(MlX.k x):Int)+2)=(↑(MlX.k a0):Int)/\wr ac (j+1)=wr ac (j+1)/\(↑(MlX.k y):Int)=(↑(MlX.k y):Int)/\True)/\
 (aj (ab (MlX.row x)) (MlX.row x)++ [(n32q J)]=MlX.row a0/\0=0)/\(MlX.row y=MlX.row y/\0=0)/\(e32q (MlX.pad y)
 (MlX.pad y))/\(j=j/\True)/\(k=k/\True)/\(e32q (MlX.pad y) (MlX.pad y))/\True)/\(decide (wr ac ((↑(MlX.k x):Int)+1)<(↑(ab (MlX.row y)):
 Int))=ae->True/\∀(J:List Int),J=mP (n32q t) (n32q (MlX.pad y))->(ab (MlX.row x)<=ab (MlX.row x)/\0<=ab (MlX.row x)/\
 (ab (MlX.row x)+1)*32<=140737488355328)/\∃(U:MlX),a1 U/\U.6+1<=x.6/\af=af/\((cg
 81=cg 81/\True/\0=0/\0=0/\0=0/\True)/\((0:
 Nat)=0/\ab (MlX.row y)=ab (MlX.row y)/\True)/\0=0/\(0=0/\ab (MlX.row x)+1=ab
 (MlX.row U)/\True)/\wr ac ((↑(MlX.k x):Int)+2)=(↑(MlX.k U):Int)/\wr ac (j+1)=wr ac (j+1)/\(↑(MlX.k y):
 Int)=(↑(MlX.k y):Int)/\True)/\(aj (ab (MlX.row x)) (MlX.row x)++ [(n32q J)]=MlX.row U/\0=0)/\(MlX.row y=MlX.row y/\0=(0
 :Nat))/\(e32q (MlX.pad y) (MlX.pad y))/\(j=j/\True)/\(k=k/\True)/\(e32q (MlX.pad y) (MlX.pad y))/\True))/\(decide ((↑(MlX.k x):Int)<(↑(ab (MlX.row y)):
 Int))=ae->True/\∀(J:List Int),J=mP (n32q (MlX.pad y)) (n32q (MlX.pad y))->(∃(I:MlX),R (ae,I)/\I.6+1<=y.6/\af=af/\((cg
 81=cg 81/\True/\0=0/\0=0/\0=0/\True)/\False/\
 0=0/\wr ac (j+1)=wr ac (j+1)/\wr ac ((↑(MlX.k y):Int)+1)=(↑(MlX.k I):Int)/\True)/\(e32q
 J (MlX.pad I))/\(e32q (MlX.pad y) (MlX.d I))/\(j=j/\True)/\(k=k/\True)/\True)\/∃(I:MlX),R (af,I)/\I.6+1<=y.6/\af=af/\((cg
 81=cg 81/\True/\0=0/\0=0/\0=0/\True)/\((0:
 Nat)=0/\ab (MlX.row x)=ab (MlX.row I)/\True)/\0=0/\wr ac (j+1)=wr ac (j+1)/\wr
 ac ((↑(MlX.k y):Int)+1)=(↑(MlX.k I):Int)/\True)/\(e32q J (MlX.pad I))/\(e32q (MlX.pad y) (MlX.d I))/\(MlX.row x=MlX.row I/\0=(0
 :Nat))/\(j=j/\True)/\(k=k/\True)/\True)))/\(((↑(MlX.k y):Int)==j)=ae->(0<=wr ac (eN (wr ac ((↑(ab (MlX.row y)):
 Int)+1)) 2)/\(↑(32:Nat):Int)*wr ac (eN (wr ac ((↑(ab (MlX.row y)):Int)+1)) 2)<=(281474976710656:
 Int))/\∃(a1:MlX->Prop),(∃(x:MlX),a1 x/\af=af/\((cg 81=cg 81/\True/\0=
 0/\0=0/\0=0/\True)/\(0=0/\ab (MlX.row y)=ab (MlX.row y)/\True)/\0=0/\((0
 :Nat)=0/\0=ab (MlX.row x)/\True)/\0=(↑(MlX.k x):Int)/\wr ac (j+1)=wr ac (j+1)/\(↑(MlX.k y)
 :Int)=(↑(MlX.k y):Int)/\True)/\([]=MlX.row x/\0=0)/\(MlX.row y=MlX.row y/\0=0)/\(e32q (MlX.pad y) (MlX.pad y))/\(j=j/\True)
 /\(k=k/\True)/\(e32q (MlX.d y) (MlX.d y))/\True)/\∀(x:MlX),a1 x->(decide ((↑(MlX.k x):Int)<(↑(ab (MlX.row y)):Int))=af->(0<=(↑(MlX.k x):
 Int)/\(↑(MlX.k x):Int)+1<=(↑(ab (MlX.row y)):Int))/\0+ag (↑(MlX.k x):Int)+1<=ab (MlX.row y)/\∀(t:List Int),
 (MlX.row y)[0+ag (↑(MlX.k x):Int)]? =ah t->(decide (wr ac ((↑(MlX.k x):Int)+1)<(↑(ab (MlX.row y)):Int))=af->((0:
 Int)<=wr ac ((↑(MlX.k x):Int)+1)/\wr ac ((↑(MlX.k x):Int)+1)+1<=(↑(ab (MlX.row y)):Int))/\0+ag
 (wr ac ((↑(MlX.k x):Int)+1))+1<=ab (MlX.row y)/\∀(U:List Int),(MlX.row y)[0+ag (wr ac ((↑(MlX.k x):Int)
 +1))]? =ah U->True/\∀(J:List Int),J=mP (n32q t) (n32q U)->(ab (MlX.row x)<=ab (MlX.row x)/\0<=ab (MlX.row x)/\
 (ab (MlX.row x)+1)*32<=140737488355328)/\∃(a0:MlX),a1 a0/\a0.6+1<=x.6/\af=af/\((cg
 81=cg 81/\True/\0=0/\0=0/\0=0/\True)/\(0=0/\
 ab (MlX.row y)=ab (MlX.row y)/\True)/\0=0/\(0=0/\ab (MlX.row x)+1=ab (MlX.row a0)/\True)
 /\wr ac ((↑(MlX.k x):Int)+2)=(↑(MlX.k a0):Int)/\wr ac (j+1)=wr ac (j+1)/\(↑(MlX.k y):Int)=(↑(MlX.k y):
 Int)/\True)/\(aj (ab (MlX.row x)) (MlX.row x)++ [(n32q J)]=MlX.row a0/\0=0)/\(MlX.row y=MlX.row y/\0=0)/\(e32q
 (MlX.pad y) (MlX.pad y))/\(j=j/\True)/\(k=k/\True)/\(e32q (MlX.d y) (MlX.d y))/\True)/\(decide (wr ac ((↑(MlX.k x):Int)+1)<(↑(ab
 (MlX.row y)):Int))=ae->True/\∀(J:List Int),J=mP (n32q t) (n32q (MlX.pad y))->(ab (MlX.row x)<=ab (MlX.row x)/\0<=ab
 (MlX.row x)/\(ab (MlX.row x)+1)*32<=140737488355328)/\∃(U:MlX),a1 U/\U.6+1<=x.6/\af=af/\((cg
 81=cg 81/\True/\0=0/\0=0/\0=0/\True)/\((0:
 Nat)=0/\ab (MlX.row y)=ab (MlX.row y)/\True)/\0=0/\(0=0/\ab (MlX.row x)+1=ab
 (MlX.row U)/\True)/\wr ac ((↑(MlX.k x):Int)+2)=(↑(MlX.k U):Int)/\wr ac (j+1)=wr ac (j+1)/\(↑(MlX.k y):
 Int)=(↑(MlX.k y):Int)/\True)/\(aj (ab (MlX.row x)) (MlX.row x)++ [(n32q J)]=MlX.row U/\0=0)/\(MlX.row y=MlX.row y/\0=(0
 :Nat))/\(e32q (MlX.pad y) (MlX.pad y))/\(j=j/\True)/\(k=k/\True)/\(e32q (MlX.d y) (MlX.d y))/\True))/\(decide ((↑(MlX.k x):Int)<(↑(ab (MlX.row y)):
 Int))=ae->True/\∀(J:List Int),J=mP (n32q (MlX.pad y)) (n32q (MlX.pad y))->(∃(I:MlX),R (ae,I)/\I.6+1<=y.6/\af=af/\((cg
 81=cg 81/\True/\0=0/\0=0/\0=0/\True)/\False/\
 0=0/\wr ac (j+1)=wr ac (j+1)/\wr ac ((↑(MlX.k y):Int)+1)=(↑(MlX.k I):Int)/\True)/\(e32q
 J (MlX.pad I))/\(e32q (MlX.d y) (MlX.d I))/\(j=j/\True)/\(k=k/\True)/\True)\/∃(I:MlX),R (af,I)/\I.6+1<=y.6/\af=af/\((cg
 81=cg 81/\True/\0=0/\0=0/\0=0/\True)/\((0:
 Nat)=0/\ab (MlX.row x)=ab (MlX.row I)/\True)/\0=0/\wr ac (j+1)=wr ac (j+1)/\wr
 ac ((↑(MlX.k y):Int)+1)=(↑(MlX.k I):Int)/\True)/\(e32q J (MlX.pad I))/\(e32q (MlX.d y) (MlX.d I))/\(MlX.row x=MlX.row I/\0=(0:
 Nat))/\(j=j/\True)/\(k=k/\True)/\True)))/\(decide ((↑(MlX.k y):Int)<wr ac (j+1))=ae->(e32q (MlX.d y) d)/\af=b/\True))))))):=by kernel_rfl
def comV(c:Int×List Int):SV thy:= .agg (.int ae .i64 c.1::(Zm c.2).cells)
theorem Z5t:FnsOk E2 Fnod:=Zn Zd (Zn Zd Z9p _ _ _) _ _ _
end
section
open Go Go.RowKit
theorem Y1(x:List Int):n32q x=n32 x:=rfl
theorem Z9m(x:List Int):e32q x (n32 x):=by
 unfold e32q
 repeat' (first|exact rfl|exact js|apply aK)
theorem z32n:z32q []:=by
 unfold z32q
 repeat' (first|exact rfl|exact js|apply aK)
theorem Uh{a b:List Int} (h:n32 a=n32 b):e32q a b:=by
 have e:=Z1j a b;rw[iZ h] at e;simp only[az,gF] at e;exact e
theorem Zux(x y:List Int):b32q x y=decide (n32 x=n32 y):=Z1j x y
theorem Zmn(L:List (List Int)):∀j,(mRow mP mPad L j).length<=L.length
 |0=>aE _
 |j+1=>by
  show(Wk mP (mRow mP mPad L j) (mPd mP mPad j)).length<=_
  rw[Zb5]
  have:=Zmn L j
  omega
theorem Zgp{row:List (List Int)} {p u z:List Int} {m:Nat} (j:row[2*m]? =ah u) (t:z=mP u (mAt row (2*m+1) p)):(Wk mP row p).take m++ [n32 z]=(Wk mP row p).take (m+1):=by
 have I:=(ar.1 j).1;have h:(Wk mP row p)[m]? =ah (n32 z):=by
  rw[Zvx,jh (by omega),t,Yaq];unfold mAt;rw[j];rfl
 rw[List.take_add_one,h];rfl
theorem Zhr{row:List (List Int)} {pad:List Int} {A0:MlX->Prop} {A1:MlX->MlX->List Int->Prop} {FIN:MlX->List Int->Prop} (hl:row.length<=65536) (h0:∀x:MlX,x.k=0->x.row= []->A0 x)
 (h1:∀(x j:MlX) (z:List Int),j.k=x.k+2->wr .i64 ((x.k:Int)+2)=(j.k:Int)->j.row=x.row++ [n32 z]->A1 x j z) (hf:∀(x:MlX) (z:List Int),x.row=Wk mP row pad->z=mP pad pad->FIN x z):
 ∃(R:MlX->Prop),(∃x,R x/\af=af/\A0 x)/\∀x,R x->(decide ((x.k:Int)<(row.length:Int))=af->0<=(x.k:Int)/\(x.k:Int)+1<=(row.length:Int)/\∀u,row[ag (x.k:Int)]? =ah u->
  (decide (wr .i64 ((x.k:Int)+1)<(row.length:Int))=af->0<=wr .i64 ((x.k:Int)+1)/\wr .i64 ((x.k:Int)+1)+1<=(row.length:Int)/\∀v,row[ag (wr .i64 ((x.k:Int)+1))]? =ah v->True/\∀z,z=mP (n32q u) (n32q v)->(x.row.length<=x.row.length/\0<=x.row.length/\(x.row.length+1)*32<=140737488355328)/\∃j:MlX,R j/\j.6+1<=x.6/\af=af/\A1 x j z)/\
  (decide (wr .i64 ((x.k:Int)+1)<(row.length:Int))=ae->True/\∀z,z=mP (n32q u) (n32q pad)->(x.row.length<=x.row.length/\0<=x.row.length/\(x.row.length+1)*32<=140737488355328)/\∃j:MlX,R j/\j.6+1<=x.6/\af=af/\A1 x j z))/\
  (decide ((x.k:Int)<(row.length:Int))=ae->True/\∀z,z=mP (n32q pad) (n32q pad)->FIN x z):=by
 refine⟨λx=>∃m,x.k=2*m/\m<=(row.length+1)/2/\x.row=(Wk mP row pad).take m/\x.r=(row.length+1)/2-m,⟨⟨[],[],[],[],0,(row.length+1)/2⟩,⟨0,rfl,bg _,rfl,rfl⟩,rfl,h0 _ rfl rfl⟩,?_⟩
 rintro x ⟨m,hk,hm,a0,hr⟩
 have a2:x.row.length=m:=by rw[a0,aW,Zb5];omega
 have a1:wr .i64 ((x.k:Int)+1)=(x.k:Int)+1:=wr64 (by omega) (by omega)
 rw[a1]
 have step:∀(u z:List Int),(x.k:Int)<(row.length:Int)->row[2*m]? =ah u->z=mP u (mAt row (2*m+1) pad)->(x.row.length<=x.row.length/\0<=x.row.length/\(x.row.length+1)*32<=140737488355328)/\∃j:MlX,(∃m,j.k=2*m/\m<=(row.length+1)/2/\j.row=(Wk mP row pad).take m/\j.r=(row.length+1)/2-m)/\j.6+1<=x.6/\af=af/\A1 x j z:=by
  intro u z a3 J t
  have hs:x.row++ [n32 z]=(Wk mP row pad).take (m+1):=by rw[a0];exact Zgp J t
  exact⟨⟨aE _,bg _,by omega⟩,⟨x.row++ [n32 z],[],[],[],x.k+2,(row.length+1)/2-(m+1)⟩,⟨m+1,by show x.k+2=2*(m+1);omega,by omega,hs,rfl⟩,by show(row.length+1)/2-(m+1)+1<=x.r;omega,rfl,h1 _ _ _ rfl (by rw[wr64 (by omega) (by omega)];rfl) rfl⟩
 refine⟨λI=> ?_,λI=>⟨js,λz t=> ?_⟩⟩
 ·have I:=iK I
  refine⟨by omega,by omega,λu J=> ?_⟩
  have J:row[2*m]? =ah u:=by rw[<-hk];simpa using J
  refine⟨λU=> ?_,λU=>⟨js,λz t=> ?_⟩⟩
  ·have U:=iK U
   refine⟨by omega,by omega,λv hv=>⟨js,λz t=> ?_⟩⟩
   have e:ag ((x.k:Int)+1)=2*m+1:=by omega
   rw[e] at hv
   rw[Y1,Y1,mP_l,mP_r] at t
   exact step u z I J (by rw[t];unfold mAt;rw[hv];rfl)
  ·have U:=iT U
   rw[Y1,Y1,mP_l,mP_r] at t
   exact step u z I J (by rw[t];unfold mAt;rw[eH (by omega)];rfl)
 ·have I:=iT I
  rw[Y1,mP_l,mP_r] at t
  refine hf x z ?_ t
  rw[a0]
  exact aN (by rw[Zb5];omega)
theorem Zhs{row:List (List Int)} {pad:List Int} {A0:MlX->Prop} {A1:MlX->MlX->List Int->Prop} {FIN:MlX->List Int->Prop} (hl:row.length<=65536) (h0:∀x:MlX,x.k=0->x.row= []->A0 x)
 (h1:∀(x j:MlX) (z:List Int),j.k=x.k+2->wr .i64 ((x.k:Int)+2)=(j.k:Int)->j.row=x.row++ [n32 z]->A1 x j z) (hf:∀(x:MlX) (z:List Int),x.row=Wk mP row pad->z=mP pad pad->FIN x z):
 ∃(R:MlX->Prop),(∃x,R x/\af=af/\A0 x)/\∀x,R x->(decide ((x.k:Int)<(row.length:Int))=af->(0<=(x.k:Int)/\(x.k:Int)+1<=(row.length:Int))/\0+ag (x.k:Int)+1<=row.length/\∀u,row[0+ag (x.k:Int)]? =ah u->
  (decide (wr .i64 ((x.k:Int)+1)<(row.length:Int))=af->(0<=wr .i64 ((x.k:Int)+1)/\wr .i64 ((x.k:Int)+1)+1<=(row.length:Int))/\0+ag (wr .i64 ((x.k:Int)+1))+1<=row.length/\∀v,row[0+ag (wr .i64 ((x.k:Int)+1))]? =ah v->True/\∀z,z=mP (n32q u) (n32q v)->(x.row.length<=x.row.length/\0<=x.row.length/\(x.row.length+1)*32<=140737488355328)/\∃j:MlX,R j/\j.6+1<=x.6/\af=af/\A1 x j z)/\
  (decide (wr .i64 ((x.k:Int)+1)<(row.length:Int))=ae->True/\∀z,z=mP (n32q u) (n32q pad)->(x.row.length<=x.row.length/\0<=x.row.length/\(x.row.length+1)*32<=140737488355328)/\∃j:MlX,R j/\j.6+1<=x.6/\af=af/\A1 x j z))/\
  (decide ((x.k:Int)<(row.length:Int))=ae->True/\∀z,z=mP (n32q pad) (n32q pad)->FIN x z):=by
 obtain⟨R,r0,I⟩:=Zhr (A0:=A0) (A1:=A1) (FIN:=FIN) hl h0 h1 hf
 refine⟨R,r0,λx t=>⟨λd=> ?_,(I x t).2⟩⟩
 obtain⟨a,b,f⟩:=(I x t).1 d
 refine⟨⟨a,b⟩,by omega,λu hu=> ?_⟩
 obtain⟨g1,g2⟩:=f u (by simpa using hu)
 refine⟨λd2=> ?_,g2⟩
 obtain⟨J,U,a0⟩:=g1 d2
 exact⟨⟨J,U⟩,by omega,λv hv=>a0 v (by simpa using hv)⟩
theorem Zuy(L:List (List Int)) (n:Nat) (hL:L.length<=65536) (hn:n<=16):PureC E2 57 [.psl dD L ae,.int ae .i64 (n:Int),.int ae .i64 0] (.tup [Zm (Zdw mP mPad L n),.bool ae af]):=by
 refine Za Zd (Zb Zd Z5t 400) ?_;rw[Zu9];have w1:wr .i64 ((n:Int)+1)=(n:Int)+1:=wr64 (by omega) (by omega);have w2:wr .i64 (16-(n:Int))=16-(n:Int):=wr64 (by omega) (by omega);rw[w1,w2];have hp:0<wr .i64 (1*2^min (ag (16-(n:Int))) (ak .i64)):=by
  obtain⟨q,hq,a3⟩:∃q:Nat,min (ag (16-(n:Int))) (ak .i64)=q/\q<=16:=⟨_,rfl,by show min _ 64<=16;omega⟩;rw[hq];have e:(1*2^q:Int)=((2^q:Nat):Int):=by simp
  have h1:=iL q;have h2:2^q<=2^16:=Nat.pow_le_pow_right (by decide) a3;rw[e,wr64 (by omega) (by omega)];omega
 refine⟨λh=>jv (iK h) (by omega),λ_=>⟨λh=>jv (iK h) (by omega),λ_=>⟨λh=>jv (iK h) (by omega),λ_=>⟨λh=>jv (iK h) (by omega),λ_=>⟨by omega,λh=>jv (iK h) (by omega),λ_=>⟨js,λP0 a2=> ?_⟩⟩⟩⟩⟩⟩;subst a2
 refine⟨λx=>x.2.k<=n+1/\(x.1=ae->x.2.k=0)/\x.2.row=mRow mP mPad L x.2.k/\x.2.pad=mPd mP mPad x.2.k/\(x.2.k=n+1->n32 x.2.d=n32 (Zdw mP mPad L n))/\x.2.r=n+1-x.2.k,
  .inl ⟨⟨L,mPad,[],[],0,n+1⟩,⟨bg _,λ_=>rfl,rfl,rfl,λh=>jv h (by simp),rfl⟩,rfl,?_⟩,λy hy=> ?_,λy hy=> ?_⟩
 ·refine⟨⟨by repeat' (first|exact rfl|exact js|exactλh=>h|exact e32r _|apply aK),⟨rfl,λh=>h⟩,by repeat' (first|exact rfl|exact js|exactλh=>h|exact e32r _|apply aK),rfl,rfl,js⟩,e32r _,z32n,by repeat' (first|exact rfl|exact js|exactλh=>h|exact e32r _|apply aK)⟩
 all_goals
  obtain⟨k1,k2,k3,U,k5,k6⟩:=hy;dsimp only at k1 k2 k3 U k5 k6;have a0:y.row.length<=65536:=by rw[k3];exact Nat.le_trans (Zmn L _) hL
  have wk:wr .i64 ((y.k:Int)+1)=(y.k:Int)+1:=wr64 (by omega) (by omega);have a4:wr .i64 (eN (wr .i64 ((y.row.length:Int)+1)) 2)=((y.row.length:Int)+1)/2:=by
   rw[wr64 (n:=(y.row.length:Int)+1) (by omega) (by omega),Int.tdiv_eq_ediv_of_nonneg (by omega),wr64 (by omega) (by omega)]
  rw[wk,a4];have root:∀d:List Int,(y.k=n->d=mAt y.row 0 y.pad)->y.k+1=n+1->n32 d=n32 (Zdw mP mPad L n):=by
   intro d hd he;have:y.k=n:=by omega
   rw[hd this];unfold Zdw;rw[<-this,k3,U]
  refine⟨λh=>⟨λh2=>⟨λh3=> ?_,λh3=>⟨by omega,?_⟩⟩,λh2=>⟨by omega,?_⟩⟩,λh=> ?_⟩
  ·have h:=iK h
   have h2:y.k=n:=by have:=gF.1 h2;omega
   have h3:=iK h3
   first
    |refine⟨by omega,by omega,λx0 a1=>⟨by omega,?_⟩⟩
    |refine⟨⟨by omega,by omega⟩,by omega,λx0 a1=>⟨by omega,?_⟩⟩
   all_goals
    have a1:y.row[0]? =ah x0:=by simpa using a1
    first
     |refine Zhr (row:=y.row) (pad:=y.pad) a0 (λx t j=> ?_) (λx x' z t j I=> ?_) λx z J R=> ?_
     |refine Zhs (row:=y.row) (pad:=y.pad) a0 (λx t j=> ?_) (λx x' z t j I=> ?_) λx z J R=> ?_
    ·rw[t,j]
     repeat' (first|exact rfl|exact js|exactλh=>h|exact e32r _|apply aK)
    ·rw[j,I,aM,Y1]
     repeat' (first|exact rfl|exact js|exactλh=>h|exact e32r _|apply aK)
     all_goals simp
    ·exact .inr ⟨⟨x.row,z,x0,[],y.k+1,n+1-(y.k+1)⟩,⟨by show y.k+1<=n+1;omega,λh=>(by cases h),by show x.row=Wk mP (mRow mP mPad L y.k) (mPd mP mPad y.k);rw[J,k3,U],by show z=mP (mPd mP mPad y.k) (mPd mP mPad y.k);rw[R,U],(root x0 λ_=>by unfold mAt;rw[a1];rfl),rfl⟩,by show n+1-(y.k+1)+1<=y.r;omega,rfl,by repeat' (first|exact rfl|exact js|exactλh=>h|exact e32r _|apply aK)⟩
  ·have h:=iK h
   have h3:=iT h3
   first
    |refine Zhr (row:=y.row) (pad:=y.pad) a0 (λx t j=> ?_) (λx x' z t j I=> ?_) λx z J R=> ?_
    |refine Zhs (row:=y.row) (pad:=y.pad) a0 (λx t j=> ?_) (λx x' z t j I=> ?_) λx z J R=> ?_
   ·rw[t,j]
    repeat' (first|exact rfl|exact js|exactλh=>h|exact e32r _|apply aK)
   ·rw[j,I,aM,Y1]
    repeat' (first|exact rfl|exact js|exactλh=>h|exact e32r _|apply aK)
    all_goals simp
   ·exact .inr ⟨⟨x.row,z,y.pad,[],y.k+1,n+1-(y.k+1)⟩,⟨by show y.k+1<=n+1;omega,λh=>(by cases h),by show x.row=Wk mP (mRow mP mPad L y.k) (mPd mP mPad y.k);rw[J,k3,U],by show z=mP (mPd mP mPad y.k) (mPd mP mPad y.k);rw[R,U],(root y.pad λ_=>by unfold mAt;rw[eH (by omega)];rfl),rfl⟩,by show n+1-(y.k+1)+1<=y.r;omega,rfl,by repeat' (first|exact rfl|exact js|exactλh=>h|exact e32r _|apply aK)⟩
  ·have h:=iK h
   have h2:¬(y.k=n):=by have:=fV.1 h2;omega
   first
    |refine Zhr (row:=y.row) (pad:=y.pad) a0 (λx t j=> ?_) (λx x' z t j I=> ?_) λx z J R=> ?_
    |refine Zhs (row:=y.row) (pad:=y.pad) a0 (λx t j=> ?_) (λx x' z t j I=> ?_) λx z J R=> ?_
   ·rw[t,j]
    repeat' (first|exact rfl|exact js|exactλh=>h|exact e32r _|apply aK)
   ·rw[j,I,aM,Y1]
    repeat' (first|exact rfl|exact js|exactλh=>h|exact e32r _|apply aK)
    all_goals simp
   ·exact .inr ⟨⟨x.row,z,y.d,[],y.k+1,n+1-(y.k+1)⟩,⟨by show y.k+1<=n+1;omega,λh=>(by cases h),by show x.row=Wk mP (mRow mP mPad L y.k) (mPd mP mPad y.k);rw[J,k3,U],by show z=mP (mPd mP mPad y.k) (mPd mP mPad y.k);rw[R,U],(root y.d λhh=>jv hh h2),rfl⟩,by show n+1-(y.k+1)+1<=y.r;omega,rfl,by repeat' (first|exact rfl|exact js|exactλh=>h|exact e32r _|apply aK)⟩
  ·have h:=iT h
   exact⟨Uh (k5 (by omega)),rfl,js⟩
end
section
open Go
theorem Z4r{c:List Ins} {v:Env}:∀(n m:Nat) (s:St),m<=n->(itF c v (dmF c v m s) s).status≠0->stsF c v n s=(cy (dmF c v m s+1)).map λk=>itF c v k s
 |0,m,s,h,_=>by
  obtain rfl:m=0:=by omega
  rfl
 |n+1,0,s,_,t=>Zbr t _
 |n+1,m+1,s,h,t=>by
  by_cases j:s.status=0
  ·have e:dmF c v (m+1) s=dmF c v m (advF c v s 0)+1:=jh j
   have I:∀k,itF c v (k+1) s=itF c v k (advF c v s 0):=λk=>jh j
   rw[e,I] at t
   rw[e,stsF,jh j,Z4r n m _ (by omega) t,fQ (n:=dmF c v m (advF c v s 0)+1),ei,hH]
   congr 1
   exact eS λk _=>(I k).symm
  ·have e:dmF c v (m+1) s=0:=jb j
   rw[e,Zbr j];rfl
noncomputable def dskL(c:List Ins) (v:Env):List St:=(cy (dM c v+1)).map (dsk c v)
theorem Zxs{c:List Ins} {v:Env} (j:(verF c).2=0):stsF c v (((c.length:Int)+1).toNat+1) (eR ((c.length:Int)+1))=dskL c v:=
 Z4r _ c.length _ (by omega) (Zct j).2.1
theorem Zqo(c:List Ins) (v:Env):(dskL c v).length=dM c v+1:=by unfold dskL;rw[List.length_map,hC]
theorem Zil{c:List Ins} {v:Env} {k:Nat} {s:St} (h:(dskL c v)[k]? =ah s):s=dsk c v k/\k<=dM c v:=by
 unfold dskL at h;rw[cw] at h;by_cases j:k<dM c v+1
 ·rw[fv j] at h
  exact⟨(aU h).symm,by omega⟩
 ·rw[eH (by rw[hC];omega)] at h
  cases h
theorem Zxt{n k:Nat} (h:k<depM n):2^k<n:=by
 unfold depM blen at h;split at h
 ·omega
 ·rename_i q
  have:2^k<=max n 1-1:=(Nat.le_log2 q).1 (by omega);omega
end
section
open Go
noncomputable def Zy6:Sum thy:=sumD dXK2 (λx=>decide (1<=x.2.1)&&decide (x.2.1<=31)) λx=> .int ae .u32 (rotF x.1 x.2.1)
theorem Zlv:SumOk E2 186 Zy6:=Zzx Zd (Ze (f:=186) rfl) λx h=>by
 simp only[az,fw] at h;exact up2 (Zzw x.1 x.2.1 h.1 h.2)
def n64q(d:List Int):List Int:= [aa d (0:Nat) (0:Int),aa d (1:Nat) (0:Int),aa d (2:Nat) (0:Int),aa d (3:Nat) (0:Int),aa d (4:Nat) (0:Int),aa d (5:Nat) (0:Int),aa d (6:Nat) (0:Int),aa d (7:Nat) (0:Int),aa d (8:Nat) (0:Int),aa d (9:Nat) (0:Int),aa d (10:Nat) (0:Int),aa d (11:Nat) (0:Int),aa d (12:Nat) (0:Int),aa d (13:Nat) (0:Int),aa d (14:Nat) (0:Int),aa d (15:Nat) (0:Int),aa d (16:Nat) (0:Int),aa d (17:Nat) (0:Int),aa d (18:Nat) (0:Int),aa d (19:Nat) (0:Int),aa d (20:Nat) (0:Int),aa d (21:Nat) (0:Int),aa d (22:Nat) (0:Int),aa d (23:Nat) (0:Int),aa d (24:Nat) (0:Int),aa d (25:Nat) (0:Int),aa d (26:Nat) (0:Int),aa d (27:Nat) (0:Int),aa d (28:Nat) (0:Int),aa d (29:Nat) (0:Int),aa d (30:Nat) (0:Int),aa d (31:Nat) (0:Int),aa d (32:Nat) (0:Int),aa d (33:Nat) (0:Int),aa d (34:Nat) (0:Int),aa d (35:Nat) (0:Int),aa d (36:Nat) (0:Int),aa d (37:Nat) (0:Int),aa d (38:Nat) (0:Int),aa d (39:Nat) (0:Int),aa d (40:Nat) (0:Int),aa d (41:Nat) (0:Int),aa d (42:Nat) (0:Int),aa d (43:Nat) (0:Int),aa d (44:Nat) (0:Int),aa d (45:Nat) (0:Int),aa d (46:Nat) (0:Int),aa d (47:Nat) (0:Int),aa d (48:Nat) (0:Int),aa d (49:Nat) (0:Int),aa d (50:Nat) (0:Int),aa d (51:Nat) (0:Int),aa d (52:Nat) (0:Int),aa d (53:Nat) (0:Int),aa d (54:Nat) (0:Int),aa d (55:Nat) (0:Int),aa d (56:Nat) (0:Int),aa d (57:Nat) (0:Int),aa d (58:Nat) (0:Int),aa d (59:Nat) (0:Int),aa d (60:Nat) (0:Int),aa d (61:Nat) (0:Int),aa d (62:Nat) (0:Int),aa d (63:Nat) (0:Int)]
theorem Zy7{d:List Int} (h:d.length=64):n64q d=d:=by
 rw[show n64q d=(cy 64).map (λi=>d.getD i 0) from rfl];refine List.ext_getElem (by simp[h]) λi t j=> ?_;rw[List.getElem_map,List.getElem_range,aI,aq j];rfl
def e64q(a z:List Int):Prop:=aa a (0:Nat) (0:Int)=aa z (0:Nat) (0:Int)/\aa a (1:Nat) (0:Int)=aa z (1:Nat) (0:Int)/\aa a (2:Nat) (0:Int)=aa z (2:Nat) (0:Int)/\aa a (3:Nat) (0:Int)=aa z (3:Nat) (0:Int)/\aa a (4:Nat) (0:Int)=aa z (4:Nat) (0:Int)/\aa a (5:Nat) (0:Int)=aa z (5:Nat) (0:Int)/\aa a (6:Nat) (0:Int)=aa z (6:Nat) (0:Int)/\aa a (7:Nat) (0:Int)=aa z (7:Nat) (0:Int)/\aa a (8:Nat) (0:Int)=aa z (8:Nat) (0:Int)/\aa a (9:Nat) (0:Int)=aa z (9:Nat) (0:Int)/\aa a (10:Nat) (0:Int)=aa z (10:Nat) (0:Int)/\aa a (11:Nat) (0:Int)=aa z (11:Nat) (0:Int)/\aa a (12:Nat) (0:Int)=aa z (12:Nat) (0:Int)/\aa a (13:Nat) (0:Int)=aa z (13:Nat) (0:Int)/\aa a (14:Nat) (0:Int)=aa z (14:Nat) (0:Int)/\aa a (15:Nat) (0:Int)=aa z (15:Nat) (0:Int)/\aa a (16:Nat) (0:Int)=aa z (16:Nat) (0:Int)/\aa a (17:Nat) (0:Int)=aa z (17:Nat) (0:Int)/\aa a (18:Nat) (0:Int)=aa z (18:Nat) (0:Int)/\aa a (19:Nat) (0:Int)=aa z (19:Nat) (0:Int)/\aa a (20:Nat) (0:Int)=aa z (20:Nat) (0:Int)/\aa a (21:Nat) (0:Int)=aa z (21:Nat) (0:Int)/\aa a (22:Nat) (0:Int)=aa z (22:Nat) (0:Int)/\aa a (23:Nat) (0:Int)=aa z (23:Nat) (0:Int)/\aa a (24:Nat) (0:Int)=aa z (24:Nat) (0:Int)/\aa a (25:Nat) (0:Int)=aa z (25:Nat) (0:Int)/\aa a (26:Nat) (0:Int)=aa z (26:Nat) (0:Int)/\aa a (27:Nat) (0:Int)=aa z (27:Nat) (0:Int)/\aa a (28:Nat) (0:Int)=aa z (28:Nat) (0:Int)/\aa a (29:Nat) (0:Int)=aa z (29:Nat) (0:Int)/\aa a (30:Nat) (0:Int)=aa z (30:Nat) (0:Int)/\aa a (31:Nat) (0:Int)=aa z (31:Nat) (0:Int)/\aa a (32:Nat) (0:Int)=aa z (32:Nat) (0:Int)/\aa a (33:Nat) (0:Int)=aa z (33:Nat) (0:Int)/\aa a (34:Nat) (0:Int)=aa z (34:Nat) (0:Int)/\aa a (35:Nat) (0:Int)=aa z (35:Nat) (0:Int)/\aa a (36:Nat) (0:Int)=aa z (36:Nat) (0:Int)/\aa a (37:Nat) (0:Int)=aa z (37:Nat) (0:Int)/\aa a (38:Nat) (0:Int)=aa z (38:Nat) (0:Int)/\aa a (39:Nat) (0:Int)=aa z (39:Nat) (0:Int)/\aa a (40:Nat) (0:Int)=aa z (40:Nat) (0:Int)/\aa a (41:Nat) (0:Int)=aa z (41:Nat) (0:Int)/\aa a (42:Nat) (0:Int)=aa z (42:Nat) (0:Int)/\aa a (43:Nat) (0:Int)=aa z (43:Nat) (0:Int)/\aa a (44:Nat) (0:Int)=aa z (44:Nat) (0:Int)/\aa a (45:Nat) (0:Int)=aa z (45:Nat) (0:Int)/\aa a (46:Nat) (0:Int)=aa z (46:Nat) (0:Int)/\aa a (47:Nat) (0:Int)=aa z (47:Nat) (0:Int)/\aa a (48:Nat) (0:Int)=aa z (48:Nat) (0:Int)/\aa a (49:Nat) (0:Int)=aa z (49:Nat) (0:Int)/\aa a (50:Nat) (0:Int)=aa z (50:Nat) (0:Int)/\aa a (51:Nat) (0:Int)=aa z (51:Nat) (0:Int)/\aa a (52:Nat) (0:Int)=aa z (52:Nat) (0:Int)/\aa a (53:Nat) (0:Int)=aa z (53:Nat) (0:Int)/\aa a (54:Nat) (0:Int)=aa z (54:Nat) (0:Int)/\aa a (55:Nat) (0:Int)=aa z (55:Nat) (0:Int)/\aa a (56:Nat) (0:Int)=aa z (56:Nat) (0:Int)/\aa a (57:Nat) (0:Int)=aa z (57:Nat) (0:Int)/\aa a (58:Nat) (0:Int)=aa z (58:Nat) (0:Int)/\aa a (59:Nat) (0:Int)=aa z (59:Nat) (0:Int)/\aa a (60:Nat) (0:Int)=aa z (60:Nat) (0:Int)/\aa a (61:Nat) (0:Int)=aa z (61:Nat) (0:Int)/\aa a (62:Nat) (0:Int)=aa z (62:Nat) (0:Int)/\aa a (63:Nat) (0:Int)=aa z (63:Nat) (0:Int)/\True
theorem Z3i(a:List Int):e64q a a:=by
 repeat' constructor
def wd6F(x7 j t I x8 J R U:Int):Int:=wr au (wr au (wr au (x7+Zo cW au (Zo cW au (rotF j (7:Int)) (rotF t (18:Int))) (aB I ((2:Int)^min (ag (3:Int)) (ak au))))+x8)+Zo cW au (Zo cW au (rotF J (17:Int)) (rotF R (19:Int))) (aB U ((2:Int)^min (ag (10:Int)) (ak au))))
noncomputable def Z8x(l:List Int):SV thy:= .agg (Wq E2 ld l (0:Int) 64 0)
def Asc1:Fr thy->Hp thy->Nat->Ann thy:=λT h i=>{X:=DX,fr:=λx=> [(0,T 0),(2,T 2),(3,T 3),(4,.int ae .i64 x.k)],bl:=λx=>(bOf (T 3),.rows ld x.D 0)::blkP h (T 2),src:=λ_=> [],md:= [bOf (T 3)],ih:=i,M:=i+40,meas:=λx=>x.r}
def Asc2:Fr thy->Hp thy->Nat->Ann thy:=λT h i=>{X:=DX,fr:=λx=> [(2,T 2),(3,T 3),(5,.int ae .i64 x.k)],bl:=λx=>(bOf (T 3),.rows ld x.D 0)::blkP h (T 2),src:=λ_=> [],md:= [bOf (T 3)],ih:=i,M:=i+40,meas:=λx=>x.r}
noncomputable def Fsc:Fns thy:=addL (addL (addS F0 186 Zy6) 184 3 Asc1 E2) 184 7 Asc2 E2
theorem Ybe:FnsOk E2 Fsc:=Zn Zd (Zn Zd (Zc Z7 Zlv) _ _ _) _ _ _
abbrev qDF1(j:DX):=(↑(dx j):Int)
abbrev qDF9:=(1:Int)
abbrev qDFc:=(0:Int)
abbrev qDF8:=(↑(64:Nat):Int)
abbrev qDF2(j:DX):=(qDFc<=wr ac ((qDF1 j)-(15:Int))/\wr ac ((qDF1 j)-(15:Int))+qDF9<=qDF8)
abbrev qDF3(j:DX):=(qDFc<=wr ac ((qDF1 j)-(2:Int))/\wr ac ((qDF1 j)-(2:Int))+qDF9<=qDF8)
abbrev qDF4:=(0:Nat)
abbrev qDF5(j:DX):=(wr ac ((qDF1 j)-(15:Int)))
abbrev qDF6(j:DX):=(wr ac ((qDF1 j)-(2:Int)))
abbrev qDF7(j:DX):=((4:Int)*(qDF1 j))
abbrev qDFa:=(z64=z64/\qDF4=qDF4)
abbrev qDFb:=(1:Nat)
theorem Ztu(b:List Int) (z:List Int):Zk E2 Fsc (vc E2 Fsc 600) 184 [.psl cu b ae] hp0 0 (λr=>ret E2 (patch hp0 0 r) r.v (Z8x z))=(
 64=64/\∀(y:List Int),y=z64->∃(R:DX->Prop),(∃(x:DX),R x/\af=af/\((b=b/\(ae=af->ae=af))/\qDF4=qDF4/\qDF4=qDF4/\qDFc=(qDF1 x)/\True)/\(y=aC x/\qDF4=qDF4)/\qDFa/\True)/\∀(x:DX),R x->(decide ((qDF1 x)<16)=af->qDFc<=wr ac (qDF7 x)/\wr ac (qDF7 x)+qDF9<=(↑(ab b):Int)/\∀(j:Int),b[ag (wr ac (qDF7 x))]? =ah j->qDFc<=wr ac (wr ac (qDF7 x)+qDF9)/\wr ac (wr ac (qDF7 x)+qDF9)+qDF9<=(↑(ab b):Int)/\∀(I:Int),b[ag (wr ac (wr ac (qDF7 x)+qDF9))]? =ah I->qDFc<=wr ac (wr ac (qDF7 x)+2)/\wr ac (wr ac (qDF7 x)+2)+qDF9<=(↑(ab b):Int)/\∀(J:Int),b[ag (wr ac (wr ac (qDF7 x)+2))]? =ah J->qDFc<=wr ac (wr ac (qDF7 x)+3)/\wr ac (wr ac (qDF7 x)+3)+qDF9<=(↑(ab b):Int)/\∀(U:Int),b[ag (wr ac (wr ac (qDF7 x)+3))]? =ah U->(qDFc<=(qDF1 x)/\(qDF1 x)+qDF9<=qDF8)/\qDF4<=ag (qDF1 x)/\ag (qDF1 x)+qDFb<=ab (aC x)/\∀(a1:Int),(aC x)[ag (qDF1 x)]? =ah a1->∃(t:DX),R t/\t.2+qDFb<=x.2/\af=af/\((b=b/\(ae=af->ae=af))/\qDF4=qDF4/\qDF4=qDF4/\wr ac ((qDF1 x)+qDF9)=(qDF1 t)/\True)/\(eG (aC x) (ag (qDF1 x)) (orF j I J U)=aC t/\qDF4=qDF4)/\qDFa/\True)/\(decide ((qDF1 x)<16)=ae->∃(R:DX->Prop),(∃(j:DX),R j/\af=af/\(qDF4=qDF4/\qDF4=qDF4/\16=(qDF1 j)/\True)/\(aC x=aC j/\qDF4=qDF4)/\qDFa/\True)/\∀(x:DX),R x->(decide ((qDF1 x)<64)=af->(qDF2 x)/\ag (qDF5 x)+qDFb<=ab (aC x)/\∀(j:Int),(aC x)[ag (qDF5 x)]? =ah j->(qDF2 x)/\ag (qDF5 x)+qDFb<=ab (aC x)/\∀(I:Int),(aC x)[ag (qDF5 x)]? =ah I->(qDF2 x)/\ag (qDF5 x)+qDFb<=ab (aC x)/\∀(J:Int),(aC x)[ag (qDF5 x)]? =ah J->(qDF3 x)/\ag (qDF6 x)+qDFb<=ab (aC x)/\∀(U:Int),(aC x)[ag (qDF6 x)]? =ah U->(qDF3 x)/\ag (qDF6 x)+qDFb<=ab (aC x)/\∀(a1:Int),(aC x)[ag (qDF6 x)]? =ah a1->(qDF3 x)/\ag (qDF6 x)+qDFb<=ab (aC x)/\∀(t:Int),(aC x)[ag (qDF6 x)]? =ah t->(qDFc<=wr ac ((qDF1 x)-16)/\wr ac ((qDF1 x)-16)+qDF9<=qDF8)/\ag (wr ac ((qDF1 x)-16))+qDFb<=ab (aC x)/\∀(a2:Int),(aC x)[ag (wr ac ((qDF1 x)-16))]? =ah a2->(qDFc<=wr ac ((qDF1 x)-7)/\wr ac ((qDF1 x)-7)+qDF9<=qDF8)/\ag (wr ac ((qDF1 x)-7))+qDFb<=ab (aC x)/\∀(a3:Int),(aC x)[ag (wr ac ((qDF1 x)-7))]? =ah a3->(qDFc<=(qDF1 x)/\(qDF1 x)+qDF9<=qDF8)/\qDF4<=ag (qDF1 x)/\ag (qDF1 x)+qDFb<=ab (aC x)/\∀(a4:Int),(aC x)[ag (qDF1 x)]? =ah a4->∃(a0:DX),R a0/\a0.2+qDFb<=x.2/\af=af/\(qDF4=qDF4/\qDF4=qDF4/\wr ac ((qDF1 x)+qDF9)=(qDF1 a0)/\True)/\(eG (aC x) (ag (qDF1 x)) (wd6F a2 j I J a3 U a1 t)=aC a0/\qDF4=qDF4)/\qDFa/\True)/\(decide ((qDF1 x)<64)=ae->ab (aC x)=64/\64=64/\∀(y:List Int),y=(n64q (aC x))->ab y=64/\e64q y z))):=by kernel_rfl
theorem Z3j{D:List Int} {k:Nat} {I J R U x5 x6 x7 x8:Int} (j:D[k-15]? =ah I) (h2:D[k-15]? =ah J) (h3:D[k-15]? =ah R) (t:D[k-2]? =ah U) (h5:D[k-2]? =ah x5) (h6:D[k-2]? =ah x6) (h7:D[k-16]? =ah x7) (h8:D[k-7]? =ah x8):eG D k (wd6F x7 I J R x8 U x5 x6)=f2 k D:=by
 obtain rfl:=aU (j.symm.trans h2);obtain rfl:=aU (j.symm.trans h3);obtain rfl:=aU (t.symm.trans h5);obtain rfl:=aU (t.symm.trans h6);exact Zya j t h7 h8
theorem Ztv{b:List Int} (hb:b.length=64):PureC E2 184 [.psl cu b ae] (Z8x (schF b)):=by
 refine Za Zd (Zb Zd Ybe 600) ?_;rw[Ztu];delta qDF1 qDF9 qDFc qDF8 qDF2 qDF3 qDF4 qDF5 qDF6 qDF7 qDFa qDFb;refine⟨rfl,λy R=> ?_⟩;subst R;refine⟨λx=>x.r+x.k=16/\x.D.length=64/\itL (f1 b) x.r x.k x.D=itL (f1 b) 16 0 z64,⟨⟨0,16,z64,[],0,0,0,0⟩,⟨rfl,rfl,rfl⟩,rfl,⟨⟨rfl,id⟩,rfl,rfl,rfl,js⟩,⟨rfl,rfl⟩,⟨rfl,rfl⟩,js⟩,?_⟩;rintro x ⟨h1,t,I⟩;refine aK (λj=> ?_) (λj=> ?_)
 ·have j:=iK j
  have U:wr .i64 (4*(x.k:Int))=((4*x.k:Nat):Int):=by rw[wr64 (by omega) (by omega)];omega
  have e1:wr .i64 (((4*x.k:Nat):Int)+1)=((4*x.k+1:Nat):Int):=by rw[wr64 (by omega) (by omega)];omega
  have e2:wr .i64 (((4*x.k:Nat):Int)+2)=((4*x.k+2:Nat):Int):=by rw[wr64 (by omega) (by omega)];omega
  have e3:wr .i64 (((4*x.k:Nat):Int)+3)=((4*x.k+3:Nat):Int):=by rw[wr64 (by omega) (by omega)];omega
  simp only[U,e1,e2,e3,bB];refine⟨by omega,by omega,λa ha=>⟨by omega,by omega,λc hc=>⟨by omega,by omega,λd hd=>⟨by omega,by omega,λe he=>⟨⟨by omega,by omega⟩,bg _,by omega,λ_ _=>⟨⟨x.k+1,x.r-1,_,[],0,0,0,0⟩,⟨?_,?_,Zai I (by omega) (Zx9 ha hc hd he)⟩,?_,js,⟨⟨js,id⟩,js,js,wr64 (by omega) (by omega),js⟩,⟨rfl,js⟩,⟨js,js⟩,js⟩⟩⟩⟩⟩⟩
  ·show x.r-1+(x.k+1)=16;omega
  ·simp[t]
  ·show x.r-1+1<=x.r;omega
 ·have j:=iT j
  have J:x.D=itL (f1 b) 16 0 z64:=by rw[<-I,show x.r=0 by omega];rfl
  refine⟨λx=>x.r+x.k=64/\16<=x.k/\x.D.length=64/\itL f2 x.r x.k x.D=schF b,⟨⟨16,48,x.D,[],0,0,0,0⟩,⟨rfl,aE _,t,by rw[J];rfl⟩,rfl,⟨rfl,rfl,rfl,js⟩,⟨rfl,rfl⟩,⟨rfl,rfl⟩,js⟩,?_⟩;clear j h1 t I J;rintro x ⟨h1,h0,t,I⟩;refine aK (λj=> ?_) (λj=> ?_)
  ·have j:=iK j
   have U:wr .i64 ((x.k:Int)-15)=((x.k-15:Nat):Int):=by rw[wr64 (by omega) (by omega)];omega
   have e1:wr .i64 ((x.k:Int)-2)=((x.k-2:Nat):Int):=by rw[wr64 (by omega) (by omega)];omega
   have e2:wr .i64 ((x.k:Int)-16)=((x.k-16:Nat):Int):=by rw[wr64 (by omega) (by omega)];omega
   have e3:wr .i64 ((x.k:Int)-7)=((x.k-7:Nat):Int):=by rw[wr64 (by omega) (by omega)];omega
   simp only[U,e1,e2,e3,bB]
   refine⟨⟨by omega,by omega⟩,by omega,λa1 a0=>⟨⟨by omega,by omega⟩,by omega,λa2 a9=>⟨⟨by omega,by omega⟩,by omega,λa3 b0=>⟨⟨by omega,by omega⟩,by omega,λa4 b3=>⟨⟨by omega,by omega⟩,by omega,λa5 b4=>⟨⟨by omega,by omega⟩,by omega,λa6 b5=>⟨⟨by omega,by omega⟩,by omega,λa7 b6=>⟨⟨by omega,by omega⟩,by omega,λa8 b7=>⟨⟨by omega,by omega⟩,bg _,by omega,λ_ _=>⟨⟨x.k+1,x.r-1,_,[],0,0,0,0⟩,⟨?_,?_,?_,Zai I (by omega) (Z3j a0 a9 b0 b3 b4 b5 b6 b7)⟩,?_,js,⟨js,js,wr64 (by omega) (by omega),js⟩,⟨rfl,js⟩,⟨js,js⟩,js⟩⟩⟩⟩⟩⟩⟩⟩⟩⟩
   ·show x.r-1+(x.k+1)=64;omega
   ·show 16<=x.k+1;omega
   ·simp[t]
   ·show x.r-1+1<=x.r;omega
  ·have j:=iT j
   have J:x.D=schF b:=by rw[<-I,show x.r=0 by omega];rfl
   refine⟨t,rfl,λy R=> ?_⟩;rw[Zy7 t,J] at R;rw[R];exact⟨Zec b,Z3i _⟩
noncomputable def Ssch:Sum thy:=Yh E2 gthT 2 (.cons (dBys E2) .nil) (λx=>x.1.length=64) (λx=>schF x.1) Z8x
theorem Z8y:SumOk E2 184 Ssch:=Zl Zd (Ze (f:=184) rfl) λx h=>Ztv h
def Abk:Fr thy->Hp thy->Nat->Ann thy:=λT h i=>{X:=DX,fr:=λx=> [(2,T 2),(4,T 4),(5,T 5),(6,T 6),(7,T 7),(8,.int ae .i64 x.k)],bl:=λx=>(bOf (T 7),.raw (cR8 x.H) 0 aD)::(blkP h (T 2)++blkP h (T 4)++blkP h (T 5)++blkP h (T 6)),src:=λ_=> [],md:= [bOf (T 7)],ih:=i,M:=i+40,meas:=λx=>x.r}
noncomputable def Frb:Fns thy:=addL (addS (addS F0 186 Zy6) 184 Ssch) 150 5 Abk E2
abbrev qDFd:=(0:Nat)
abbrev qDFe(j:DX):=(↑(dx j):Int)
abbrev qDFf:=(64:Nat)
theorem Zoz(H b:List Int) (z:List Int):Zk E2 Frb (vc E2 Frb 600) 150 [.agg (cR8 H),.psl cu b ae] hp0 0 (λr=>ret E2 (patch hp0 0 r) r.v (.agg (cR8 z)))=(
 ab b=qDFf/\∀(y:List Int),y=schF b->qDFf=qDFf/\∀(j:List Int),j=(n64q y)->qDFf=qDFf/\∀(y:List Int),y=k64->ab y=qDFf/\qDFf=qDFf/\∀(t:List Int),t=(n64q y)->∃(R:DX->Prop),(∃(x:DX),R x/\af=af/\(qDFd=qDFd/\qDFd=qDFd/\qDFd=qDFd/\qDFd=qDFd/\qDFd=qDFd/\0=(qDFe x)/\True)/\(hEQ H (aP x))/\(hEQ H H)/\(hEQ [] [])/\(j=j/\qDFd=qDFd)/\(t=t/\qDFd=qDFd)/\True)/\∀(x:DX),R x->(decide ((qDFe x)<64)=af->(0<=(qDFe x)/\(qDFe x)+1<=(↑qDFf:Int))/\ag (qDFe x)+1<=ab t/\∀(J:Int),t[ag (qDFe x)]? =ah J->(0<=(qDFe x)/\(qDFe x)+1<=(↑qDFf:Int))/\ag (qDFe x)+1<=ab j/\∀(U:Int),j[ag (qDFe x)]? =ah U->∃(I:DX),R I/\I.2+1<=x.2/\af=af/\(qDFd=qDFd/\qDFd=qDFd/\qDFd=qDFd/\qDFd=qDFd/\qDFd=qDFd/\wr ac ((qDFe x)+1)=(qDFe I)/\True)/\hEQ (shaR (aP x) J U) (aP I)/\(hEQ H H)/\(hEQ [] [])/\(j=j/\qDFd=qDFd)/\(t=t/\qDFd=qDFd)/\True)/\(decide ((qDFe x)<64)=ae->hEQ (shaE H (aP x)) z)):=by kernel_rfl
theorem Ybf:FnsOk E2 Frb:=Zn Zd (Zc (Zc Z7 Zlv) Z8y) _ _ _
theorem Zy8{h b:List Int} (J:h.length=8) (I:b.length=64):PureC E2 150 [rowV .u32 h,.psl cu b ae] (rowV .u32 (blkF h b)):=by
 rw[Zis J,Zis (Zah J I)];refine Za Zd (Zb Zd Ybf 600) ?_;rw[Zoz];delta qDFd qDFe qDFf;refine⟨I,λy hy=>⟨rfl,λy1 R=>⟨rfl,λk j=>⟨by rw[j];rfl,rfl,λy2 U=> ?_⟩⟩⟩⟩;rw[hy,Zy7 (Zec b)] at R;rw[j,Zy7 rfl] at U;rw[R,U];refine⟨λx=>x.r+x.k=64/\itL (f3 (schF b)) x.r x.k x.H=itL (f3 (schF b)) 64 0 h,⟨⟨0,64,[],h,0,0,0,0⟩,⟨rfl,rfl⟩,rfl,⟨rfl,rfl,rfl,rfl,rfl,rfl,js⟩,Yb _,Yb _,Yb _,⟨rfl,rfl⟩,⟨rfl,rfl⟩,js⟩,?_⟩;rintro x ⟨h1,t⟩;refine aK (λj=> ?_) (λj=> ?_)
 ·have j:=iK j
  simp only[bB];refine⟨⟨by omega,by omega⟩,by show x.k+1<=64;omega,λa ha=>⟨⟨by omega,by omega⟩,by rw[Zec];omega,λc hc=>⟨⟨x.k+1,x.r-1,[],_,0,0,0,0⟩,⟨?_,Zai t (by omega) (Zyb ha hc)⟩,?_,js,⟨js,js,js,js,js,wr64 (by omega) (by omega),js⟩,Yb _,Yb _,Yb _,⟨js,js⟩,⟨js,js⟩,js⟩⟩⟩
  ·show x.r-1+(x.k+1)=64;omega
  ·show x.r-1+1<=x.r;omega
 ·have j:=iT j
  have hX:x.H=itL (f3 (schF b)) 64 0 h:=by rw[<-t,show x.r=0 by omega];rfl
  rw[hX];exact Yb _
end
section
open Go
def Apa:Fr thy->Hp thy->Nat->Ann thy:=λT h i=>{X:=DX,fr:=λx=> [(0,T 0),(3,.sl i 0 x.D.length 1 aD)],bl:=λx=>blkA h (T 3) i cu x.D,src:=λ_=> [(i,3)],md:= [bOf (T 3)],ih:=i+1,M:=i+40,meas:=λx=>x.r}
def Apb:Fr thy->Hp thy->Nat->Ann thy:=λT h i=>{X:=DX,fr:=λx=> [(3,.sl i 0 x.D.length 1 aD),(4,T 4),(5,.int ae .i64 x.k)],bl:=λx=>blkA h (T 3) i cu x.D,src:=λ_=> [(i,3)],md:= [bOf (T 3)],ih:=i+1,M:=i+40,meas:=λx=>x.r}
noncomputable def Fpad:Fns thy:=addL (addL F0 149 4 Apa E2) 149 8 Apb E2
theorem Z7f:FnsOk E2 Fpad:=Zn Zd (Zn Zd Z7 _ _ _) _ _ _
abbrev qDG4:=(0:Nat)
abbrev qDG9:=(1:Nat)
abbrev qDG6(j:DX):=(ab (aC j)<=ab (aC j)/\qDG4<=ab (aC j)/\(ab (aC j)+qDG9)*qDG9<=(140737488355328:Nat))
abbrev qDG5(j:List Int):=(wr aA (↑(ab j):Int)*(8:Int))
abbrev qDG1(j:DX) (J:DX->Prop) (I:List Int):=(decide ((↑(dx j):Int)<(8:Int))=af->(0:Int)<=wr ac ((56:Int)-wr ac ((8:Int)*(↑(dx j):Int)))/\(qDG6 j)/\∃(t:DX),J t/\t.2+qDG9<=j.2/\af=af/\((qDG4=qDG4/\ab (aC j)+qDG9=ab (aC t)/\True)/\wr aA (qDG5 I)=wr aA (qDG5 I)/\wr ac ((↑(dx j):Int)+(1:Int))=(↑(dx t):Int)/\True)/\(aj (ab (aC j)) (aC j)++ [wr ax (aB (wr aA (qDG5 I)) ((2:Int)^min (ag (wr ac ((56:Int)-wr ac ((8:Int)*(↑(dx j):Int))))) (ak aA)))]=aC t/\qDG4=qDG4)/\True)
abbrev qDGa:=(ae=af->ae=af)
abbrev qDG7(j:DX):=(gK (↑(ab (aC j)):Int) (64:Int) !=(56:Int))
abbrev qDG2(j:DX) (J:DX->Prop) (I:List Int):=((qDG7 j)=af->(qDG6 j)/\∃(t:DX),J t/\t.2+qDG9<=j.2/\af=af/\((I=I/\qDGa)/\(qDG4=qDG4/\ab (aC j)+qDG9=ab (aC t)/\True)/\True)/\(aj (ab (aC j)) (aC j)++ [(0:Int)]=aC t/\qDG4=qDG4)/\True)
abbrev qDG3(J:DX->Prop) (t:DX) (I:List Int):=(∃(j:DX),J j/\af=af/\((qDG4=qDG4/\ab (aC t)=ab (aC j)/\True)/\wr aA (qDG5 I)=wr aA (qDG5 I)/\(0:Int)=(↑(dx j):Int)/\True)/\(aC t=aC j/\qDG4=qDG4)/\True)
abbrev qDG8(j:DX) (t:List Int):=(decide ((↑(dx j):Int)<(8:Int))=ae->qDG4+ab (aC j)<=ab (aC j)/\aj (ab (aC j)) (aC j)=t)
theorem Znv(b:List Int) (z:List Int):Zk E2 Fpad (vc E2 Fpad 400) 149 [.psl cu b ae] hp0 0 (λr=>ret E2 (patch hp0 0 r) r.v (.psl cu z ae))=(
 (b= []->∃(R:DX->Prop),(∃(x:DX),R x/\af=af/\((b=b/\qDGa)/\(qDG4=qDG4/\qDG4+qDG9=ab (aC x)/\True)/\True)/\([]++ [128]=aC x/\qDG4=qDG4)/\True)/\∀(x:DX),R x->(qDG2 x R b)/\((qDG7 x)=ae->∃(R:DX->Prop),(qDG3 R x b)/\∀(x:DX),R x->(qDG1 x R b)/\(qDG8 x z)))/\(b≠ []->(qDG4+qDG9<=qDG4+ab b/\(qDG4+ab b)*qDG9<=140737488355328)/\(qDG4+ab b<=ab ([]++b)/\qDG4<=qDG4+ab b/\(qDG4+ab b+qDG9)*qDG9<=140737488355328)/\∃(R:DX->Prop),(∃(x:DX),R x/\af=af/\((b=b/\qDGa)/\(qDG4=qDG4/\qDG4+ab b+qDG9=ab (aC x)/\True)/\True)/\(aj (qDG4+ab b) ([]++b)++ [128]=aC x/\qDG4=qDG4)/\True)/\∀(x:DX),R x->(qDG2 x R b)/\((qDG7 x)=ae->∃(R:DX->Prop),(qDG3 R x b)/\∀(x:DX),R x->(qDG1 x R b)/\(qDG8 x z)))):=by kernel_rfl
theorem Znw(b:List Int) (hb:b.length<=1000000):PureC E2 149 [.psl cu b ae] (.psl cu (padF b) ae):=by
 refine Za Zd (Zb Zd Z7f 400) ?_;rw[Znv];delta qDG4 qDG9 qDG6 qDG5 qDG1 qDGa qDG7 qDG2 qDG3 qDG8;simp only[Zz,Zs,Ys,Yt,Yu,gF,gM,fV,fX,fw,fk,bw,bD,bh,bJ,az,bZ,cm,aX,ib,Zx,Z4,ne_eq,and_true,true_and,bu,bc,false_or,or_false,jn,jC,bi,il,iF,bV]
 refine aK (λh0=> ?_) (λh0=> ?_)
 ·refine⟨λx=>∃j,j<=zc b.length/\x.D=b++ [128]++aS j 0/\x.r=zc b.length-j,⟨⟨0,zc b.length,b++ [128],[],0,0,0,0⟩,⟨0,bg _,by simp,rfl⟩,by rw[h0];rfl,by rw[h0]⟩,?_⟩
  rintro x ⟨j,hj,t,a3⟩;have I:x.D.length=b.length+1+j:=by rw[t];simp;omega
  have U:gK (x.D.length:Int) 64=((x.D.length%64:Nat):Int):=by rw[dU (by omega)];omega
  have hz:zc b.length<=63:=by unfold zc;omega
  refine aK (λh=> ?_) (λh=> ?_)
  ·have a1:j<zc b.length:=by
    rcases dC j (zc b.length) with R|R
    ·exact R
    ·exfalso
     apply h;rw[U,I];unfold zc at*;omega
   refine⟨⟨aE _,bg _,by omega⟩,⟨0,zc b.length-(j+1),x.D++ [0],[],0,0,0,0⟩,⟨j+1,a1,?_,rfl⟩,by show zc b.length-(j+1)+1<=x.r;omega,by simp,by rw[aM]⟩;show x.D++ [0]=_;rw[t,gq];simp
  ·have a0:j=zc b.length:=by
    rw[U,I] at h;unfold zc at*;omega
   rw[a0] at t I;generalize hB:x.D=base at*;generalize hN:wr .u64 (wr .u64 (b.length:Int)*8)=N;refine⟨λz=>∃q,q<=8/\z.D=base++len8 N q/\z.k=q/\z.r=8-q,⟨⟨0,8,base,[],0,0,0,0⟩,⟨0,by omega,by simp[len8],rfl,rfl⟩,⟨rfl,rfl⟩,rfl⟩,?_⟩;rintro z ⟨q,hq,J,a2,a5⟩;have a4:z.D.length=base.length+q:=by rw[J,aO,Zci]
   refine aK (λh=> ?_) (λh=> ?_)
   ·have e3:wr .i64 (56-wr .i64 (8*(z.k:Int)))=56-8*(q:Int):=by rw[a2,wr64 (n:=8*(q:Int)) (by omega) (by omega),wr64 (by omega) (by omega)]
    rw[e3];refine⟨by omega,⟨aE _,by omega,by omega⟩,⟨z.k+1,8-(q+1),z.D++ [wr .u8 (N.fdiv (2^min (56-8*(q:Int)).toNat 64))],[],0,0,0,0⟩,⟨q+1,by omega,?_,by show z.k+1=q+1;omega,rfl⟩,by show 8-(q+1)+1<=z.r;omega,⟨by simp,wr64 (by omega) (by omega)⟩,by rw[aM];rfl⟩;show z.D++_=_;rw[Zfq,<-db,<-J]
   ·obtain rfl:q=8:=by omega
    refine⟨by omega,?_⟩;rw[aM,J,t,<-hN];rfl
 ·have hp:=fB.2 h0
  refine⟨⟨by omega,by omega⟩,⟨by simp,by omega,by omega⟩,?_⟩;refine⟨λx=>∃j,j<=zc b.length/\x.D=b++ [128]++aS j 0/\x.r=zc b.length-j,⟨⟨0,zc b.length,b++ [128],[],0,0,0,0⟩,⟨0,bg _,by simp,rfl⟩,by simp,by simp⟩,?_⟩;rintro x ⟨j,hj,t,a3⟩;have I:x.D.length=b.length+1+j:=by rw[t];simp;omega
  have U:gK (x.D.length:Int) 64=((x.D.length%64:Nat):Int):=by rw[dU (by omega)];omega
  have hz:zc b.length<=63:=by unfold zc;omega
  refine aK (λh=> ?_) (λh=> ?_)
  ·have a1:j<zc b.length:=by
    rcases dC j (zc b.length) with R|R
    ·exact R
    ·exfalso
     apply h;rw[U,I];unfold zc at*;omega
   refine⟨⟨aE _,bg _,by omega⟩,⟨0,zc b.length-(j+1),x.D++ [0],[],0,0,0,0⟩,⟨j+1,a1,?_,rfl⟩,by show zc b.length-(j+1)+1<=x.r;omega,by simp,by rw[aM]⟩;show x.D++ [0]=_;rw[t,gq];simp
  ·have a0:j=zc b.length:=by
    rw[U,I] at h;unfold zc at*;omega
   rw[a0] at t I;generalize hB:x.D=base at*;generalize hN:wr .u64 (wr .u64 (b.length:Int)*8)=N;refine⟨λz=>∃q,q<=8/\z.D=base++len8 N q/\z.k=q/\z.r=8-q,⟨⟨0,8,base,[],0,0,0,0⟩,⟨0,by omega,by simp[len8],rfl,rfl⟩,⟨rfl,rfl⟩,rfl⟩,?_⟩;rintro z ⟨q,hq,J,a2,a5⟩;have a4:z.D.length=base.length+q:=by rw[J,aO,Zci]
   refine aK (λh=> ?_) (λh=> ?_)
   ·have e3:wr .i64 (56-wr .i64 (8*(z.k:Int)))=56-8*(q:Int):=by rw[a2,wr64 (n:=8*(q:Int)) (by omega) (by omega),wr64 (by omega) (by omega)]
    rw[e3];refine⟨by omega,⟨aE _,by omega,by omega⟩,⟨z.k+1,8-(q+1),z.D++ [wr .u8 (N.fdiv (2^min (56-8*(q:Int)).toNat 64))],[],0,0,0,0⟩,⟨q+1,by omega,?_,by show z.k+1=q+1;omega,rfl⟩,by show 8-(q+1)+1<=z.r;omega,⟨by simp,wr64 (by omega) (by omega)⟩,by rw[aM];rfl⟩;show z.D++_=_;rw[Zfq,<-db,<-J]
   ·obtain rfl:q=8:=by omega
    refine⟨by omega,?_⟩;rw[aM,J,t,<-hN];rfl
noncomputable def Yau:Sum thy:=Yh E2 gthT 2 (.cons (Z8k E2 .u32) (.cons (dBys E2) .nil)) (λx=>x.1.length=8/\x.2.1.length=64) (λx=>blkF x.1 x.2.1) row8
theorem Z2n:SumOk E2 150 Yau:=Zl Zd (Ze (f:=150) rfl) λx h=>by
 have:=Zy8 h.1 h.2;rw[Zug (Zah h.1 h.2)] at this;exact this
noncomputable def Spad:Sum thy:=sumF E2 gthT 2 (.cons (dBys E2) .nil) (λx=>x.1.length<=1000000) λx=> .psl cu (padF x.1) ae
theorem Z7g:SumOk E2 149 Spad:=Zf7 Zd (Ze (f:=149) rfl) λx h=>Znw x.1 h
def Asu:Fr thy->Hp thy->Nat->Ann thy:=λT h i=>{X:=DX,fr:=λx=> [(2,T 2),(3,T 3),(4,T 4),(5,.int ae .i64 x.k)],bl:=λx=>(bOf (T 3),.raw (row8 x.H).cells 0 aD)::blkP h (T 2),src:=λ_=> [],md:= [bOf (T 3)],ih:=i,M:=i+40,meas:=λx=>x.r}
noncomputable def Z7h:Fns thy:=addL (addS (addS F0 150 Yau) 149 Spad) 104 4 Asu E2
theorem Z2o:FnsOk E2 Z7h:=Zn Zd (Zc (Zc Z7 Z2n) Z7g) _ _ _
abbrev qDGb:=(0:Int)
abbrev qDGc:=(ak au)
abbrev qDGd:=(qDGb=qDGb/\qDGb=qDGb/\qDGb=qDGb/\qDGb=qDGb/\qDGb=qDGb/\qDGb=qDGb/\qDGb=qDGb/\qDGb=qDGb/\qDGb=qDGb/\qDGb=qDGb/\qDGb=qDGb/\qDGb=qDGb/\qDGb=qDGb/\qDGb=qDGb/\qDGb=qDGb/\qDGb=qDGb/\qDGb=qDGb/\qDGb=qDGb/\qDGb=qDGb/\qDGb=qDGb/\qDGb=qDGb/\qDGb=qDGb/\qDGb=qDGb/\qDGb=qDGb/\qDGb=qDGb/\qDGb=qDGb/\qDGb=qDGb/\qDGb=qDGb/\qDGb=qDGb/\qDGb=qDGb/\qDGb=qDGb/\qDGb=qDGb/\True)
abbrev qDGe:=((2:Int)^min (ag (24:Int)) qDGc)
abbrev qDGf:=((2:Int)^min (ag (16:Int)) qDGc)
abbrev qDGg:=((2:Int)^min (ag (8:Int)) qDGc)
abbrev qDGh:=((2:Int)^min (ag qDGb) qDGc)
abbrev qDGi(j:DX):=(↑(dx j):Int)
abbrev qDGj:=(0:Nat)
abbrev qDGk(j:DX):=(aa (aP j) (1:Nat) qDGb)
abbrev qDGl(j:DX):=(aa (aP j) (2:Nat) qDGb)
abbrev qDGm(j:DX):=(aa (aP j) (3:Nat) qDGb)
abbrev qDGn(j:DX):=(aa (aP j) (4:Nat) qDGb)
abbrev qDGo(j:DX):=(aa (aP j) (5:Nat) qDGb)
abbrev qDGp(j:DX):=(aa (aP j) (6:Nat) qDGb)
abbrev qDGq(j:DX):=(aa (aP j) (7:Nat) qDGb)
abbrev qDGr(j:DX) (t:List Int):=(aV (ag (qDGi j)) (aj (ag (wr ac ((qDGi j)+(64:Int)))) (padF t)))
abbrev qDGs(j:DX):=(aa (aP j) qDGj qDGb)
theorem Zx0(b:List Int) (d:List Int):Zk E2 Z7h (vc E2 Z7h 400) 104 [.psl cu b ae] hp0 0 (λr=>ret E2 (patch hp0 0 r) r.v (Zm d))=(
 ab b<=1000000/\∃(R:DX->Prop),(∃(x:DX),R x/\af=af/\(qDGj=qDGj/\qDGj=qDGj/\(padF b=padF b/\(ae=af->ae=af))/\qDGb=(qDGi x)/\True)/\(1779033703=aa (aP x) qDGj qDGb/\3144134277=aa (aP x) 1 qDGb/\1013904242=aa (aP x) 2 qDGb/\2773480762=aa (aP x) 3 qDGb/\1359893119=aa (aP x) 4 qDGb/\2600822924=aa (aP x) 5 qDGb/\528734635=aa (aP x) 6 qDGb/\1541459225=aa (aP x) 7 qDGb/\True)/\qDGd/\True)/\∀(x:DX),R x->(decide ((qDGi x)<(↑(ab (padF b)):Int))=af->(qDGb<=(qDGi x)/\(qDGi x)<=wr ac ((qDGi x)+64)/\wr ac ((qDGi x)+64)<=(↑(ab (padF b)):Int))/\(8=8/\ab (qDGr x b)=64)/\∀(y:List Int),y=blkF [aa (aP x) qDGj qDGb,aa (aP x) 1 qDGb,aa (aP x) 2 qDGb,aa (aP x) 3 qDGb,aa (aP x) 4 qDGb,aa (aP x) 5 qDGb,aa (aP x) 6 qDGb,aa (aP x) 7 qDGb] (qDGr x b)->∃(j:DX),R j/\j.2+1<=x.2/\af=af/\(qDGj=qDGj/\qDGj=qDGj/\(padF b=padF b/\(ae=af->ae=af))/\wr ac ((qDGi x)+64)=(qDGi j)/\True)/\(aa y qDGj qDGb=aa (aP j) qDGj qDGb/\aa y 1 qDGb=aa (aP j) 1 qDGb/\aa y 2 qDGb=aa (aP j) 2 qDGb/\aa y 3 qDGb=aa (aP j) 3 qDGb/\aa y 4 qDGb=aa (aP j) 4 qDGb/\aa y 5 qDGb=aa (aP j) 5 qDGb/\aa y 6 qDGb=aa (aP j) 6 qDGb/\aa y 7 qDGb=aa (aP j) 7 qDGb/\True)/\qDGd/\True)/\(decide ((qDGi x)<(↑(ab (padF b)):Int))=ae->wr ax (aB (qDGs x) qDGe)=aa d qDGj qDGb/\wr ax (aB (qDGs x) qDGf)=aa d 1 qDGb/\wr ax (aB (qDGs x) qDGg)=aa d 2 qDGb/\wr ax (aB (qDGs x) qDGh)=aa d 3 qDGb/\wr ax (aB (qDGk x) qDGe)=aa d 4 qDGb/\wr ax (aB (qDGk x) qDGf)=aa d 5 qDGb/\wr ax (aB (qDGk x) qDGg)=aa d 6 qDGb/\wr ax (aB (qDGk x) qDGh)=aa d 7 qDGb/\wr ax (aB (qDGl x) qDGe)=aa d 8 qDGb/\wr ax (aB (qDGl x) qDGf)=aa d 9 qDGb/\wr ax (aB (qDGl x) qDGg)=aa d 10 qDGb/\wr ax (aB (qDGl x) qDGh)=aa d 11 qDGb/\wr ax (aB (qDGm x) qDGe)=aa d 12 qDGb/\wr ax (aB (qDGm x) qDGf)=aa d 13 qDGb/\wr ax (aB (qDGm x) qDGg)=aa d 14 qDGb/\wr ax (aB (qDGm x) qDGh)=aa d 15 qDGb/\wr ax (aB (qDGn x) qDGe)=aa d 16 qDGb/\wr ax (aB (qDGn x) qDGf)=aa d 17 qDGb/\wr ax (aB (qDGn x) qDGg)=aa d 18 qDGb/\wr ax (aB (qDGn x) qDGh)=aa d 19 qDGb/\wr ax (aB (qDGo x) qDGe)=aa d 20 qDGb/\wr ax (aB (qDGo x) qDGf)=aa d 21 qDGb/\wr ax (aB (qDGo x) qDGg)=aa d 22 qDGb/\wr ax (aB (qDGo x) qDGh)=aa d 23 qDGb/\wr ax (aB (qDGp x) qDGe)=aa d 24 qDGb/\wr ax (aB (qDGp x) qDGf)=aa d 25 qDGb/\wr ax (aB (qDGp x) qDGg)=aa d 26 qDGb/\wr ax
(aB (qDGp x) qDGh)=aa d 27 qDGb/\wr ax (aB (qDGq x) qDGe)=aa d 28 qDGb/\wr ax (aB (qDGq x) qDGf)=aa d 29 qDGb/\wr ax (aB (qDGq x) qDGg)=aa d 30 qDGb/\wr ax (aB (qDGq x) qDGh)=aa d 31 qDGb/\True)):=by kernel_rfl
theorem Z2p(b:List Int):(padF b).length=b.length+1+zc b.length+8:=by simp[padF,Zci];omega
theorem Zx1(b:List Int) (hb:b.length<=100000):PureC E2 104 [.psl cu b ae] (Zm (shaF b)):=by
 refine Za Zd (Zb Zd Z2o 400) ?_;rw[Zx0];delta qDGb qDGc qDGd qDGe qDGf qDGg qDGh qDGi qDGj qDGk qDGl qDGm qDGn qDGo qDGp qDGq qDGr qDGs;have hL:=Zyx b;have a2:=Z2p b;have hz:zc b.length<=63:=by unfold zc;omega
 generalize J:Zaz ((padF b).length/64) H0 (padF b)=FIN;have a0:shaF b=digF FIN:=by rw[<-J];rfl
 rw[a0];generalize padF b=L at*;refine⟨by omega,λx=>x.k%64=0/\x.k<=L.length/\x.H.length=8/\Zaz ((L.length-x.k)/64) x.H (L.drop x.k)=FIN/\x.r=L.length-x.k,⟨⟨0,L.length,[],H0,0,0,0,0⟩,⟨rfl,bg _,rfl,J,rfl⟩,rfl,⟨rfl,rfl,⟨rfl,id⟩,rfl,js⟩,⟨rfl,rfl,rfl,rfl,rfl,rfl,rfl,rfl,js⟩,⟨rfl,rfl,rfl,rfl,rfl,rfl,rfl,rfl,rfl,rfl,rfl,rfl,rfl,rfl,rfl,rfl,rfl,rfl,rfl,rfl,rfl,rfl,rfl,rfl,rfl,rfl,rfl,rfl,rfl,rfl,rfl,rfl,js⟩,js⟩,?_⟩;rintro x ⟨h1,h2,I,j,h5⟩;refine aK (λh=> ?_) (λh=> ?_)
 ·have h:=iK h
  have e:wr .i64 ((x.k:Int)+64)=((x.k+64:Nat):Int):=by rw[wr64 (by omega) (by omega)];omega
  rw[e,bB,bB];have a1:aV x.k (aj (x.k+64) L)=(L.drop x.k).take 64:=by rw[List.drop_take];congr 1;omega
  rw[a1];refine⟨⟨by omega,by omega,by omega⟩,⟨rfl,by simp;omega⟩,λy t=> ?_⟩;have t:y=blkF x.H ((L.drop x.k).take 64):=by
   rw[t];show blkF [x.H.getD 0 0,x.H.getD 1 0,x.H.getD 2 0,x.H.getD 3 0,x.H.getD 4 0,x.H.getD 5 0,x.H.getD 6 0,x.H.getD 7 0] _=_;rw[Yba I]
  have R:y.length=8:=by rw[t];exact Zah I (by simp;omega)
  refine⟨⟨x.k+64,L.length-(x.k+64),[],y,0,0,0,0⟩,⟨by show(x.k+64)%64=0;omega,by show x.k+64<=_;omega,R,?_,rfl⟩,by show L.length-(x.k+64)+1<=x.r;omega,rfl,⟨rfl,rfl,⟨rfl,id⟩,rfl,js⟩,⟨rfl,rfl,rfl,rfl,rfl,rfl,rfl,rfl,js⟩,⟨rfl,rfl,rfl,rfl,rfl,rfl,rfl,rfl,rfl,rfl,rfl,rfl,rfl,rfl,rfl,rfl,rfl,rfl,rfl,rfl,rfl,rfl,rfl,rfl,rfl,rfl,rfl,rfl,rfl,rfl,rfl,rfl,js⟩,js⟩;have U:(L.length-x.k)/64=(L.length-(x.k+64))/64+1:=by omega
  rw[U] at j;rw[<-j,t];show Zaz _ _ (L.drop (x.k+64))=Zaz _ _ ((L.drop x.k).drop 64);rw[List.drop_drop]
 ·have h:=iT h
  have e:(L.length-x.k)/64=0:=by omega
  rw[e] at j;have j:x.H=FIN:=j;rw[j];exact⟨rfl,rfl,rfl,rfl,rfl,rfl,rfl,rfl,rfl,rfl,rfl,rfl,rfl,rfl,rfl,rfl,rfl,rfl,rfl,rfl,rfl,rfl,rfl,rfl,rfl,rfl,rfl,rfl,rfl,rfl,rfl,rfl,js⟩
end
section
open Go
def btI(n:Int) (s:Nat):Int:=wr .u8 (aB n (2^min s 64))
def digG(n:Int):Nat->List Int->List Int
 |0,o=>o
 |r+1,o=>digG n r (if btI n (8*r)≠0\/o≠ [] then o++ [btI n (8*r)] else o)
theorem Zvc(n:Int):∀(r:Nat) (o:List Int),o≠ []->digG n r o=o++(cy r).map λi=>btI n (8*(r-1-i))
 |0,o,h=>by simp[digG]
 |r+1,o,h=>by
  rw[digG,jh (Or.inr h),Zvc n r _ (by simp),db,fQ]
  congr 1
  simp only[ei,hH,gg]
  congr 1
  apply eS
  intro a j
  have:=dq.1 j
  simp only[Function.comp]
  congr 2
  omega
theorem Z4f:∀(k u:Nat),256^k<=u->u<256^(k+1)->nbN u=k+1
 |0,u,j,t=>by
  have j:1<=u:=by simpa using j
  have t:u<256:=by simpa using t
  rw[Zin (by omega),show u/256=0 by omega,Zca]
 |k+1,u,j,t=>by
  have I:0<256^(k+1):=iP (by omega)
  rw[Zin (by omega),Z4f k (u/256) (by rw[jA (by omega),<-jm];exact j) (by rw[ga (by omega),<-jm];exact t)]
theorem Z5w(u:Nat) (r:Nat) (j:r<8):btI (u:Int) (8*r)=((u/256^r%256:Nat):Int):=by
 unfold btI;rw[gu (by omega),cR _ (fD (by omega)),show(256:Nat)^r=2^(8*r) by rw[Nat.pow_mul]];rw[show((2:Int)^(8*r))=((2^(8*r):Nat):Int) by push_cast;rfl,<-Int.natCast_ediv];simp only[wr,dQ];omega
theorem Zvd(u:Nat):∀(r:Nat),r<=8->u<256^r->digG (u:Int) r []=(cy (nbN u)).map λi=>btI (u:Int) (8*(nbN u-1-i))
 |0,_,h=>by
  obtain rfl:u=0:=by simpa using h
  simp[digG,Zca]
 |r+1,U,h=>by
  have t:=Z5w u r (by omega)
  have R:u/256^r<256:=by rw[ga (iP (by omega)),Nat.mul_comm,<-jm];exact h
  rw[Nat.mod_eq_of_lt R] at t
  rw[digG]
  by_cases I:u/256^r=0
  ·rw[t,I,jb (by simp)]
   refine Zvd u r (by omega) ?_
   rcases dC u (256^r) with j|j
   ·exact j
   ·exfalso
    have:=Nat.div_pos j (iP (by omega))
    omega
  ·have j:256^r<=u:=by
    rcases dC u (256^r) with j|j
    ·exact jv (Nat.div_eq_of_lt j) I
    ·exact j
   rw[jh (Or.inl (by rw[t];omega)),Zvc _ _ _ (by simp),Z4f r u j h,fQ]
   simp only[ei,hH,eD,gg]
   congr 1
   apply eS
   intro a J
   have:=dq.1 J
   simp only[Function.comp]
   congr 2
   omega
def digI(n:Int):List Int:=digG n 8 []
theorem Zmw(u:Nat) (h:u<18446744073709551616):digI (u:Int)=(cy (nbN u)).map λi=>btI (u:Int) (8*(nbN u-1-i)):=Zvd u 8 (by omega) (by simpa using h)
theorem Zhv(u:Nat) (h:u<18446744073709551616):(digI (u:Int)).length=nbN u:=by simp[Zmw u h]
theorem Yby(n:Int) (i:Nat) (hi:i<8):btI n (8*i)=btI (wr .u64 n) (8*i):=by
 unfold btI;rw[gu (by omega),cR _ (fD (by omega)),cR _ (fD (by omega))];simp only[wr,dQ,dj];rcases(by omega:i=0\/i=1\/i=2\/i=3\/i=4\/i=5\/i=6\/i=7) with rfl|rfl|rfl|rfl|rfl|rfl|rfl|rfl<;>simp only[kO,fP,kG,kH,kP]<;>omega
theorem Zgt{n m:Int}:∀(r:Nat) (o:List Int),(∀i,i<r->btI n (8*i)=btI m (8*i))->digG n r o=digG m r o
 |0,_,_=>rfl
 |r+1,o,h=>by
  rw[digG,digG,h r (by omega)]
  exact Zgt r _ λi hi=>h i (by omega)
theorem Zmx(n:Int):digI n=digI (wr .u64 n):=Zgt 8 [] λi hi=>Yby n i hi
theorem Z04{n:Int} (U:0<=n):encI n=wr .u8 (32+((digI n).length:Int))::digI n:=by
 have R:=wru n;obtain⟨u,j⟩:=de R.1;have J:X2 n=nbN u:=by unfold X2;rw[jb (by omega),j];simp
 have h8:=Zfg 8 u (by omega);have e:=Zmw u (by omega);have I:=Zhv u (by omega);rw[Zmx,j];unfold encI tagI;rw[jb (by omega),J,I,e]
 congr 1
 ·simp only[wr,dQ];omega
 ·apply eS
  intro a t;have:=dq.1 t;unfold intB btI;rw[j]
  congr 4
  omega
theorem Z9u(u:Nat) (j:u<18446744073709551616) (i:Nat) (hi:i<8):btI (18446744073709551615-(u:Int)) (8*i)=wr .u8 (255-btI (u:Int) (8*i)):=by
 unfold btI;rw[gu (by omega)];rw[cR _ (fD (by omega)),cR _ (fD (by omega))];simp only[wr,dQ];rcases(by omega:i=0\/i=1\/i=2\/i=3\/i=4\/i=5\/i=6\/i=7) with rfl|rfl|rfl|rfl|rfl|rfl|rfl|rfl<;>simp only[kO,fP,kG,kH,kP]<;>omega
theorem Z05{n:Int} (j:n<0) {m:Int} (R:m=wr .i64 (0-wr .i64 (n+1))):encI n=wr .u8 (31-((digI m).length:Int))::(digI m).map λx=>wr .u8 (255-x):=by
 have hw:=wru n;have a0:wr .u64 m=18446744073709551615-wr .u64 n:=by rw[R];simp only[wr,dj,IntKind.wrap_i64];omega
 obtain⟨u,hu⟩:=de (wru m).1;have t:wr .u64 n=18446744073709551615-(u:Int):=by omega
 have U:X2 n=nbN u:=by unfold X2;rw[jh j,t];congr 1;omega
 have h8:=Zfg 8 u (by omega);have e:=Zmw u (by omega);have J:=Zhv u (by omega);rw[Zmx,hu];unfold encI tagI;rw[jh j,U,J,e,hH]
 congr 1
 ·simp only[wr,dQ];omega
 ·apply eS
  intro a I;have:=dq.1 I;simp only[Function.comp];rw[<-Z9u u (by omega) _ (by omega)];unfold intB btI;rw[t]
  congr 4
  omega
end
end Go.Proofs.YtahcfmdfjjjmjaaGreatDoor
