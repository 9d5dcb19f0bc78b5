/- Merged texts: TpL, EngZL, TpM, TpI, TpPa, TpIz, EngZM, TpQ, TpPb, TpPc, TpR, TpP0, TpPd, TpPe, TpPf, TpPg, TpS, TpJ0, TpJ, TpT, TtJ, TtK, TtM, TtN, TtR, TtB, TtC, TtL, TtP, TtU. -/
import Derived.Lib.ItoaNum
import Derived.Test.YtpmhbnameoklkaaGreatDoorMd
open And renaming intro->aB
open Bool renaming and_eq_false_iff->bm,and_eq_true->aq,and_true->cG,false->ab,false_eq_true->aO,not_eq_false'->cd,not_eq_true'->bi,or_eq_false_iff->bG,or_eq_true->bd,true->ac,true_and->cx,true_eq_false->aS
open Decidable renaming not_not->bJ
open Except renaming error->az,ok->aT
open Go.Fn renaming func->cA
open Go.IntKind renaming i64->af
open Go.Proofs.YtpmhbnameoklkaaGreatDoor.Cls renaming mk->eP,name->aP,pay->aA,when_->aV
open Go.Proofs.YtpmhbnameoklkaaGreatDoor.Ex renaming d0->bx,d1->bA,d2->bB,d3->bC,l->bw,mk->bU,n->bW,op->aJ
open Go.Proofs.YtpmhbnameoklkaaGreatDoor.Tar renaming clauses->ar,for_->bI,name->bN
open Go.Proofs.YtpmhbnameoklkaaGreatDoor.Th renaming clauses->bq,dimc->kc,dims->gD,ints->gJ,strs->dk,toks->de
open Go.Proofs.YtpmhbnameoklkaaGreatDoor.Tok renaming at_->di,kind->cu,n->fq,text->cH
open Go.Proofs.YtpmhbnameoklkaaGreatDoor.Tst renaming attr->dP,high->fb,low->fa
open Go.Value renaming slice->aG
open Int renaming le_of_lt->kI,le_refl->bV,mul_le_mul_of_nonneg_right->fA,ofNat_eq_natCast->bX,pow_pos->kM,reduceAdd->gg,reduceLE->gC,tdiv->dj,tdiv_eq_ediv_of_nonneg->cw,tmod->eE,tmod_eq_emod_of_nonneg->cX,toNat->ag,toNat_natCast->bt
open List renaming all_eq_true->fB,append_assoc->bE,cons_append->dc,drop->cj,drop_eq_getElem_cons->cr,drop_eq_nil_of_le->bF,drop_zero->dh,getD->ah,getD_cons_succ->cT,getD_cons_zero->cS,getD_eq_getElem?_getD->bu,getElem?_cons_succ->dz,getElem?_cons_zero->cW,getElem?_eq_getElem->ai,getElem?_eq_some_iff->ak,getElem_mem->gn,length->aa,length_append->aC,length_cons->aD,length_drop->db,length_map->gA,length_nil->bh,length_tail->fe,length_take->be,map_append->gy,map_congr_left->jl,map_cons->cg,map_nil->dI,mem_append->bS,mem_append_left->ez,mem_append_right->dw,mem_cons->aL,mem_of_getElem?->aI,mem_singleton->bZ,nil_append->dZ,range->cK,set->dp,set_cons_succ->eH,set_cons_zero->eG,sum_cons->ku,tail->bv,take->av,take_add_one->cz,take_length->aW,take_of_length_le->bg
open List.cons renaming injEq->cR
open List.range renaming loop->eW
open Nat renaming add_zero->dO,beq->aK,beq_refl->fG,eq_of_beq_eq_true->ax,eq_zero_or_pos->ie,le_refl->aw,le_trans->bQ,lt_of_lt_of_le->bY,lt_or_ge->fp,min_eq_left->iL,mul_add->kN,mul_one->jm,pow_add->kL,pow_le_pow_right->gN,reduceAdd->ga,reduceLeDiff->ff,reducePow->cJ,reduceSub->gX,strongRecOn->iB,zero_le->bb
open Option renaming bind_some->eT,getD->ct,getD_some->cO,isNone_iff_eq_none->fO,isSome->cI,isSome_eq_false_iff->fH,isSome_iff_exists->fR,isSome_some->jh,ne_none_iff_exists'->aU,none->au,some->ae
open Option.some renaming injEq->cp
open Or renaming inl->jg,inr->iM
open Prod renaming fst->ao,snd->aE
open UInt8 renaming ofNat->fY,toNat->cQ,toNat_ofNat'->gV
namespace Go.Proofs.YtpmhbnameoklkaaGreatDoor
set_option linter.unusedVariables false
set_option linter.unusedSimpArgs false
set_option linter.unnecessarySimpa false
set_option maxRecDepth 100000
section
open Go
def isL(n:Int):Bool:=decide (97<=n)&&decide (n<=122)
def isD(n:Int):Bool:=decide (48<=n)&&decide (n<=57)
def isLD(n:Int):Bool:=isL n||isD n
noncomputable def dU8:Dc E Int:=dInt .u8
theorem Ztf(n:Int) (v:Bool):Zk E F0 (vc E F0 400) 139 [.int ab .u8 n] hp0 0 (λr=>ret E (patch hp0 0 r) r.v (.bool ab v))=(
(decide ((97:Int)<=n)=ac->(decide (n<=(122:Int))=ac->ac=v)/\(decide (n<=(122:Int))=ab->ab=v))/\(decide ((97:Int)<=n)=ab->ab=v)):=by kernel_rfl
theorem Ztg(n:Int):PureC E 139 [.int ab .u8 n] (.bool ab (isL n)):=by
 refine Za E_ok (Zd E_ok F0_ok 400) ?_;rw[Ztf];unfold isL;refine⟨λh=>⟨λI=> ?_,λI=> ?_⟩,λh=> ?_⟩
 ·rw[h,I];rfl
 ·rw[h,I];rfl
 ·rw[h];rfl
theorem Zy3(n:Int) (v:Bool):Zk E F0 (vc E F0 400) 142 [.int ab .u8 n] hp0 0 (λr=>ret E (patch hp0 0 r) r.v (.bool ab v))=(
(decide ((48:Int)<=n)=ac->(decide (n<=(57:Int))=ac->ac=v)/\(decide (n<=(57:Int))=ab->ab=v))/\(decide ((48:Int)<=n)=ab->ab=v)):=by kernel_rfl
theorem Zy4(n:Int):PureC E 142 [.int ab .u8 n] (.bool ab (isD n)):=by
 refine Za E_ok (Zd E_ok F0_ok 400) ?_;rw[Zy3];unfold isD;refine⟨λh=>⟨λI=> ?_,λI=> ?_⟩,λh=> ?_⟩
 ·rw[h,I];rfl
 ·rw[h,I];rfl
 ·rw[h];rfl
noncomputable def Z42:Sum thy:=sumP (dA1 dU8) (λ_=>True) λx=> .bool ab (isL x.1)
noncomputable def Ybv:Sum thy:=sumP (dA1 dU8) (λ_=>True) λx=> .bool ab (isD x.1)
theorem Zy5:SumOk E 139 Z42:=Yg E_ok (Zc (f:=139) rfl) λx _=>Ztg x.1
theorem Z43:SumOk E 142 Ybv:=Yg E_ok (Zc (f:=142) rfl) λx _=>Zy4 x.1
noncomputable def Flx:Fns thy:=addS (addS F0 139 Z42) 142 Ybv
theorem Z44:FnsOk E Flx:=Zb (Zb F0_ok Zy5) Z43
theorem Z45(n:Int) (v:Bool):Zk E Flx (vc E Flx 400) 141 [.int ab .u8 n] hp0 0 (λr=>ret E (patch hp0 0 r) r.v (.bool ab v))=(
True/\(isL n=ac->ac=v)/\(isL n=ab->True/\isD n=v)):=by kernel_rfl
theorem Z46(n:Int):PureC E 141 [.int ab .u8 n] (.bool ab (isLD n)):=by
 refine Za E_ok (Zd E_ok Z44 400) ?_;rw[Z45];unfold isLD;refine⟨trivial,λh=> ?_,λh=>⟨trivial,?_⟩⟩
 ·rw[h];rfl
 ·rw[h];rfl
noncomputable def Yjj:Sum thy:=sumP (dA1 dU8) (λ_=>True) λx=> .bool ab (isLD x.1)
theorem Yad:SumOk E 141 Yjj:=Yg E_ok (Zc (f:=141) rfl) λx _=>Z46 x.1
def Asp:Fr thy->Hp thy->Nat->Ann thy:=λT h i=>{X:=LX,fr:=λx=> [(0,T 0),(1,T 1),(7,T 7),(8,.int ab .i64 x.k)],bl:=λx=> [],src:=λ_=> [],md:= [],ih:=i,M:=i+30,meas:=λx=>x.r}
noncomputable def Z47:Fns thy:=addL (addS Flx 141 Yjj) 140 2 Asp E
theorem Zv5:FnsOk E Z47:=Zm E_ok (Zb Z44 Yad) _ _ _
def spn(f:Int->Bool):List Nat->Nat
 | []=>0
 |c::r=>if f c then spn f r+1 else 0
theorem Zgl{f:Int->Bool} {s:List Nat} {k c:Nat} (h:s[k]? =ae c):spn f (s.drop k)=if f c then spn f (s.drop (k+1))+1 else 0:=by
 have J:=(ak.1 h).1;have I:s[k]=c:=(ak.1 h).2;rw[cr J,I];rfl
theorem Zqc{f:Int->Bool}:∀{s:List Nat},spn f s<=s.length
 | []=>aw _
 |c::r=>by
  unfold spn
  have:=Zqc (f:=f) (s:=r)
  split
  ·simp;omega
  ·exact bb _
theorem Zy6(s:List Nat) (v:Int):Zk E Z47 (vc E Z47 400) 140 [.str ab s,.fn (.func 141) [] []] hp0 0 (λr=>ret E (patch hp0 0 r) r.v (.int ab .i64 v))=(
∃(R:LX->Prop),(∃(x:LX),R x/\ac=ac/\(s=s/\(cA (141:FuncId)=cA (141:FuncId)/\True/\True)/\(↑(aa s):Int)=(↑(aa s):Int)/\(0:Int)=(↑(LX.k x):Int)/\True)/\True)/\∀(x:LX),R x->(decide ((↑(LX.k x):Int)<(↑(aa s):Int))=ac->(0:Int)<=(↑(LX.k x):Int)/\(↑(LX.k x):Int)+(1:Int)<=(↑(aa s):Int)/\∀(I:Nat),s[ag (↑(LX.k x):Int)]? =ae I->True/\((!isLD (↑I:Int))=ac->(↑(LX.k x):Int)=v)/\((!isLD (↑I:Int))=ab->∃(J:LX),R J/\J.2+(1:Nat)<=x.2/\ac=ac/\(s=s/\(cA (141:FuncId)=cA (141:FuncId)/\True/\True)/\(↑(aa s):Int)=(↑(aa s):Int)/\wr af ((↑(LX.k x):Int)+(1:Int))=(↑(LX.k J):Int)/\True)/\True))/\(decide ((↑(LX.k x):Int)<(↑(aa s):Int))=ab->(↑(aa s):Int)=v)):=by kernel_rfl
theorem Zy7(s:List Nat) (hs:s.length<=1000000000):PureC E 140 [.str ab s,.fn (.func 141) [] []] (.int ab .i64 (spn isLD s)):=by
 refine Za E_ok (Zd E_ok Zv5 400) ?_;rw[Zy6];refine⟨λx=>x.k<=s.length/\x.k+spn isLD (s.drop x.k)=spn isLD s/\x.r=s.length-x.k,⟨⟨0,s.length,[],0⟩,⟨(by dsimp only;omega),by simp,rfl⟩,by simp⟩,?_⟩;rintro x ⟨hk,I,hr⟩;refine⟨λU=> ?_,λU=> ?_⟩
 ·have U:(x.k:Int)<s.length:=by simpa using U
  refine⟨by omega,by omega,λc R=>⟨trivial,λJ=> ?_,λJ=> ?_⟩⟩
  ·have R:s[x.k]? =ae c:=R
   rw[Zgl R] at I;have J:isLD c=false:=by simpa using J
   rw[J] at I;simp at I;rw[<-I]
  ·have R:s[x.k]? =ae c:=R
   rw[Zgl R] at I;have J:isLD c=true:=by simpa using J
   rw[J,if_pos rfl] at I;exact⟨⟨x.k+1,s.length-(x.k+1),[],0⟩,⟨(by dsimp only;omega),(by dsimp only;omega),rfl⟩,(by show s.length-(x.k+1)+1<=x.r;omega),rfl,⟨rfl,⟨rfl,trivial,trivial⟩,rfl,wr64 (by omega) (by omega),trivial⟩,trivial⟩
 ·have U:¬(x.k:Int)<s.length:=by simpa using U
  rw[bF (by omega)] at I;have:x.k=spn isLD s:=by simpa[spn] using I
  omega
theorem Zy8(s:List Nat) (v:Int):Zk E Z47 (vc E Z47 400) 140 [.str ab s,.fn (.func 142) [] []] hp0 0 (λr=>ret E (patch hp0 0 r) r.v (.int ab .i64 v))=(
∃(R:LX->Prop),(∃(x:LX),R x/\ac=ac/\(s=s/\(cA (142:FuncId)=cA (142:FuncId)/\True/\True)/\(↑(aa s):Int)=(↑(aa s):Int)/\(0:Int)=(↑(LX.k x):Int)/\True)/\True)/\∀(x:LX),R x->(decide ((↑(LX.k x):Int)<(↑(aa s):Int))=ac->(0:Int)<=(↑(LX.k x):Int)/\(↑(LX.k x):Int)+(1:Int)<=(↑(aa s):Int)/\∀(I:Nat),s[ag (↑(LX.k x):Int)]? =ae I->True/\((!isD (↑I:Int))=ac->(↑(LX.k x):Int)=v)/\((!isD (↑I:Int))=ab->∃(J:LX),R J/\J.2+(1:Nat)<=x.2/\ac=ac/\(s=s/\(cA (142:FuncId)=cA (142:FuncId)/\True/\True)/\(↑(aa s):Int)=(↑(aa s):Int)/\wr af ((↑(LX.k x):Int)+(1:Int))=(↑(LX.k J):Int)/\True)/\True))/\(decide ((↑(LX.k x):Int)<(↑(aa s):Int))=ab->(↑(aa s):Int)=v)):=by kernel_rfl
theorem Zy9(s:List Nat) (hs:s.length<=1000000000):PureC E 140 [.str ab s,.fn (.func 142) [] []] (.int ab .i64 (spn isD s)):=by
 refine Za E_ok (Zd E_ok Zv5 400) ?_;rw[Zy8];refine⟨λx=>x.k<=s.length/\x.k+spn isD (s.drop x.k)=spn isD s/\x.r=s.length-x.k,⟨⟨0,s.length,[],0⟩,⟨(by dsimp only;omega),by simp,rfl⟩,by simp⟩,?_⟩;rintro x ⟨hk,I,hr⟩;refine⟨λU=> ?_,λU=> ?_⟩
 ·have U:(x.k:Int)<s.length:=by simpa using U
  refine⟨by omega,by omega,λc R=>⟨trivial,λJ=> ?_,λJ=> ?_⟩⟩
  ·have R:s[x.k]? =ae c:=R
   rw[Zgl R] at I;have J:isD c=false:=by simpa using J
   rw[J] at I;simp at I;rw[<-I]
  ·have R:s[x.k]? =ae c:=R
   rw[Zgl R] at I;have J:isD c=true:=by simpa using J
   rw[J,if_pos rfl] at I;exact⟨⟨x.k+1,s.length-(x.k+1),[],0⟩,⟨(by dsimp only;omega),(by dsimp only;omega),rfl⟩,(by show s.length-(x.k+1)+1<=x.r;omega),rfl,⟨rfl,⟨rfl,trivial,trivial⟩,rfl,wr64 (by omega) (by omega),trivial⟩,trivial⟩
 ·have U:¬(x.k:Int)<s.length:=by simpa using U
  rw[bF (by omega)] at I;have:x.k=spn isD s:=by simpa[spn] using I
  omega
def Anu:Fr thy->Hp thy->Nat->Ann thy:=λT h i=>{X:=LX,fr:=λx=> [(0,T 0),(4,.int ab .i64 x.m),(15,T 15),(16,.int ab .i64 x.k)],bl:=λx=> [],src:=λ_=> [],md:= [],ih:=i,M:=i+30,meas:=λx=>x.r}
noncomputable def Fnum:Fns thy:=addL F0 143 5 Anu E
theorem Yfu:FnsOk E Fnum:=Zm E_ok F0_ok _ _ _
def numL(n:Int):List Nat->Int×Int
 | []=>(n,0)
 |c::r=>if 10*n+(c-48)>1099511627776 then(0,2) else numL (10*n+(c-48)) r
def numb(s:List Nat):Int×Int:=if 1<s.length/\s.head? =ae 48 then(0,150) else numL 0 s
theorem Z48{n:Int} {s:List Nat} {k c:Nat} (h:s[k]? =ae c):numL n (s.drop k)=if 10*n+(c-48)>1099511627776 then(0,2) else numL (10*n+(c-48)) (s.drop (k+1)):=by
 have J:=(ak.1 h).1;have I:s[k]=c:=(ak.1 h).2;rw[cr J,I];rfl
abbrev qBW1(I:LX) (J:Nat):=(wr af ((10:Int)*LX.m I)+wr af (wr IntKind.u8 ((↑J:Int)-(48:Int))))
abbrev qBW2(I:List Nat):=(↑(aa I):Int)
abbrev qBW3(I:LX):=(↑(LX.k I):Int)
abbrev qBW4:=(0:Int)
theorem Zth(s:List Nat) (v e:Int):Zk E Fnum (vc E Fnum 400) 143 [.str ab s] hp0 0 (λr => ret E (patch hp0 0 r) r.v (.tup [.int ab .i64 v,.int ab .i64 e])) = (
 ∃ (Q:Bool->Prop),((decide ((qBW2 s) > (1:Int)) = ac->qBW4<=qBW4/\qBW4 + (1:Int)<=(qBW2 s)/\∀ (x:Nat),s[ag qBW4]? = ae x->(((↑x:Int) == (48:Int)) = ac->Q ac)/\(((↑x:Int) == (48:Int)) = ab->Q ab))/\(decide ((qBW2 s) > (1:Int)) = ab->Q ab))/\(Q ac->qBW4 = v/\(150:Int) = e/\True)/\(Q ab->∃ (R:LX->Prop),(∃ (x:LX),R x/\ac = ac/\(s = s/\qBW4 = LX.m x/\(qBW2 s) = (qBW2 s)/\qBW4 = (qBW3 x)/\True)/\True)/\∀ (x:LX),R x->(decide ((qBW3 x) < (qBW2 s)) = ac->qBW4<=(qBW3 x)/\(qBW3 x) + (1:Int)<=(qBW2 s)/\∀ (I:Nat),s[ag (qBW3 x)]? = ae I->(decide (wr af (qBW1 x I) > (1099511627776:Int)) = ac->qBW4 = v/\(2:Int) = e/\True)/\(decide (wr af (qBW1 x I) > (1099511627776:Int)) = ab->∃ (J:LX),R J/\J.2 + (1:Nat)<=x.2/\ac = ac/\(s = s/\wr af (qBW1 x I) = LX.m J/\(qBW2 s) = (qBW2 s)/\wr af ((qBW3 x) + (1:Int)) = (qBW3 J)/\True)/\True))/\(decide ((qBW3 x) < (qBW2 s)) = ab->LX.m x = v/\qBW4 = e/\True))):=by kernel_rfl
theorem Zti(s : List Nat) (hs : s.length ≤ 1000000000) (hd : ∀ c ∈ s, 48 ≤ c ∧ c ≤ 57) : PureC E 143 [.str ab s] (.tup [.int ab .i64 (numb s).1, .int ab .i64 (numb s).2]) := by
  refine Za E_ok (Zd E_ok Yfu 400) ?_;rw[Zth]; delta qBW1 qBW2 qBW3 qBW4;refine⟨λb => b = decide (1 < s.length ∧ s.head? = ae 48), ⟨λh => ?_, λh => ?_⟩, λh => ?_, λh => ?_⟩
  ·have h : (1 : Int) < s.length := by simpa using h
   refine⟨bV 0, by omega, λx hx => ?_⟩;have hx : s[0]? = ae x := hx;rw[List.head?_eq_getElem?, hx];refine⟨λh2 => ?_, λh2 => ?_⟩
   ·have h2 : x = 48 := by have : (x : Int) = 48 := by simpa using h2
                           omega
    simp[h2]; omega
   ·have h2 : x ≠ 48 := by
      intro e;subst e;simp at h2
    simp[h2]
  ·have h : ¬ (1 : Int) < s.length := by simpa using h
   have : ¬ 1 < s.length := by omega
   simp[this]
  ·have h := (decide_eq_true_iff.1 h.symm)
   unfold numb;rw[if_pos h];exact⟨rfl, rfl, trivial⟩
  ·have h := (decide_eq_false_iff_not.1 h.symm)
   have hn : numb s = numL 0 s := by unfold numb; rw[if_neg h]
   rw[hn];refine⟨λx => x.k ≤ s.length ∧ numL x.m (s.drop x.k) = numL 0 s ∧ 0 ≤ x.m ∧ x.m ≤ 1099511627776 ∧ x.r = s.length - x.k, ⟨⟨0, s.length, [], 0⟩, ⟨(by dsimp only; omega), rfl, bV 0, (by show(0:Int) ≤ 1099511627776; omega), rfl⟩, by simp⟩, ?_⟩;rintro x ⟨hk, hv, hm0, hm1, hr⟩;refine⟨λhq => ?_, λhq => ?_⟩
   ·have hq : (x.k : Int) < s.length := by simpa using hq
    refine⟨by omega, by omega, λc hc => ?_⟩;have hc : s[x.k]? = ae c := hc;have hcd := hd c (aI hc);have w0 : wr .u8 ((c : Int) - 48) = c - 48 := by simp only[wr, IntKind.wrap_u8]; omega
    have w1 : wr .i64 (10 * x.m) = 10 * x.m := wr64 (by omega) (by omega);have w2 : wr .i64 ((c : Int) - 48) = c - 48 := wr64 (by omega) (by omega);have w3 : wr .i64 (10 * x.m + ((c : Int) - 48)) = 10 * x.m + (c - 48) := wr64 (by omega) (by omega);rw[w0, w1, w2, w3];rw[Z48 hc] at hv;refine⟨λh2 => ?_, λh2 => ?_⟩
    ·have h2 : 10 * x.m + ((c : Int) - 48) > 1099511627776 := by simpa using h2
     rw[if_pos h2] at hv;rw[← hv];exact⟨rfl, rfl, trivial⟩
    ·have h2 : ¬ 10 * x.m + ((c : Int) - 48) > 1099511627776 := by simpa using h2
     rw[if_neg h2] at hv;exact⟨⟨x.k + 1, s.length - (x.k + 1), [], 10 * x.m + (c - 48)⟩, ⟨(by dsimp only; omega), hv, (by dsimp only; omega), (by dsimp only; omega), rfl⟩, (by show s.length - (x.k + 1) + 1 ≤ x.r; omega), rfl, ⟨rfl, rfl, rfl, wr64 (by omega) (by omega), trivial⟩, trivial⟩
   ·have hq : ¬ (x.k : Int) < s.length := by simpa using hq
    rw[bF (by omega)] at hv;rw[← hv];exact⟨rfl, rfl, trivial⟩
noncomputable def dSF:Dc E Bool where
 dec v:=match v with| .fn (.func f) [] []=>(match aK f 141 with|true=>ae ac|false=>(match aK f 142 with|true=>ae ab|false=>au))|_=>au
 enc b:= .fn (.func (bif b then 141 else 142)) [] []
 ok v a h:=by
  split at h
  ·rename_i f
   split at h
   ·rename_i e
    cases h
    have e:=ax e
    cases e
    exact⟨rfl,rfl,λσ g u hd=>hd⟩
   ·split at h
    ·rename_i e
     cases h
     have e:=ax e
     cases e
     exact⟨rfl,rfl,λσ g u hd=>hd⟩
    ·cases h
  ·cases h
def spF(b:Bool) (s:List Nat):Nat:=bif b then spn isLD s else spn isD s
noncomputable def Yjk:Sum thy:=Wf (DcL.cons dS (DcL.cons dSF DcL.nil)) (λx=>x.1.length<=1000000000) (λx=>spF x.2.1 x.1) λ(y:Nat)=> .int ab .i64 y
theorem Yae:SumOk E 140 Yjk:=Zy E_ok (Zc (f:=140) rfl) λx h=>by
 obtain⟨s,b,_⟩:=x;cases b with
 |true=>exact Zy7 s h
 |false=>exact Zy9 s h
noncomputable def Z49:Sum thy:=Wf (dA1 dS) (λx=>x.1.length<=1000000000/\∀c∈x.1,48<=c/\c<=57) (λx=>numb x.1) λy=> .tup [.int ab .i64 y.1,.int ab .i64 y.2]
theorem Zza:SumOk E 143 Z49:=Zy E_ok (Zc (f:=143) rfl) λx h=>Zti x.1 h.1 h.2
noncomputable def Ftok:Fns thy:=addS (addS Flx 140 Yjk) 143 Z49
theorem Yfv:FnsOk E Ftok:=Zb (Zb Z44 Yae) Zza
def tokV(t:Tok):SV thy:= .agg [.int ab .i64 t.kind,.str ab t.text,.int ab .i64 t.n,.int ab .i64 t.at_]
abbrev Yl(t:Tok):Prop:=
 (0:Int)=cu t/\ []=cH t/\(0:Int)=fq t/\(0:Int)=di t/\True
abbrev X5(s:List Nat) (t:Tok) (e:Int):Prop:=
 decide ((↑(aa s):Int)>=(1:Int))=ab->(Yl t)/\(150:Int)=e/\True
abbrev X6(s:List Nat):Prop:=
 (0:Int)<=(1:Int)/\(1:Int)<=(↑(aa s):Int)
abbrev qBW5:=(ag (1:Int))
abbrev qBW8(I:List Nat):=(↑(aa I):Int)
abbrev qBW6(I:List Nat):=((qBW8 I)>=(1:Int))
abbrev qBW7:=(0:Int)
abbrev qBW9:=(150:Int)
abbrev qBWc(I:Nat):=(↑I:Int)
abbrev qBWa(I:Nat):=(ag (qBWc I))
abbrev qBWb:=(3:Int)
theorem Zzb(s:List Nat) (t:Tok) (e:Int):Zk E Ftok (vc E Ftok 400) 87 [.str ab s] hp0 0 (λr=>ret E (patch hp0 0 r) r.v (.tup [tokV t,.int ab .i64 e]))=(
 qBW7<=qBW7/\qBW7+(1:Int)<=(qBW8 s)/\∀(x:Nat),s[ag qBW7]? =ae x->True/\(isL (qBWc x)=ac->aa s<=(1000000000:Nat)/\∀(y:Nat),y=spF ac s->(qBW7<=(qBWc y)/\(qBWc y)<=(qBW8 s))/\(decide ((↑(aa (av (qBWa y) s)):Int)>(32:Int))=ac->(Yl t)/\(2:Int)=e/\True)/\(decide ((↑(aa (av (qBWa y) s)):Int)>(32:Int))=ab->((1:Int)=cu t/\av (qBWa y) s=cH t/\qBW7=fq t/\qBW7=di t/\True)/\qBW7=e/\True))/\(isL (qBWc x)=ab->True/\(isD (qBWc x)=ac->aa s<=(1000000000:Nat)/\∀(y:Nat),y=spF ab s->(qBW7<=(qBWc y)/\(qBWc y)<=(qBW8 s))/\(aa (av (qBWa y) s)<=(1000000000:Nat)/\∀(c:Nat),c∈av (qBWa y) s->(48:Nat)<=c/\c<=(57:Nat))/\∀(I:Int×Int),I=numb (av (qBWa y) s)->((2:Int)=cu t/\av (qBWa y) s=cH t/\ao I=fq t/\qBW7=di t/\True)/\aE I=e/\True)/\(isD (qBWc x)=ab->qBW7<=qBW7/\qBW7+(1:Int)<=(qBW8 s)/\∀(x:Nat),s[ag qBW7]? =ae x->(((qBWc x)==(↑(123:Nat):Int))=ac->(decide (qBW6 s)=ac->(X6 s)/\((av qBW5 s== [(123:Nat)])=ac->(qBWb=cu t/\ [(123:Nat)]=cH t/\qBW7=fq t/\qBW7=di t/\True)/\qBW7=e/\True)/\((av qBW5 s== [(123:Nat)])=ab->(Yl t)/\qBW9=e/\True))/\(X5 s t e))/\(((qBWc x)==(↑(123:Nat):Int))=ab->(((qBWc x)==(↑(125:Nat):Int))=ac->(decide (qBW6 s)=ac->(X6 s)/\((av qBW5 s== [(125:Nat)])=ac->(qBWb=cu t/\ [(125:Nat)]=cH t/\qBW7=fq t/\qBW7=di t/\True)/\qBW7=e/\True)/\((av qBW5 s== [(125:Nat)])=ab->(Yl t)/\qBW9=e/\True))/\(X5 s t e))/\(((qBWc x)==(↑(125:Nat):Int))=ab->(((qBWc x)==(↑(40:Nat):Int))=ac->(decide (qBW6 s)=ac->(X6 s)/\((av qBW5 s== [(40:Nat)])=ac->(qBWb=cu t/\ [(40:Nat)]=cH t/\qBW7=fq t/\qBW7=di t/\True)/\qBW7=e/\True)/\((av qBW5 s== [(40:Nat)])=ab->(Yl t)/\qBW9=e/\True))/\(X5 s t e))/\(((qBWc x)==(↑(40:Nat):Int))=ab->(((qBWc x)==(↑(41:Nat):Int))=ac->(decide (qBW6 s)=ac->(X6 s)/\((av qBW5 s== [(41:Nat)])=ac->(qBWb=cu t/\ [(41:Nat)]=cH t/\qBW7=fq t/\qBW7=di t/\True)/\qBW7=e/\True)/\((av qBW5 s== [(41:Nat)])=ab->(Yl t)/\qBW9=e/\True))/\(X5 s t e))/\(((qBWc x)==(↑(41:Nat):Int))=ab->(((qBWc x)==(↑(59:Nat):Int))=ac->(decide (qBW6 s)=ac->(X6 s)/\((av qBW5 s== [(59:Nat)])=ac->(qBWb=cu t/\ [(59:Nat)]=cH t/\qBW7=fq t/\qBW7=di t/\True)/\qBW7=e/\True)/\((av qBW5 s== [(59:Nat)])=ab->(Yl t)/\qBW9=e/\True))/\(X5 s t e))/\(((qBWc x)==(↑(59:Nat):Int))=ab->(((qBWc x)==(↑(44:Nat):Int))=ac->(decide (qBW6 s)=ac->(X6 s)/\((av qBW5 s== [(44:Nat)])=ac->(qBWb=cu t/\ [(44:Nat)]=cH t/\qBW7=fq t/\qBW7=di t/\True)/\qBW7=e/\True)/\((av qBW5 s== [(44:Nat)])=ab->(Yl t)/\qBW9=e/\True))/\(X5 s t e))/\(((qBWc x)==(↑(44:Nat):Int))=ab->(((qBWc x)==(↑(43:Nat):Int))=ac->(decide (qBW6 s)=ac->(X6 s)/\((av qBW5 s== [(43:Nat)])=ac->(qBWb=cu t/\ [(43:Nat)]=cH t/\qBW7=fq t/\qBW7=di t/\True)/\qBW7=e/\True)/\((av qBW5 s== [(43:Nat)])=ab->(Yl t)/\qBW9=e/\True))/\(X5 s t e))/\(((qBWc x)==(↑(43:Nat):Int))=ab->(((qBWc x)==(↑(45:Nat):Int))=ac->(decide (qBW6 s)=ac->(X6 s)/\((av qBW5 s== [(45:
Nat)])=ac->(qBWb=cu t/\ [(45:Nat)]=cH t/\qBW7=fq t/\qBW7=di t/\True)/\qBW7=e/\True)/\((av qBW5 s== [(45:Nat)])=ab->(Yl t)/\qBW9=e/\True))/\(X5 s t e))/\(((qBWc x)==(↑(45:Nat):Int))=ab->(((qBWc x)==(↑(42:Nat):Int))=ac->(decide (qBW6 s)=ac->(X6 s)/\((av qBW5 s== [(42:Nat)])=ac->(qBWb=cu t/\ [(42:Nat)]=cH t/\qBW7=fq t/\qBW7=di t/\True)/\qBW7=e/\True)/\((av qBW5 s== [(42:Nat)])=ab->(Yl t)/\qBW9=e/\True))/\(X5 s t e))/\(((qBWc x)==(↑(42:Nat):Int))=ab->(((qBWc x)==(↑(60:Nat):Int))=ac->(decide (qBW6 s)=ac->(X6 s)/\((av qBW5 s== [(60:Nat)])=ac->(qBWb=cu t/\ [(60:Nat)]=cH t/\qBW7=fq t/\qBW7=di t/\True)/\qBW7=e/\True)/\((av qBW5 s== [(60:Nat)])=ab->(Yl t)/\qBW9=e/\True))/\(X5 s t e))/\(((qBWc x)==(↑(60:Nat):Int))=ab->(((qBWc x)==(↑(46:Nat):Int))=ac->(decide ((qBW8 s)>=(2:Int))=ac->(qBW7<=(2:Int)/\(2:Int)<=(qBW8 s))/\((av (ag (2:Int)) s== [(46:Nat),(46:Nat)])=ac->(qBWb=cu t/\ [(46:Nat),(46:Nat)]=cH t/\qBW7=fq t/\qBW7=di t/\True)/\qBW7=e/\True)/\((av (ag (2:Int)) s== [(46:Nat),(46:Nat)])=ab->(Yl t)/\qBW9=e/\True))/\(decide ((qBW8 s)>=(2:Int))=ab->(Yl t)/\qBW9=e/\True))/\(((qBWc x)==(↑(46:Nat):Int))=ab->(Yl t)/\qBW9=e/\True)))))))))))))):=by kernel_rfl
def sgnW(c:Nat):Option (List Nat):=
 if c=123 then ae [123] else if c=125 then ae [125] else if c=40 then ae [40] else if c=41 then ae [41] else if c=59 then ae [59] else if c=44 then ae [44]
 else if c=43 then ae [43] else if c=45 then ae [45] else if c=42 then ae [42] else if c=60 then ae [60] else if c=46 then ae [46,46] else au
def z0:Tok:=⟨0,[],0,0⟩
def tokS(s w:List Nat):Tok×Int:=if s.take w.length=w then(⟨3,w,0,0⟩,0) else(z0,150)
def tokP:List Nat->Tok×Int
 | []=>(z0,150)
 |c::r=>if isL c then(if 32<spn isLD (c::r) then(z0,2) else(⟨1,(c::r).take (spn isLD (c::r)),0,0⟩,0))
  else if isD c then(⟨2,(c::r).take (spn isD (c::r)),(numb ((c::r).take (spn isD (c::r)))).1,0⟩,(numb ((c::r).take (spn isD (c::r)))).2)
  else match sgnW c with|some w=>tokS (c::r) w|none=>(z0,150)
theorem W4(c:Nat) (r:List Nat):tokP (c::r)=if isL c then(if 32<spn isLD (c::r) then(z0,2) else(⟨1,(c::r).take (spn isLD (c::r)),0,0⟩,0))
 else if isD c then(⟨2,(c::r).take (spn isD (c::r)),(numb ((c::r).take (spn isD (c::r)))).1,0⟩,(numb ((c::r).take (spn isD (c::r)))).2)
 else match sgnW c with|some w=>tokS (c::r) w|none=>(z0,150):=rfl
theorem Ztj{f:Int->Bool}:∀{s:List Nat} {c:Nat},c∈s.take (spn f s)->f c=ac
 | [],c,h=>by simp at h
 |x::r,c,h=>by
  unfold spn at h
  split at h
  ·rename_i I
   rw[List.take_succ_cons,aL] at h
   rcases h with rfl|h
   ·exact I
   ·exact Ztj h
  ·simp at h
theorem Za4(s w:List Nat) (k:Int) (J:k=w.length):
 (decide ((↑(aa s):Int)>=k)=ac->((0:Int)<=k/\k<=(↑(aa s):Int))/\((av (ag k) s==w)=ac->((3:Int)=cu (tokS s w).1/\w=cH (tokS s w).1/\(0:Int)=fq (tokS s w).1/\(0:Int)=di (tokS s w).1/\True)/\(0:Int)=(tokS s w).2/\True)/\
  ((av (ag k) s==w)=ab->((0:Int)=cu (tokS s w).1/\ []=cH (tokS s w).1/\(0:Int)=fq (tokS s w).1/\(0:Int)=di (tokS s w).1/\True)/\(150:Int)=(tokS s w).2/\True))/\
 (decide ((↑(aa s):Int)>=k)=ab->((0:Int)=cu (tokS s w).1/\ []=cH (tokS s w).1/\(0:Int)=fq (tokS s w).1/\(0:Int)=di (tokS s w).1/\True)/\(150:Int)=(tokS s w).2/\True):=by
 have e:ag k=w.length:=by omega
 rw[e]
 unfold tokS
 refine⟨λh=> ?_,λh=> ?_⟩
 ·have h:(s.length:Int)>=k:=by simpa using h
  refine⟨⟨by omega,by omega⟩,λI=> ?_,λI=> ?_⟩
  ·have I:av w.length s=w:=by simpa using I
   rw[if_pos I]
   exact⟨⟨rfl,rfl,rfl,rfl,trivial⟩,rfl,trivial⟩
  ·have I:av w.length s≠w:=by simpa using I
   rw[if_neg I]
   exact⟨⟨rfl,rfl,rfl,rfl,trivial⟩,rfl,trivial⟩
 ·have h:¬(s.length:Int)>=k:=by simpa using h
  have I:av w.length s≠w:=λe=>by
   have:=congrArg aa e
   rw[be] at this
   omega
  rw[if_neg I]
  exact⟨⟨rfl,rfl,rfl,rfl,trivial⟩,rfl,trivial⟩
theorem Zzc(s : List Nat) (h0 : 0 < s.length) (hs : s.length ≤ 1000000000) : PureC E 87 [.str ab s] (.tup [tokV (tokP s).1, .int ab .i64 (tokP s).2]) := by
  refine Za E_ok (Zd E_ok Yfv 400) ?_;rw[Zzb]; delta qBW5 qBW8 qBW6 qBW7 qBW9 qBWc qBWa qBWb;unfold X6 X5 Yl;cases s with
  | nil => exact absurd h0 (by simp)
  | cons c r =>
  refine⟨bV 0, by simp only[aD]; omega, λx R => ?_⟩;have R : (c :: r)[0]? = ae x := R;rw[cW] at R;cases R;refine⟨trivial, λU => ?_, λU => ?_⟩
  ·refine⟨hs, λy J => ?_⟩
   have J : y = spn isLD (c :: r) := J;have a0 : y ≤ (c :: r).length := J ▸ Zqc;have hm : min y (c :: r).length = y := iL a0;have e1 : ag (y : Int) = y := by omega
   rw[e1, be, hm];rw[W4, if_pos U, ← J];refine⟨⟨by omega, by omega⟩, λh => ?_, λh => ?_⟩
   ·have h : (32 : Int) < y := by simpa using h
    rw[if_pos (by omega)];exact⟨⟨rfl, rfl, rfl, rfl, trivial⟩, rfl, trivial⟩
   ·have h : ¬ (32 : Int) < y := by simpa using h
    rw[if_neg (by omega)];exact⟨⟨rfl, rfl, rfl, rfl, trivial⟩, rfl, trivial⟩
  refine⟨trivial, λhd => ?_, λhd => ?_⟩
  ·refine⟨hs, λy J => ?_⟩
   have J : y = spn isD (c :: r) := J;have a0 : y ≤ (c :: r).length := J ▸ Zqc;have hm : min y (c :: r).length = y := iL a0;have e1 : ag (y : Int) = y := by omega
   rw[e1, be, hm];rw[W4, if_neg (by rw[U]; decide), if_pos hd, ← J];refine⟨⟨by omega, by omega⟩, ⟨by omega, λc' a1 => ?_⟩, λq hq => ?_⟩
   ·rw[J] at a1
    have := Ztj a1;unfold isD at this;simp at this;omega
   ·subst hq
    exact⟨⟨rfl, rfl, rfl, rfl, trivial⟩, rfl, trivial⟩
  refine⟨bV 0, by simp only[aD]; omega, λx R => ?_⟩;have R : (c :: r)[0]? = ae x := R;rw[cW] at R;cases R;have hp : ∀ w, sgnW c = ae w → tokP (c :: r) = tokS (c :: r) w := λw hw => by
    rw[W4, if_neg (by rw[U]; decide), if_neg (by rw[hd]; decide), hw]
  have I : ∀ (n : Nat) (w : List Nat), sgnW n = ae w → ((c : Int) == (n : Int)) = ac → tokP (c :: r) = tokS (c :: r) w := λn w hw h => by
    have : c = n := by have : (c : Int) = n := by simpa using h
                       omega
    subst this;exact hp w hw
  refine⟨λh => by rw[I _ _ rfl h]; exact Za4 _ _ _ rfl, λh1 => ?_⟩;refine⟨λh => by rw[I _ _ rfl h]; exact Za4 _ _ _ rfl, λh2 => ?_⟩;refine⟨λh => by rw[I _ _ rfl h]; exact Za4 _ _ _ rfl, λh3 => ?_⟩;refine⟨λh => by rw[I _ _ rfl h]; exact Za4 _ _ _ rfl, λh4 => ?_⟩;refine⟨λh => by rw[I _ _ rfl h]; exact Za4 _ _ _ rfl, λh5 => ?_⟩;refine⟨λh => by rw[I _ _ rfl h]; exact Za4 _ _ _ rfl, λh6 => ?_⟩;refine⟨λh => by rw[I _ _ rfl h]; exact Za4 _ _ _ rfl, λh7 => ?_⟩;refine⟨λh => by rw[I _ _ rfl h]; exact Za4 _ _ _ rfl, λh8 => ?_⟩
  refine⟨λh => by rw[I _ _ rfl h]; exact Za4 _ _ _ rfl, λh9 => ?_⟩;refine⟨λh => by rw[I _ _ rfl h]; exact Za4 _ _ _ rfl, λa2 => ?_⟩;refine⟨λh => by rw[I _ _ rfl h]; exact Za4 _ _ _ rfl, λa3 => ?_⟩;have hn : sgnW c = none := by
    have f : ∀ n : Nat, ((c : Int) == (n : Int)) = ab → c ≠ n := λn h e => by subst e; simp at h
    unfold sgnW;rw[if_neg (f _ h1), if_neg (f _ h2), if_neg (f _ h3), if_neg (f _ h4), if_neg (f _ h5), if_neg (f _ h6), if_neg (f _ h7), if_neg (f _ h8), if_neg (f _ h9), if_neg (f _ a2), if_neg (f _ a3)]
  have : tokP (c :: r) = (z0, 150) := by
    rw[W4, if_neg (by rw[U]; decide), if_neg (by rw[hd]; decide), hn]
  rw[this];exact⟨⟨rfl, rfl, rfl, rfl, trivial⟩, rfl, trivial⟩
noncomputable def Ybw:Sum thy:=Wf (dA1 dS) (λx=>0<x.1.length/\x.1.length<=1000000000) (λx=>tokP x.1) λy=> .tup [tokV y.1,.int ab .i64 y.2]
theorem Z5a:SumOk E 87 Ybw:=Zy E_ok (Zc (f:=87) rfl) λx h=>Zzc x.1 h.1 h.2
structure TkX where
 at_:Nat
 ts:List Tok
 r:Nat
def Atk:Fr thy->Hp thy->Nat->Ann thy:=λT h i=>{X:=Bool×TkX,fr:=λx=> [(0,T 0),(5,match x.1 with|true=> .sl i 0 x.2.ts.length 4 au|false=> .val (.slice au 0 0)),(6,.int ab .i64 x.2.at_)],bl:=λx=>(match x.1 with|true=> [(i,.rows de x.2.ts 0)]|false=> []),src:=λx=>(match x.1 with|true=> [(i,5)]|false=> []),md:= [],ih:=i+1,M:=i+60,meas:=λx=>x.2.r,ex:=ex2,al:=al2,exOk:=Ziy,alOk:=Ziz}
noncomputable def Ftk:Fns thy:=addL (addS F0 87 Ybw) 44 5 Atk E
theorem Yjl:FnsOk E Ftk:=Zm E_ok (Zb F0_ok Z5a) _ _ _
abbrev Za5(R:Bool×TkX->Prop) (y:TkX) (s:List Nat):Prop:=
 ∃(I:TkX),R (ab,I)/\I.3+(1:Nat)<=y.3/\ac=ac/\(s=s/\aG au (0:Nat) (0:Nat)=aG au (0:Nat) (0:Nat)/\wr af
 ((↑(TkX.at_ y):Int)+(1:Int))=(↑(TkX.at_ I):Int)/\True)/\True
abbrev Za6(R:Bool×TkX->Prop) (y:TkX) (s:List Nat):Prop:=
 ∃(I:TkX),R (ab,I)/\I.3+(1:Nat)<=y.3/\ac=ac/\(s=s/\False/\wr af ((↑(TkX.at_ y):Int)+(1:Int))=(↑(TkX.at_ I):Int)/\True)/\True
abbrev Za7(s:List Nat) (y:TkX) (I:TkX):Prop:=
 s=s/\((0:Nat)=(0:Nat)/\aa (TkX.ts y)=aa (TkX.ts I)/\True)/\wr af ((↑(TkX.at_ y):Int)+(1:Int))=(↑(TkX.at_ I):Int)/\True
abbrev Za8(y:TkX) (s:List Nat):Prop:=
 idxL (ag (10:Int)%(256:Nat)) (0:Nat) (cj (ag (↑(TkX.at_ y):Int)) s)<(0:Int)
abbrev Zeg(y:TkX) (s:List Nat):=
 ((↑(TkX.at_ y):Int)+wr af (idxL (ag (10:Int)%(256:Nat)) (0:Nat) (cj (ag (↑(TkX.at_ y):Int)) s)+(1:Int)))
abbrev Za9(y:TkX) (s:List Nat):Prop:=
 (0:Int)<=(↑(TkX.at_ y):Int)/\(↑(TkX.at_ y):Int)<=(↑(aa s):Int)
abbrev Zba(y:TkX) (I:Tok×Int):=
 ((↑(TkX.at_ y):Int)+(↑(aa (cH (ao I))):Int))
abbrev Zi3(y:TkX) (s:List Nat):Prop:=
 (0:Nat)+(1:Nat)<=aa (cj (ag (↑(TkX.at_ y):Int)) s)/\aa (cj (ag (↑(TkX.at_ y):Int)) s)<=(1000000000:Nat)
abbrev qBWd(I:TkX):=(↑(TkX.at_ I):Int)
abbrev qBWe:=(0:Nat)
abbrev qBWf(I:List Nat):=(↑(aa I):Int)
abbrev qBWg:=(1:Nat)
abbrev qBWh:=(0:Int)
abbrev qBWi(I:TkX) (J:TkX):=(TkX.ts I=TkX.ts J/\qBWe=qBWe)
abbrev qBWj(I:TkX) (J:List Tok):=(qBWe+aa (TkX.ts I)<=aa (TkX.ts I)/\av (aa (TkX.ts I)) (TkX.ts I)=J)
theorem Ztk(s:List Nat) (l:List Tok) (a e:Int):Zk E Ftk (vc E Ftk 400) 44 [.str ab s] hp0 0 (λr=>ret E (patch hp0 0 r) r.v (.tup [.psl de l ab,.int ab .i64 a,.int ab .i64 e]))=(
 (decide ((qBWf s)>(2000:Int))=ac->l= []/\qBWh=a/\(2:Int)=e/\True)/\(decide ((qBWf s)>(2000:Int))=ab->∃(R:Bool×TkX->Prop),((∃(y:TkX),R (ab,y)/\ac=ac/\(s=s/\aG au qBWe qBWe=aG au qBWe qBWe/\qBWh=(qBWd y)/\True)/\True)\/∃(y:TkX),R (ac,y)/\ac=ac/\False)/\(∀(y:TkX),R (ab,y)->(decide ((qBWd y)<(qBWf s))=ac->qBWh<=(qBWd y)/\(qBWd y)+(1:Int)<=(qBWf s)/\∀(x:Nat),s[ag (qBWd y)]? =ae x->(((↑x:Int)==(32:Int))=ac->(Za5 R y s)\/∃(I:TkX),R (ac,I)/\I.3+qBWg<=y.3/\ac=ac/\False)/\(((↑x:Int)==(32:Int))=ab->(((↑x:Int)==(9:Int))=ac->(Za5 R y s)\/∃(I:TkX),R (ac,I)/\I.3+qBWg<=y.3/\ac=ac/\False)/\(((↑x:Int)==(9:Int))=ab->(((↑x:Int)==(13:Int))=ac->(Za5 R y s)\/∃(I:TkX),R (ac,I)/\I.3+qBWg<=y.3/\ac=ac/\False)/\(((↑x:Int)==(13:Int))=ab->(((↑x:Int)==(10:Int))=ac->(Za5 R y s)\/∃(I:TkX),R (ac,I)/\I.3+qBWg<=y.3/\ac=ac/\False)/\(((↑x:Int)==(10:Int))=ab->(((↑x:Int)==(35:Int))=ac->(Za9 y s)/\(decide (Za8 y s)=ac->l= []/\qBWh=a/\qBWh=e/\True)/\(decide (Za8 y s)=ab->(∃(I:TkX),R (ab,I)/\I.3+qBWg<=y.3/\ac=ac/\(s=s/\aG au qBWe qBWe=aG au qBWe qBWe/\wr af (Zeg y s)=(qBWd I)/\True)/\True)\/∃(I:TkX),R (ac,I)/\I.3+qBWg<=y.3/\ac=ac/\False))/\(((↑x:Int)==(35:Int))=ab->(Za9 y s)/\(Zi3 y s)/\∀(I:Tok×Int),I=tokP (cj (ag (qBWd y)) s)->((aE I !=qBWh)=ac->l= []/\(qBWd y)=a/\aE I=e/\True)/\((aE I !=qBWh)=ab->(∃(J:TkX),R (ab,J)/\J.3+qBWg<=y.3/\ac=ac/\(s=s/\False/\wr af (Zba y I)=(qBWd J)/\True)/\True)\/∃(J:TkX),R (ac,J)/\J.3+qBWg<=y.3/\ac=ac/\(s=s/\(qBWe=qBWe/\qBWg=aa (TkX.ts J)/\True)/\wr af (Zba y I)=(qBWd J)/\True)/\([Tok.mk (cu (ao I)) (cH (ao I)) (fq (ao I)) (qBWd y)]=TkX.ts J/\qBWe=qBWe)/\True)))))))/\(decide ((qBWd y)<(qBWf s))=ab->l= []/\qBWh=a/\qBWh=e/\True))/\∀(y:TkX),R (ac,y)->(decide ((qBWd y)<(qBWf s))=ac->qBWh<=(qBWd y)/\(qBWd y)+(1:Int)<=(qBWf s)/\∀(x:Nat),s[ag (qBWd y)]? =ae x->(((↑x:Int)==(32:Int))=ac->(Za6 R y s)\/∃(I:TkX),R (ac,I)/\I.3+qBWg<=y.3/\ac=ac/\(Za7 s y I)/\(qBWi y I)/\True)/\(((↑x:Int)==(32:Int))=ab->(((↑x:Int)==(9:Int))=ac->(Za6 R y s)\/∃(I:TkX),R (ac,I)/\I.3+qBWg<=y.3/\ac=ac/\(Za7 s y I)/\(qBWi y I)/\True)/\(((↑x:Int)==(9:Int))=ab->(((↑x:Int)==(13:Int))=ac->(Za6 R y s)\/∃(I:TkX),R (ac,I)/\I.3+qBWg<=y.3/\ac=ac/\(Za7 s y I)/\(qBWi y I)/\True)/\(((↑x:Int)==(13:Int))=ab->(((↑x:Int)==(10:Int))=ac->(Za6 R y s)\/∃(I:TkX),R (ac,I)/\I.3+qBWg<=y.3/\ac=ac/\(Za7 s y I)/\(qBWi y I)/\True)/\(((↑x:Int)==(10:Int))=ab->(((↑x:Int)==(35:Int))=ac->(Za9 y s)/\(decide (Za8 y s)=ac->(qBWj y l)/\qBWh=a/\qBWh=e/\True)/\(decide (Za8 y s)=ab->(∃(I:TkX),R (ab,I)/\I.3+qBWg<=y.3/\ac=ac/\(s=s/\False/\wr af (Zeg y s)=(qBWd I)/\True)/\True)\/∃(I:TkX),R (ac,I)/\I.3+qBWg<=y.3/\ac=ac/\(s=s/\(qBWe=qBWe/\aa (TkX.ts y)=aa (TkX.ts I)/\True)/\wr af (Zeg y s)=(qBWd I)/\True)/\(qBWi y I)/\True))/\(((↑x:Int)==(35:
Int))=ab->(Za9 y s)/\(Zi3 y s)/\∀(I:Tok×Int),I=tokP (cj (ag (qBWd y)) s)->((aE I !=qBWh)=ac->l= []/\(qBWd y)=a/\aE I=e/\True)/\((aE I !=qBWh)=ab->(aa (TkX.ts y)<=aa (TkX.ts y)/\qBWe<=aa (TkX.ts y)/\(aa (TkX.ts y)+qBWg)*(40:Nat)<=(140737488355328:Nat))/\((∃(J:TkX),R (ab,J)/\J.3+qBWg<=y.3/\ac=ac/\(s=s/\False/\wr af (Zba y I)=(qBWd J)/\True)/\True)\/∃(J:TkX),R (ac,J)/\J.3+qBWg<=y.3/\ac=ac/\(s=s/\(qBWe=qBWe/\aa (TkX.ts y)+qBWg=aa (TkX.ts J)/\True)/\wr af (Zba y I)=(qBWd J)/\True)/\(av (aa (TkX.ts y)) (TkX.ts y)++ [Tok.mk (cu (ao I)) (cH (ao I)) (fq (ao I)) (qBWd y)]=TkX.ts J/\qBWe=qBWe)/\True))))))))/\(decide ((qBWd y)<(qBWf s))=ab->(qBWj y l)/\qBWh=a/\qBWh=e/\True))):=by kernel_rfl
def blk(c:Nat):Bool:=c=32||c=9||c=13||c=10
def tksL:Nat->List Nat->Nat->List Tok->List Tok×Int×Int
 |0,_,_,ts=>(ts,0,0)
 |k+1,s,p,ts=>match s[p]? with
  |none=>(ts,0,0)
  |some c=>if blk c then tksL k s (p+1) ts
   else if c=35 then(if idxL 10 0 (s.drop p)<0 then(ts,0,0) else tksL k s (p+(idxL 10 0 (s.drop p)).toNat+1) ts)
   else if(tokP (s.drop p)).2≠0 then([],p,(tokP (s.drop p)).2)
   else tksL k s (p+(tokP (s.drop p)).1.text.length) (ts++ [⟨(tokP (s.drop p)).1.kind,(tokP (s.drop p)).1.text,(tokP (s.drop p)).1.n,p⟩])
def Xn(s:List Nat):List Tok×Int×Int:=if 2000<s.length then([],0,2) else tksL s.length s 0 []
theorem Ztl(c:Nat):∀(l:List Nat) (j:Nat),idxL c j l<j+l.length/\ -1<=idxL c j l
 | [],j=>by unfold idxL;simp;try omega
 |x::r,j=>by
  unfold idxL
  split
  ·simp;try omega
  ·have:=Ztl c r (j+1)
   simp only[aD]
   omega
theorem Yaf{c:Nat} {w:List Nat} (h:sgnW c=ae w):1<=w.length:=by
 unfold sgnW at h
 repeat' split at h
 all_goals(cases h<;>simp)
theorem Zv6{s:List Nat} (h:(tokP s).2=0):1<=(tokP s).1.text.length/\(tokP s).1.text.length<=s.length/\(tokP s).1.text=s.take (tokP s).1.text.length:=by
 cases s with
 |nil=>cases h
 |cons c r=>
  rw[W4] at h⊢;have go:∀n,1<=n->n<=(c::r).length->1<=((c::r).take n).length/\((c::r).take n).length<=(c::r).length/\(c::r).take n=(c::r).take ((c::r).take n).length:=λn R U=>by
   have e:((c::r).take n).length=n:=by rw[be];omega
   rw[e];exact⟨R,U,rfl⟩
  split at h
  ·rename_i J
   rw[if_pos J];split at h
   ·cases h
   ·rename_i hn
    rw[if_neg hn];refine go _ ?_ Zqc;have:isLD c=true:=by unfold isLD;rw[J];rfl
    unfold spn;rw[if_pos this];omega
  ·rename_i J
   rw[if_neg J];split at h
   ·rename_i hd
    rw[if_pos hd];refine go _ ?_ Zqc;unfold spn;rw[if_pos hd];omega
   ·rename_i hd
    rw[if_neg hd];split at h
    ·rename_i w hw
     unfold tokS at h⊢;split at h
     ·rename_i I
      have e:=congrArg aa I;rw[be] at e;refine⟨?_,?_,?_⟩
      ·simp only[if_pos I]
       exact Yaf hw
      ·simp only[if_pos I]
       omega
      ·simp only[if_pos I]
       exact I.symm
     ·cases h
    ·cases h
def TkI(s:List Nat) (I:List Tok×Int×Int) (y:TkX):Prop:=y.at_<=s.length/\s.length<=y.at_+y.r/\y.ts.length<=y.at_/\tksL y.r s y.at_ y.ts=I
theorem Ybx{s:List Nat} {I} {y:TkX} (h:TkI s I y) (hq:¬y.at_<s.length):I=(y.ts,0,0):=by
 obtain⟨R,U,h3,J⟩:=h;rw[<-J];cases hr:y.r with
 |zero=>rfl
 |succ k=>
  unfold tksL;rw[List.getElem?_eq_none (by omega)]
theorem Zi4{s:List Nat} {res} {y:TkX} {c:Nat} (h:TkI s res y) (J:s[y.at_]? =ae c):∃k,y.r=k+1/\s.length<=y.at_+(k+1)/\y.at_<s.length/\(if blk c then tksL k s (y.at_+1) y.ts
 else if c=35 then(if idxL 10 0 (s.drop y.at_)<0 then(y.ts,0,0) else tksL k s (y.at_+(idxL 10 0 (s.drop y.at_)).toNat+1) y.ts)
 else if(tokP (s.drop y.at_)).2≠0 then([],y.at_,(tokP (s.drop y.at_)).2)
 else tksL k s (y.at_+(tokP (s.drop y.at_)).1.text.length) (y.ts++ [⟨(tokP (s.drop y.at_)).1.kind,(tokP (s.drop y.at_)).1.text,(tokP (s.drop y.at_)).1.n,y.at_⟩]))=res:=by
 obtain⟨h1,h2,h3,I⟩:=h
 have R:=(ak.1 J).1
 cases U:y.r with
 |zero=>omega
 |succ k=>
  refine⟨k,rfl,by omega,R,?_⟩
  rw[U] at I
  unfold tksL at I
  rw[J] at I
  exact I
theorem Zv7{s:List Nat} {R} {y:TkX} {c:Nat} (h:TkI s R y) (hc:s[y.at_]? =ae c) (U:blk c=ac):TkI s R ⟨y.at_+1,y.ts,y.r-1⟩/\y.r-1+1<=y.r/\y.at_<s.length:=by
 obtain⟨k,hr,hk,J,I⟩:=Zi4 h hc;rw[if_pos U] at I;have h3:=h.2.2.1;refine⟨⟨J,?_,?_,?_⟩,by omega,J⟩
 ·show s.length<=y.at_+1+(y.r-1)
  omega
 ·show y.ts.length<=y.at_+1
  omega
 ·rw[hr]
  exact I
theorem Yby{s:List Nat} {R} {y:TkX} {c:Nat} (h:TkI s R y) (hc:s[y.at_]? =ae c) (I:blk c=ab) (U:c=35) (hi:¬idxL 10 0 (s.drop y.at_)<0):TkI s R ⟨y.at_+(idxL 10 0 (s.drop y.at_)).toNat+1,y.ts,y.r-1⟩/\y.r-1+1<=y.r/\y.at_+(idxL 10 0 (s.drop y.at_)).toNat+1<=s.length:=by
 obtain⟨k,hr,hk,hl,J⟩:=Zi4 h hc;rw[if_neg (by rw[I];decide),if_pos U,if_neg hi] at J;have h3:=h.2.2.1;have I:=(Ztl 10 (s.drop y.at_) 0).1;rw[db] at I;refine⟨⟨?_,?_,?_,?_⟩,by omega,by omega⟩
 ·show y.at_+(idxL 10 0 (s.drop y.at_)).toNat+1<=s.length
  omega
 ·show s.length<=y.at_+(idxL 10 0 (s.drop y.at_)).toNat+1+(y.r-1)
  omega
 ·show y.ts.length<=y.at_+(idxL 10 0 (s.drop y.at_)).toNat+1
  omega
 ·rw[hr]
  exact J
theorem Z5b{s:List Nat} {J} {y:TkX} {c:Nat} (h:TkI s J y) (hc:s[y.at_]? =ae c) (U:blk c=ab) (R:c=35) (hi:idxL 10 0 (s.drop y.at_)<0):J=(y.ts,0,0):=by
 obtain⟨k,hr,hk,hl,I⟩:=Zi4 h hc;rw[if_neg (by rw[U];decide),if_pos R,if_pos hi] at I;exact I.symm
theorem Ybz{s:List Nat} {J} {y:TkX} {c:Nat} (h:TkI s J y) (hc:s[y.at_]? =ae c) (U:blk c=ab) (R:c≠35) (hi:(tokP (s.drop y.at_)).2≠0):J=([],(y.at_:Int),(tokP (s.drop y.at_)).2):=by
 obtain⟨k,hr,hk,hl,I⟩:=Zi4 h hc;rw[if_neg (by rw[U];decide),if_neg R,if_pos hi] at I;exact I.symm
theorem Yb0{s:List Nat} {J} {y:TkX} {c:Nat} (h:TkI s J y) (hc:s[y.at_]? =ae c) (U:blk c=ab) (R:c≠35) (hi:(tokP (s.drop y.at_)).2=0):TkI s J ⟨y.at_+(tokP (s.drop y.at_)).1.text.length,y.ts++ [⟨(tokP (s.drop y.at_)).1.kind,(tokP (s.drop y.at_)).1.text,(tokP (s.drop y.at_)).1.n,y.at_⟩],y.r-1⟩/\y.r-1+1<=y.r/\y.at_+(tokP (s.drop y.at_)).1.text.length<=s.length:=by
 obtain⟨k,hr,hk,hl,I⟩:=Zi4 h hc;rw[if_neg (by rw[U];decide),if_neg R,if_neg (by rw[hi];decide)] at I;have h3:=h.2.2.1;obtain⟨n1,n2,_⟩:=Zv6 hi;rw[db] at n2;refine⟨⟨?_,?_,?_,?_⟩,by omega,by omega⟩
 ·show y.at_+(tokP (s.drop y.at_)).1.text.length<=s.length
  omega
 ·show s.length<=y.at_+(tokP (s.drop y.at_)).1.text.length+(y.r-1)
  omega
 ·show(y.ts++ [_]).length<=y.at_+(tokP (s.drop y.at_)).1.text.length
  rw[aC];simp;omega
 ·rw[hr]
  exact I
theorem Ztm(s:List Nat):PureC E 44 [.str ab s] (.tup [.psl de (Xn s).1 ab,.int ab .i64 (Xn s).2.1,.int ab .i64 (Xn s).2.2]):=by
 refine Za E_ok (Zd E_ok Yjl 400) ?_;rw[Ztk];delta qBWd qBWe qBWf qBWg qBWh qBWi qBWj;unfold Zi3 Zba Za9 Zeg Za8 Za7 Za6 Za5;refine⟨λh=> ?_,λh=> ?_⟩
 ·have h:(s.length:Int)>2000:=by simpa using h
  unfold Xn;rw[if_pos (by omega)];exact⟨rfl,rfl,rfl,trivial⟩
 have h:¬(s.length:Int)>2000:=by simpa using h
 have hp:Xn s=tksL s.length s 0 []:=by unfold Xn;rw[if_neg (by omega)]
 generalize Xn s=a2 at hp;refine⟨λx=>(x.1=ab->x.2.ts= [])/\TkI s a2 x.2,jg ⟨⟨0,[],s.length⟩,⟨λ_=>rfl,bb _,by show s.length<=0+s.length;omega,aw _,hp.symm⟩,rfl,⟨rfl,rfl,rfl,trivial⟩,trivial⟩,?_,?_⟩
 all_goals
  rintro y ⟨h0,R⟩
  replace R:TkI s a2 y:=R
  refine⟨λhq=> ?_,λhq=> ?_⟩
 ·have h0:y.ts= []:=h0 rfl
  have hq:(y.at_:Int)<s.length:=by simpa using hq
  refine⟨by omega,by omega,λc J=> ?_⟩;have J:s[y.at_]? =ae c:=J;have bl:∀n:Nat,((c:Int)==(n:Int))=ac->c=n:=λn h=>by
   have:(c:Int)=n:=by simpa using h
   omega
  have nb:∀n:Nat,((c:Int)==(n:Int))=ab->c≠n:=λn h e=>by subst e;simp at h
  have gb:blk c=ac->(∃(a1:TkX),((ab=ab->a1.ts= [])/\TkI s a2 a1)/\a1.3+(1:Nat)<=y.3/\ac=ac/\(s=s/\aG au (0:Nat) (0:Nat)=aG au (0:Nat) (0:Nat)/\wr af ((↑(TkX.at_ y):Int)+(1:Int))=(↑(TkX.at_ a1):Int)/\True)/\True):=λU=>
   ⟨⟨y.at_+1,y.ts,y.r-1⟩,⟨λ_=>h0,(Zv7 R J U).1⟩,(Zv7 R J U).2.1,rfl,⟨rfl,rfl,wr64 (by omega) (by omega),trivial⟩,trivial⟩
  refine⟨λh1=>jg (gb (by rw[bl 32 h1];rfl)),λh1=>⟨λh2=>jg (gb (by rw[bl 9 h2];rfl)),λh2=>⟨λh3=>jg (gb (by rw[bl 13 h3];rfl)),λh3=>⟨λh4=>jg (gb (by rw[bl 10 h4];rfl)),λh4=> ?_⟩⟩⟩⟩;have U:blk c=false:=by
   unfold blk;simp[nb 32 h1,nb 9 h2,nb 13 h3,nb 10 h4]
  have ea:ag (y.at_:Int)=y.at_:=by omega
  rw[ea];refine⟨λh5=> ?_,λh5=> ?_⟩
  ·have a0:c=35:=bl 35 h5
   refine⟨⟨by omega,by omega⟩,λI=> ?_,λI=> ?_⟩
   ·have I:idxL 10 0 (s.drop y.at_)<0:=by simpa using I
    have:=Z5b R J U a0 I;rw[this,h0];exact⟨rfl,rfl,rfl,trivial⟩
   ·have I:¬idxL 10 0 (s.drop y.at_)<0:=by simpa using I
    obtain⟨g1,g2,g3⟩:=Yby R J U a0 I;refine jg ⟨⟨y.at_+(idxL 10 0 (s.drop y.at_)).toNat+1,y.ts,y.r-1⟩,⟨λ_=>h0,g1⟩,g2,rfl,⟨rfl,rfl,?_,trivial⟩,trivial⟩;show wr af ((y.at_:Int)+wr af (idxL 10 0 (s.drop y.at_)+1))=((y.at_+(idxL 10 0 (s.drop y.at_)).toNat+1:Nat):Int);rw[show wr af (idxL 10 0 (s.drop y.at_)+1)=idxL 10 0 (s.drop y.at_)+1 from wr64 (by omega) (by omega)];rw[wr64 (by omega) (by omega)];omega
  ·have a0:c≠35:=nb 35 h5
   refine⟨⟨by omega,by omega⟩,⟨by rw[db];omega,by rw[db];omega⟩,λz hz=> ?_⟩;subst hz;refine⟨λI=> ?_,λI=> ?_⟩
   ·have I:(tokP (s.drop y.at_)).2≠0:=by simpa using I
    rw[Ybz R J U a0 I];exact⟨rfl,rfl,rfl,trivial⟩
   ·have I:(tokP (s.drop y.at_)).2=0:=by simpa using I
    obtain⟨g1,g2,g3⟩:=Yb0 R J U a0 I;rw[h0] at g1;refine iM ⟨_,⟨(λh=>by cases h),g1⟩,g2,rfl,⟨rfl,⟨rfl,rfl,trivial⟩,?_,trivial⟩,⟨rfl,rfl⟩,trivial⟩;show wr af ((y.at_:Int)+((tokP (s.drop y.at_)).1.text.length:Int))=((y.at_+(tokP (s.drop y.at_)).1.text.length:Nat):Int);rw[wr64 (by omega) (by omega)];omega
 ·have hq:¬(y.at_:Int)<s.length:=by simpa using hq
  rw[Ybx R (by omega),h0 rfl];exact⟨rfl,rfl,rfl,trivial⟩
 ·have hq:(y.at_:Int)<s.length:=by simpa using hq
  refine⟨by omega,by omega,λc J=> ?_⟩;have J:s[y.at_]? =ae c:=J;have bl:∀n:Nat,((c:Int)==(n:Int))=ac->c=n:=λn h=>by
   have:(c:Int)=n:=by simpa using h
   omega
  have nb:∀n:Nat,((c:Int)==(n:Int))=ab->c≠n:=λn h e=>by subst e;simp at h
  have gb:blk c=ac->∃(a1:TkX),((ac=ab->a1.ts= [])/\TkI s a2 a1)/\a1.3+(1:Nat)<=y.3/\ac=ac/\(s=s/\((0:Nat)=(0:Nat)/\aa (TkX.ts y)=aa (TkX.ts a1)/\True)/\wr af ((↑(TkX.at_ y):Int)+(1:Int))=(↑(TkX.at_ a1):Int)/\True)/\(TkX.ts y=TkX.ts a1/\(0:Nat)=(0:Nat))/\True:=λU=>
   ⟨⟨y.at_+1,y.ts,y.r-1⟩,⟨(λh=>by cases h),(Zv7 R J U).1⟩,(Zv7 R J U).2.1,rfl,⟨rfl,⟨rfl,rfl,trivial⟩,wr64 (by omega) (by omega),trivial⟩,⟨rfl,rfl⟩,trivial⟩
  refine⟨λh1=>iM (gb (by rw[bl 32 h1];rfl)),λh1=>⟨λh2=>iM (gb (by rw[bl 9 h2];rfl)),λh2=>⟨λh3=>iM (gb (by rw[bl 13 h3];rfl)),λh3=>⟨λh4=>iM (gb (by rw[bl 10 h4];rfl)),λh4=> ?_⟩⟩⟩⟩;have U:blk c=false:=by
   unfold blk;simp[nb 32 h1,nb 9 h2,nb 13 h3,nb 10 h4]
  have ea:ag (y.at_:Int)=y.at_:=by omega
  have h3:=R.2.2.1;rw[ea];refine⟨λh5=> ?_,λh5=> ?_⟩
  ·have a0:c=35:=bl 35 h5
   refine⟨⟨by omega,by omega⟩,λI=> ?_,λI=> ?_⟩
   ·have I:idxL 10 0 (s.drop y.at_)<0:=by simpa using I
    have:=Z5b R J U a0 I;rw[this];exact⟨⟨by omega,aW⟩,rfl,rfl,trivial⟩
   ·have I:¬idxL 10 0 (s.drop y.at_)<0:=by simpa using I
    obtain⟨g1,g2,g3⟩:=Yby R J U a0 I;refine iM ⟨_,⟨(λh=>by cases h),g1⟩,g2,rfl,⟨rfl,⟨rfl,rfl,trivial⟩,?_,trivial⟩,⟨rfl,rfl⟩,trivial⟩;show wr af ((y.at_:Int)+wr af (idxL 10 0 (s.drop y.at_)+1))=((y.at_+(idxL 10 0 (s.drop y.at_)).toNat+1:Nat):Int);rw[show wr af (idxL 10 0 (s.drop y.at_)+1)=idxL 10 0 (s.drop y.at_)+1 from wr64 (by omega) (by omega)];rw[wr64 (by omega) (by omega)];omega
  ·have a0:c≠35:=nb 35 h5
   refine⟨⟨by omega,by omega⟩,⟨by rw[db];omega,by rw[db];omega⟩,λz hz=> ?_⟩;subst hz;refine⟨λI=> ?_,λI=> ?_⟩
   ·have I:(tokP (s.drop y.at_)).2≠0:=by simpa using I
    rw[Ybz R J U a0 I];exact⟨rfl,rfl,rfl,trivial⟩
   ·have I:(tokP (s.drop y.at_)).2=0:=by simpa using I
    obtain⟨g1,g2,g3⟩:=Yb0 R J U a0 I;refine⟨⟨aw _,bb _,by omega⟩,iM ⟨_,⟨(λh=>by cases h),g1⟩,g2,rfl,⟨rfl,⟨rfl,?_,trivial⟩,?_,trivial⟩,⟨?_,rfl⟩,trivial⟩⟩
    ·show y.ts.length+1=(y.ts++ [_]).length
     rw[aC];rfl
    ·show wr af ((y.at_:Int)+((tokP (s.drop y.at_)).1.text.length:Int))=((y.at_+(tokP (s.drop y.at_)).1.text.length:Nat):Int)
     rw[wr64 (by omega) (by omega)];omega
    ·show av y.ts.length y.ts++_=y.ts++_
     rw[aW]
 ·have hq:¬(y.at_:Int)<s.length:=by simpa using hq
  rw[Ybx R (by omega)];exact⟨⟨by omega,aW⟩,rfl,rfl,trivial⟩
end
section
open Go.RowKit
section
variable {Y:Thy} {E:Eng Y}
def frzH(h:Hp Y) (bs:List Nat):Hp Y:=λb=>match memB b bs with|true=>frzB (h b)|false=>h b
noncomputable def frzA(E:Eng Y) (gth:List (SV Y)->Option Y.Th) (n:Nat) (S:Sum Y):Sum Y:=λargs h i k=>
 match args with
 |a::rest=>frzL (frzK E gth h n) rest λI bs=>S (a::I) (frzH h bs) i λr=>Ue (bs++r.mods) λm=>k ⟨r.v,r.n,m,patch (frzH h bs) i r,au⟩
 | []=>False
theorem Zeo{h:Hp Y} {bs:List Nat} {b:Nat} (I:frzH h bs b≠au):h b≠none:=by
 intro e;apply I;unfold frzH;rw[e];cases memB b bs<;>rfl
theorem Yar{h:Hp Y} {bs:List Nat} {b:Nat} (I:b∉bs):frzH h bs b=h b:=by
 unfold frzH;cases J:memB b bs with
 |true=>exact absurd (memB_iff.1 J) I
 |false=>rfl
theorem Zb0(h:Hp Y) (bs:List Nat) (i:Nat) (r:Res Y):patch h i ⟨r.v,r.n,bs++r.mods,patch (frzH h bs) i r,au⟩=patch (frzH h bs) i r:=by
 funext b;rw[Zp];by_cases c:b∈bs++r.mods\/(i<=b/\b<i+r.n)
 ·rw[if_pos c]
 ·rw[if_neg c,Zp]
  have I:b∉bs:=λh=>c (.inl (ez _ h));rw[if_neg (λh=>c (h.elim (λh=> .inl (dw _ h)) .inr)),Yar I]
theorem Znh{h:Hp Y} {bs:List Nat} {i n:Nat} {a0:List Nat} {σ σ':Pl} {g g':GH} {w w':World} {B:Nat} (hI:Inv E B σ h g w) (I:Stp i n a0 σ (frzG E h σ bs g w) w σ' g' w'):Stp i n (bs++a0) σ g w σ' g' w':=by
 refine⟨I.sig,I.snew,(U3 hI).trans I.gle,λr o v hv=> ?_,I.gmnew,λr hr hx=>I.heap r hr λb U=>hx b (dw _ U),I.size,I.os,I.tape,I.output,λb r z J R=> ?_⟩
 ·rcases I.gcnew r o v hv with J|J|⟨b,U,J⟩
  ·rcases Zbc J with⟨_,b,U,z,x,R,_⟩|R
   ·exact .inr (.inr ⟨b,ez _ U,z,R⟩)
   ·exact .inl R
  ·exact .inr (.inl J)
  ·exact .inr (.inr ⟨b,dw _ U,J⟩)
 ·rcases I.blk b r z J R with h3|⟨b',a1,h3⟩
  ·exact .inl h3
  ·exact .inr ⟨b',dw _ a1,h3⟩
theorem Yge(hE:EngOk E) {gth:List (SV Y)->Option Y.Th} {n:Nat} {f:Nat} {S:Sum Y} (hS:SumOk E f S):SumOk E f (frzA E gth n S):=by
 refine⟨hS.good,λargs h i k hD R=> ?_⟩;unfold frzA at R;split at R
 case h_2=>exact R.elim
 rename_i a rest;obtain⟨a3,bs,R,o⟩:=Ui (Zbb hE n) R;obtain⟨r,R,hR,a8⟩:=hS.ok (a::a3) (frzH h bs) i _ (λb U=>hD b (Zeo U)) R;rw[Xw] at R;have a4:∀(B:Nat) (σ:Pl) (g:GH) (w:World) (vals:List Value),Inv E B σ h g w->DenL E σ g (a::rest) vals->DenL E σ (frzG E h σ bs g w) (a::a3) vals:=by
  intro B σ g w vals J hd;have a6:=U3 (bs:=bs) J;refine⟨by rw[<-hd.1];simp[o.len],λj sv' u I h2=> ?_⟩;cases j with
  |zero=>
   simp at I;subst I;exact(hd.2 0 _ u rfl h2).mono (.refl _) a6
  |succ j=>
   have I:a3[j]? =ae sv':=by simpa using I
   have a5:j<rest.length:=by rw[<-o.len];exact(ak.1 I).1
   exact(o.den h σ g w B _ (λ_ _=>rfl) J a6 Zeh j _ sv' u (ai a5) I (hd.2 (j+1) _ u (by simpa using ai a5) h2)).mono (λb p h=>by cases h) (.refl _)
 refine⟨_,R,λb U=> ?_,?_⟩
 ·have U:b∈bs++r.mods:=U
  rcases bS.1 U with I|I
  ·obtain⟨y,hy,_⟩:=o.blk b I
   rw[hy];simp
  ·exact Zeo (hR b I)
 rcases a8 with ht|⟨p,hp,ht⟩
 ·refine .inl ?_
  intro B σ g w vals hh a7 J hB a1 hd;obtain rfl:hh=h:=funext λb=>a7 b trivial;refine(ht B σ _ w vals (frzH hh bs) (λ_ _=>rfl) (Zi7 hE o.blk J) hB a1 (a4 B σ g w _ J hd)).mono ?_;rintro en w' ⟨u,he,σ',g',a2,a0,hv⟩;refine⟨u,he,σ',g',Znh J a2,?_,hv⟩;rw[Zb0];exact a0
 ·refine .inr ⟨p,hp,λB σ g w vals J hB a1 hd=> ?_⟩
  refine(ht B σ _ w vals (Zi7 hE o.blk J) hB a1 (a4 B σ g w _ J hd)).mono ?_;rintro en w' ⟨he,σ',g',a2,a0⟩;refine⟨he,σ',g',Znh J a2,?_⟩;rw[Zb0];exact a0
noncomputable def Zql(E:Eng Y) (gth:List (SV Y)->Option Y.Th) (n:Nat) (S:Sum Y):Sum Y:=λargs h i k=>
 frzL (frzK E gth h n) args λI bs=>S I (frzH h bs) i λr=>Ue (bs++r.mods) λm=>k ⟨r.v,r.n,m,patch (frzH h bs) i r,au⟩
theorem Zje(hE:EngOk E) {gth:List (SV Y)->Option Y.Th} {n:Nat} {f:Nat} {S:Sum Y} (hS:SumOk E f S):SumOk E f (Zql E gth n S):=by
 refine⟨hS.good,λargs h i k hD J=> ?_⟩;unfold Zql at J;obtain⟨a5,bs,J,o⟩:=Ui (Zbb hE n) J;obtain⟨r,J,hR,a8⟩:=hS.ok a5 (frzH h bs) i _ (λb U=>hD b (Zeo U)) J;rw[Xw] at J;have a3:∀(B:Nat) (σ:Pl) (g:GH) (w:World) (vals:List Value),Inv E B σ h g w->DenL E σ g args vals->DenL E σ (frzG E h σ bs g w) a5 vals:=by
  intro B σ g w vals I hd;have a6:=U3 (bs:=bs) I;refine⟨by rw[<-hd.1];exact o.len,λj a9 u R h2=> ?_⟩;have a4:j<args.length:=by rw[<-o.len];exact(ak.1 R).1
  exact(o.den h σ g w B _ (λ_ _=>rfl) I a6 Zeh j _ a9 u (ai a4) R (hd.2 j _ u (ai a4) h2)).mono (λb p h=>by cases h) (.refl _)
 refine⟨_,J,λb U=> ?_,?_⟩
 ·have U:b∈bs++r.mods:=U
  rcases bS.1 U with R|R
  ·obtain⟨y,hy,_⟩:=o.blk b R
   rw[hy];simp
  ·exact Zeo (hR b R)
 rcases a8 with ht|⟨p,hp,ht⟩
 ·refine .inl ?_
  intro B σ g w vals hh a7 I hB a1 hd;obtain rfl:hh=h:=funext λb=>a7 b trivial;refine(ht B σ _ w vals (frzH hh bs) (λ_ _=>rfl) (Zi7 hE o.blk I) hB a1 (a3 B σ g w _ I hd)).mono ?_;rintro en w' ⟨u,he,σ',g',a2,a0,hv⟩;refine⟨u,he,σ',g',Znh I a2,?_,hv⟩;rw[Zb0];exact a0
 ·refine .inr ⟨p,hp,λB σ g w vals I hB a1 hd=> ?_⟩
  refine(ht B σ _ w vals (Zi7 hE o.blk I) hB a1 (a3 B σ g w _ I hd)).mono ?_;rintro en w' ⟨he,σ',g',a2,a0⟩;refine⟨he,σ',g',Znh I a2,?_⟩;rw[Zb0];exact a0
end
end
section
open Go
noncomputable def Z6c:Sum thy:=Wf (dA1 dS) (λ_=>True) (λx=>Xn x.1) λy=> .tup [.psl de y.1 ab,.int ab .i64 y.2.1,.int ab .i64 y.2.2]
theorem Zzs:SumOk E 44 Z6c:=Zy E_ok (Zc (f:=44) rfl) λx _=>Ztm x.1
noncomputable def Z6d:Sum thy:=frzA E (λ_=>au) 2 (sumM (mI (dA1 dCls) (n1 λ_=>rfl) dCl (λ_=>rfl)) (λx a=>x.1.length<1000000000/\a.1.length<=1000000000) λx a=>Xu a.1 x.1 x.2.1)
theorem Zzt:SumOk E 51 Z6d:=Yge E_ok (X4 E_ok (Zc rfl) λx a h=>Zzw a.1 x.1 x.2.1 h.1 h.2)
structure QX where
 cs:List Cls
 fz:Nat
 l:List Tok
 ed:Int
 p:Int
 k:Nat
def Apa:Fr thy->Hp thy->Nat->Ann thy:=λT h i=>{X:=Bool×QX,fr:=λx=> [(0,T 0),(2,T 2),(3,T 3),(4,T 4),(6,T 6),(7,.int ab .i64 x.2.p)],bl:=λx=>(bOf (T 6),.raw [.psl de x.2.l ab,.int ab .i64 x.2.ed] 0 au)::(bOf (T 2),.raw ((cellsOf h (T 2)).take 2++ [match x.1 with|true=> .sl i 0 x.2.cs.length 9 au|false=> .val (.slice au 0 0)]) 0 au)::((match x.1 with|true=> [(i,.rows bq x.2.cs x.2.fz)]|false=> [])++(blkP h (T 3)++blkP h (T 4))),src:=λx=>(match x.1 with|true=> [(i,3002)]|false=> []),md:= [bOf (T 6),bOf (T 2)],ih:=i+1,M:=i+60,meas:=λx=>x.2.k,ex:=ex2,al:=al2,exOk:=Ziy,alOk:=Ziz}
noncomputable def Fpa:Fns thy:=addL (addS (addS (addS Fme 49 Z7k) 44 Z6c) 51 Z6d) 22 12 Apa E
theorem Yj3:FnsOk E Fpa:=Zm E_ok (Zb (Zb (Zb Zg8 Zud) Zzs) Zzt) _ _ _
abbrev Xl(t:Tar):Prop:=
 []=bN t/\(0:Int)=bI t/\ar t= []/\True
abbrev Znj(R:Bool×QX->Prop) (a0:QX) (s:List Nat) (a1:Int) (x':PX) (J:List Nat) (U:Int) (y:List Tok×Int×Int):Prop:=
 ∃(I:QX),R (ab,I)/\I.6+(1:Nat)<=a0.6/\ac=ac/\(s=s/\(0:Nat)=(0:Nat)/\(0:Nat)=(0:Nat)/\(0:Nat)=(0:Nat)/\(0:Nat)=(0:Nat)/\
 a1=QX.p I/\True)/\((ao x'=QX.l I/\(ab=ac->ab=ac))/\ao (aE x')=QX.ed I/\True)/\(J=J/\wr af ((1:Int)+U)=
 wr af ((1:Int)+U)/\False/\True)/\(ao (aE y)=ao (aE y)/\True)/\(aE (aE y)=aE (aE y)/\True)/\True
abbrev Znk(I:Cls):=
 (bU (aJ (aA I)) (bW (aA I)) (bx (aA I)) (bA (aA I)) (bB (aA I)) (bC (aA I)) (bw (aA I)))
abbrev Znl(I:QX) (t:Tar) (a:Int) (e:Int):Prop:=
 decide ((↑(aa (bv (QX.l I))):Int)>(0:Int))=ac->∀(y:Int),y=hdT (QX.ed I) (bv (QX.l I))->(Xl t)/\y=a/\(160:Int)=e/\
 True
abbrev Zgp(I:QX):=
 (av (aa (QX.cs I)) (cj (0:Nat) (QX.cs I)))
abbrev qBY1:=(0:Nat)
abbrev qBY2(I:List Nat) (J:Int) (R:QX):=(I=I/\qBY1=qBY1/\qBY1=qBY1/\qBY1=qBY1/\qBY1=qBY1/\J=QX.p R/\True)
abbrev qBY3(I:PX):=(ao (aE I))
abbrev qBY4(I:QX):=(bv (QX.l I))
abbrev qBY5(I:QX):=(aa (QX.cs I))
abbrev qBY6(I:PX) (J:QX):=((ao I=QX.l J/\(ab=ac->ab=ac))/\ao (aE I)=QX.ed J/\True)
abbrev qBY7(I:List Tok×Int×Int):=(ao (aE I)=ao (aE I)/\True)
abbrev qBY8(I:List Tok×Int×Int):=(aE (aE I)=aE (aE I)/\True)
theorem Zzu(s:List Nat) (t:Tar) (a e:Int):Zk E Fpa (vc E Fpa 400) 22 [.str ab s] hp0 0 (λr=>ret E (patch hp0 0 r) r.v (.tup [.agg [.str ab t.name,.int ab .i64 t.for_,.psl bq t.clauses ab],.int ab .i64 a,.int ab .i64 e]))=(
 True/\∀(y:List Tok×Int×Int),y=Xn s->((aE (aE y) !=(0:Int))=ac->(Xl t)/\ao (aE y)=a/\aE (aE y)=e/\True)/\((aE (aE y) !=(0:Int))=ab->(isW [(116:Nat),(97:Nat),(114:Nat),(105:Nat),(102:Nat),(102:Nat)] (ao y)=ac->True/\(∀(a0:List Nat) (x':PX),Ziw (bv (ao y)) (↑(aa s):Int)=aT (a0,x')->(isW [(102:Nat),(111:Nat),(114:Nat)] (ao x')=ac->(WK.ki=WK.at_\/WK.ki=WK.ki\/WK.ki=WK.un)/\(∀(a1:Int) (a2:PX),Vj (WK.words WK.ki) (bv (ao x')) (qBY3 x')=aT (a1,a2)->(isW [(123:Nat)] (ao a2)=ac->∀(a5:Int),a5=hdT (qBY3 a2) (bv (ao a2))->∃(R:Bool×QX->Prop),((∃(I:QX),R (ab,I)/\ac=ac/\(qBY2 s a5 I)/\((bv (ao a2)=QX.l I/\(ab=ac->ab=ac))/\ao (aE a2)=QX.ed I/\True)/\(a0=a0/\wr af ((1:Int)+a1)=wr af ((1:Int)+a1)/\aG au qBY1 qBY1=aG au qBY1 qBY1/\True)/\(qBY7 y)/\(qBY8 y)/\True)\/∃(y:QX),R (ac,y)/\ac=ac/\False)/\(∀(I:QX),R (ab,I)->(isW [(99:Nat),(108:Nat),(97:Nat),(117:Nat),(115:Nat),(101:Nat)] (QX.l I)=ac->(aa (qBY4 I)+(1:Nat)<=(1000000000:Nat)/\qBY1<=(1000000000:Nat))/\(∀(a3:Cls) (x':PX),Xu [] (qBY4 I) (QX.ed I)=aT (a3,x')->∀(a4:Int),a4=hdT (qBY3 x') (ao x')->(Znj R I s a4 x' a0 a1 y)\/∃(U:QX),R (ac,U)/\U.6+(1:Nat)<=I.6/\ac=ac/\(qBY2 s a4 U)/\(qBY6 x' U)/\(a0=a0/\wr af ((1:Int)+a1)=wr af ((1:Int)+a1)/\(qBY1=qBY1/\(1:Nat)=aa (QX.cs U)/\True)/\True)/\([eP (aP a3) (aV a3) (Znk a3)]=QX.cs U/\qBY1=QX.fz U)/\(qBY7 y)/\(qBY8 y)/\True)/\∀(J:Int×Int),Xu [] (qBY4 I) (QX.ed I)=az J->(Xl t)/\ao J=a/\aE J=e/\True)/\(isW [(99:Nat),(108:Nat),(97:Nat),(117:Nat),(115:Nat),(101:Nat)] (QX.l I)=ab->(isW [(125:Nat)] (QX.l I)=ac->(Znl I t a e)/\(decide ((↑(aa (qBY4 I)):Int)>(0:Int))=ab->(a0=bN t/\wr af ((1:Int)+a1)=bI t/\ar t= []/\True)/\(0:Int)=a/\(0:Int)=e/\True))/\(isW [(125:Nat)] (QX.l I)=ab->(Xl t)/\hdT (QX.ed I) (QX.l I)=a/\(160:Int)=e/\True)))/\∀(I:QX),R (ac,I)->(isW [(99:Nat),(108:Nat),(97:Nat),(117:Nat),(115:Nat),(101:Nat)] (QX.l I)=ac->(((↑(qBY5 I):Int)==(64:Int))=ac->(Xl t)/\QX.p I=a/\(2:Int)=e/\True)/\(((↑(qBY5 I):Int)==(64:Int))=ab->qBY1+aa (QX.cs I)<=aa (QX.cs I)/\(aa (qBY4 I)+(1:Nat)<=(1000000000:Nat)/\aa (Zgp I)<=(1000000000:Nat))/\(∀(a3:Cls) (x':PX),Xu (Zgp I) (qBY4 I) (QX.ed I)=aT (a3,x')->(aa (QX.cs I)<=aa (QX.cs I)/\mx2 (QX.fz I) (qBY5 I)<=aa (QX.cs I)/\(aa (QX.cs I)+(1:Nat))*(112:Nat)<=(140737488355328:Nat))/\∀(a4:Int),a4=hdT (qBY3 x') (ao x')->(Znj R I s a4 x' a0 a1 y)\/∃(U:QX),R (ac,U)/\U.6+(1:Nat)<=I.6/\ac=ac/\(qBY2 s a4 U)/\(qBY6 x' U)/\(a0=a0/\wr af ((1:Int)+a1)=wr af ((1:Int)+a1)/\(qBY1=qBY1/\aa (QX.cs I)+(1:Nat)=aa (QX.cs U)/\True)/\True)/\(av (qBY5 I) (QX.cs I)++ [eP (aP a3) (aV a3) (Znk a3)]=QX.cs U/\mx2 (QX.fz I) (qBY5 I)=QX.fz U)/\(qBY7 y)/\(qBY8 y)/\True)/\∀(J:Int×Int),Xu (Zgp I) (qBY4 I) (QX.ed I)=az
J->(Xl t)/\ao J=a/\aE J=e/\True))/\(isW [(99:Nat),(108:Nat),(97:Nat),(117:Nat),(115:Nat),(101:Nat)] (QX.l I)=ab->(isW [(125:Nat)] (QX.l I)=ac->(Znl I t a e)/\(decide ((↑(aa (qBY4 I)):Int)>(0:Int))=ab->(a0=bN t/\wr af ((1:Int)+a1)=bI t/\(qBY1+aa (QX.cs I)<=aa (QX.cs I)/\av (qBY5 I) (QX.cs I)=ar t)/\True)/\(0:Int)=a/\(0:Int)=e/\True))/\(isW [(125:Nat)] (QX.l I)=ab->(Xl t)/\hdT (QX.ed I) (QX.l I)=a/\(160:Int)=e/\True)))/\(isW [(123:Nat)] (ao a2)=ab->(Xl t)/\hdT (qBY3 a2) (ao a2)=a/\(160:Int)=e/\True))/\∀(J:Int×Int),Vj (WK.words WK.ki) (bv (ao x')) (qBY3 x')=az J->(Xl t)/\ao J=a/\aE J=e/\True)/\(isW [(102:Nat),(111:Nat),(114:Nat)] (ao x')=ab->(Xl t)/\hdT (qBY3 x') (ao x')=a/\(160:Int)=e/\True))/\∀(J:Int×Int),Ziw (bv (ao y)) (↑(aa s):Int)=az J->(Xl t)/\ao J=a/\aE J=e/\True)/\(isW [(116:Nat),(97:Nat),(114:Nat),(105:Nat),(102:Nat),(102:Nat)] (ao y)=ab->(Xl t)/\hdT (↑(aa s):Int) (ao y)=a/\(160:Int)=e/\True))):=by kernel_rfl
theorem Ztt:∀{k:Nat} {more:Bool} {ts:List Tst} {l:List Tok} {e:Int} {I:List Tst} {x:PX},pTs k more ts l e= .ok (I,x)->x.1.length<=l.length
 |0,more,ts,l,e,I,x,h=>by
  unfold pTs at h
  injection h with h
  injection h with _ h
  subst h
  exact aw _
 |k+1,more,ts,l,e,I,x,h=>by
  unfold pTs at h
  split at h
  ·split at h
   ·cases h
   ·rename_i t z R
    have U:=(Zjj R).1
    have J:=Ztt h
    split at J
    ·rw[fe] at J
     omega
    ·omega
  ·injection h with h
   injection h with _ h
   subst h
   exact aw _
theorem Yj4{l:List Tok} {e:Int} {y:Ex} {x:PX} (h:pX l e= .ok (y,x)):x.1.length<=l.length:=by
 have:=Zt2 l e y x h;omega
theorem Ya2{R:List Nat} {ts:List Tst} {l:List Tok} {e:Int} {c:Cls} {x:PX} (h:pPay R ts l e= .ok (c,x)):x.1.length<=l.length:=by
 unfold pPay at h;split at h
 ·split at h
  ·cases h
  ·rename_i y z J
   have I:=Yj4 J;rw[fe] at I;split at h
   ·cases h
   ·split at h
    ·injection h with h
     injection h with _ h
     subst h;show z.1.tail.length<=l.length;rw[fe];omega
    ·cases h
 ·cases h
theorem Zdc{bs:List Cls} {l:List Tok} {e:Int} {c:Cls} {x:PX} (h:Xu bs l e= .ok (c,x)):x.1.length<=l.length:=by
 unfold Xu at h;split at h
 ·cases h
 ·rename_i nm z R
  have U:=Zbg R;split at h
  ·cases h
  ·unfold pAft at h
   split at h
   ·cases h
   ·rename_i ts y J
    have I:=Ztt J;have h3:=Ya2 h;split at I
    ·rw[fe] at I
     omega
    ·omega
def V0:List Nat:= [99,108,97,117,115,101]
def pCls:Nat->List Cls->List Tok->Int->PR (List Cls)
 |0,cs,l,e=> .ok (cs,l,e,())
 |k+1,cs,l,e=>if isW [99,108,97,117,115,101] l then(if cs.length=64 then .error (hdT e l,2) else match Xu cs l.tail e with
  | .error I=> .error I
  | .ok (c,x)=>pCls k (cs++ [c]) x.1 x.2.1) else .ok (cs,l,e,())
def pEnd(R:List Nat) (J:Int):PR (List Cls)->PR Tar
 | .error I=> .error I
 | .ok (cs,x)=>if isW [125] x.1 then(if 0<x.1.tail.length then .error (hdT x.2.1 x.1.tail,160) else .ok (⟨R,J,cs⟩,x.1.tail,x.2.1,())) else .error (hdT x.2.1 x.1,160)
def pTar(l:List Tok) (e:Int):PR Tar:=
 if isW [116,97,114,105,102,102] l then
  match Ziw l.tail e with
  | .error I=> .error I
  | .ok (J,x)=>
   if isW [102,111,114] x.1 then
    match Vj WK.ki.words x.1.tail x.2.1 with
    | .error I=> .error I
    | .ok (k,z)=>if isW [123] z.1 then pEnd J (wr .i64 (1+k)) (pCls (z.1.tail.length+1) [] z.1.tail z.2.1) else .error (hdT z.2.1 z.1,160)
   else .error (hdT x.2.1 x.1,160)
 else .error (hdT e l,160)
def zT:Tar:=⟨[],0,[]⟩
def outT:PR Tar->Tar×Int×Int
 | .ok y=>(y.1,0,0)
 | .error I=>(zT,I.1,I.2)
def Wd(s:List Nat):Tar×Int×Int:=if(Xn s).2.2≠0 then(zT,(Xn s).2.1,(Xn s).2.2) else outT (pTar (Xn s).1 s.length)
theorem Zgq:∀{k:Nat} {s:List Nat} {p:Nat} {ts:List Tok},ts.length<=p->p<=s.length->(tksL k s p ts).1.length<=s.length
 |0,s,p,ts,I,J=>by unfold tksL;exact bQ I J
 |k+1,s,p,ts,I,J=>by
  unfold tksL
  split
  ·exact bQ I J
  ·rename_i c U
   have a0:=(ak.1 U).1
   split
   ·exact Zgq (by omega) a0
   ·split
    ·split
     ·exact bQ I J
     ·have:=(Ztl 10 (s.drop p) 0).1
      rw[db] at this
      exact Zgq (by omega) (by omega)
    ·split
     ·exact bb _
     ·rename_i R
      have R:(tokP (s.drop p)).2=0:=by simpa using R
      obtain⟨n1,n2,_⟩:=Zv6 R
      rw[db] at n2
      exact Zgq (by rw[aC];simp;omega) (by omega)
theorem Zjh(s:List Nat):(Xn s).1.length<=2000:=by
 unfold Xn;split
 ·exact bb _
 ·have:=Zgq (k:=s.length) (s:=s) (p:=0) (ts:= []) (aw _) (bb _)
  omega
theorem Zji(c:Cls):eP (aP c) (aV c) (bU (aJ (aA c)) (bW (aA c)) (bx (aA c)) (bA (aA c)) (bB (aA c)) (bC (aA c)) (bw (aA c)))=c:=by
 obtain⟨a,b,p⟩:=c;cases p;rfl
theorem Zzv(s:List Nat):PureC E 22 [.str ab s] (.tup [.agg [.str ab (Wd s).1.name,.int ab .i64 (Wd s).1.for_,.psl bq (Wd s).1.clauses ab],.int ab .i64 (Wd s).2.1,.int ab .i64 (Wd s).2.2]):=by
 refine Za E_ok (Zd E_ok Yj3 400) ?_;rw[Zzu];delta qBY1 qBY2 qBY3 qBY4 qBY5 qBY6 qBY7 qBY8;unfold Zgp Znl Znk Znj Xl;refine⟨trivial,λy hy=> ?_⟩;have a0:y.1.length<=2000:=hy▸Zjh s;have I:Wd s=if y.2.2≠0 then(zT,y.2.1,y.2.2) else outT (pTar y.1 s.length):=by subst hy;rfl
 generalize Wd s=res at I;refine⟨λh=> ?_,λh=> ?_⟩
 ·have h:y.2.2≠0:=by simpa using h
  rw[if_pos h] at I;subst I;exact⟨⟨rfl,rfl,rfl,trivial⟩,rfl,rfl,trivial⟩
 have h:y.2.2=0:=by simpa using h
 rw[if_neg (by rw[h];decide)] at I;unfold pTar at I;refine⟨λh1=>⟨trivial,λnm x hx=>⟨λh2=>⟨.inr (.inl rfl),λfo z hz=>⟨λh3=> ?_,λh3=> ?_⟩,λer he=> ?_⟩,λh2=> ?_⟩,λer he=> ?_⟩,λh1=> ?_⟩
 rotate_left
 ·rw[if_pos h1,hx] at I
  simp only[if_pos h2,hz,h3] at I;subst I;exact⟨⟨rfl,rfl,rfl,trivial⟩,rfl,rfl,trivial⟩
 ·rw[if_pos h1,hx] at I
  simp only[if_pos h2,he] at I;subst I;exact⟨⟨rfl,rfl,rfl,trivial⟩,rfl,rfl,trivial⟩
 ·rw[if_pos h1,hx] at I
  simp only[h2] at I;subst I;exact⟨⟨rfl,rfl,rfl,trivial⟩,rfl,rfl,trivial⟩
 ·rw[if_pos h1,he] at I
  subst I;exact⟨⟨rfl,rfl,rfl,trivial⟩,rfl,rfl,trivial⟩
 ·rw[h1] at I
  subst I;exact⟨⟨rfl,rfl,rfl,trivial⟩,rfl,rfl,trivial⟩
 rw[if_pos h1,hx] at I;simp only[if_pos h2,hz,if_pos h3] at I;have l1:=Z3 h1;have l2:=Zbg hx;have l3:=Z3 h2;have l4:z.1.length<=x.1.tail.length:=by
  unfold Vj at hz;split at hz
  ·injection hz with hz
   injection hz with _ hz
   subst hz;show x.1.tail.tail.length<=_;rw[fe (l:=x.1.tail)];omega
  ·cases hz
 have l5:=Z3 h3;intro q hq;subst hq
 refine⟨λv=>(v.1=ab->v.2.cs= [])/\outT (pEnd nm (wr .i64 (1+fo)) (pCls v.2.k v.2.cs v.2.l v.2.ed))=res/\v.2.p=hdT v.2.ed v.2.l/\v.2.l.length<v.2.k/\v.2.l.length<=2000/\v.2.fz<=v.2.cs.length/\v.2.cs.length<=64,
  .inl ⟨⟨[],0,z.1.tail,z.2.1,hdT z.2.1 z.1.tail,z.1.tail.length+1⟩,⟨λ_=>rfl,I.symm,rfl,Nat.lt_succ_self _,?_,aw _,bb _⟩,rfl,⟨rfl,rfl,rfl,rfl,rfl,rfl,trivial⟩,⟨⟨rfl,λh=>h⟩,rfl,trivial⟩,⟨rfl,rfl,rfl,trivial⟩,⟨rfl,trivial⟩,⟨rfl,trivial⟩,trivial⟩,?_,?_⟩
 ·show z.1.tail.length<=2000
  omega
 all_goals
  rintro v ⟨v0,v1,v2,v3,v4,v5,v6⟩
  replace v1:outT (pEnd nm (wr .i64 (1+fo)) (pCls v.k v.cs v.l v.ed))=res:=v1
  replace v2:v.p=hdT v.ed v.l:=v2
  replace v3:v.l.length<v.k:=v3
  replace v4:v.l.length<=2000:=v4
  replace v5:v.fz<=v.cs.length:=v5
  replace v6:v.cs.length<=64:=v6
  obtain⟨k,hk⟩:∃k,v.k=k+1:=⟨v.k-1,by omega⟩;rw[hk] at v1;unfold pCls at v1;refine⟨λU=> ?_,λU=>⟨λw2=>⟨λJ=> ?_,λJ=> ?_⟩,λw2=> ?_⟩⟩
 ·have v0:v.cs= []:=v0 rfl
  rw[if_pos U,v0,if_neg (by simp)] at v1;have l6:=Z3 U;refine⟨⟨by omega,by omega⟩,λc x' hc a ha=> ?_,λer he=> ?_⟩
  ·subst ha
   rw[hc] at v1;have l7:=Zdc hc;refine .inr ⟨⟨[c],0,x'.1,x'.2.1,hdT x'.2.1 x'.1,k⟩,⟨λh=>(by cases h),v1,rfl,(by show x'.1.length<k;omega),(by show x'.1.length<=2000;omega),bb _,(by show 1<=64;decide)⟩,(by show k+1<=v.k;omega),rfl,⟨rfl,rfl,rfl,rfl,rfl,rfl,trivial⟩,⟨⟨rfl,λh=>h⟩,rfl,trivial⟩,⟨rfl,rfl,⟨rfl,rfl,trivial⟩,trivial⟩,⟨?_,rfl⟩,⟨rfl,trivial⟩,⟨rfl,trivial⟩,trivial⟩;rw[Zji]
  ·rw[he] at v1
   subst v1;exact⟨⟨rfl,rfl,rfl,trivial⟩,rfl,rfl,trivial⟩
 ·rw[if_neg (by rw[U];decide)] at v1
  simp only[pEnd,if_pos w2] at v1;have J:0<v.l.tail.length:=by
   have:(0:Int)<v.l.tail.length:=by simpa only[decide_eq_true_eq] using J
   omega
  rw[if_pos J] at v1;intro a ha;subst ha;subst v1;exact⟨⟨rfl,rfl,rfl,trivial⟩,rfl,rfl,trivial⟩
 ·have v0:v.cs= []:=v0 rfl
  rw[if_neg (by rw[U];decide)] at v1;simp only[pEnd,if_pos w2] at v1;have J:¬0<v.l.tail.length:=by
   have:¬(0:Int)<v.l.tail.length:=by simpa only[decide_eq_false_iff_not] using J
   omega
  rw[if_neg J,v0] at v1;subst v1;exact⟨⟨rfl,rfl,rfl,trivial⟩,rfl,rfl,trivial⟩
 ·rw[if_neg (by rw[U];decide)] at v1
  simp only[pEnd,w2] at v1;subst v1;exact⟨⟨rfl,rfl,rfl,trivial⟩,rfl,rfl,trivial⟩
 ·have l6:=Z3 U
  rw[if_pos U] at v1;rw[dh,aW];refine⟨λR=> ?_,λR=>⟨by omega,⟨by omega,by omega⟩,λc x' hc=>⟨⟨aw _,by rw[Zk6];omega,by omega⟩,λa ha=> ?_⟩,λer he=> ?_⟩⟩
  ·have R:v.cs.length=64:=by
    have w5:(v.cs.length:Int)=64:=eq_of_beq R;omega
   rw[if_pos R] at v1;subst v1;exact⟨⟨rfl,rfl,rfl,trivial⟩,v2,rfl,trivial⟩
  ·subst ha
   have R:v.cs.length≠64:=λe=>by rw[e] at R;simp at R
   rw[if_neg R,hc] at v1;have l7:=Zdc hc;refine .inr ⟨⟨v.cs++ [c],mx2 v.fz v.cs.length,x'.1,x'.2.1,hdT x'.2.1 x'.1,k⟩,⟨λh=>(by cases h),v1,rfl,(by show x'.1.length<k;omega),(by show x'.1.length<=2000;omega),?_,?_⟩,(by show k+1<=v.k;omega),rfl,⟨rfl,rfl,rfl,rfl,rfl,rfl,trivial⟩,⟨⟨rfl,λh=>h⟩,rfl,trivial⟩,⟨rfl,rfl,⟨rfl,?_,trivial⟩,trivial⟩,⟨?_,rfl⟩,⟨rfl,trivial⟩,⟨rfl,trivial⟩,trivial⟩
   ·show mx2 v.fz v.cs.length<=(v.cs++ [c]).length
    rw[Zk6,aC];omega
   ·show(v.cs++ [c]).length<=64
    rw[aC];simp;omega
   ·show v.cs.length+1=(v.cs++ [c]).length
    rw[aC];rfl
   ·rw[Zji]
  ·have R:v.cs.length≠64:=λe=>by rw[e] at R;simp at R
   rw[if_neg R,he] at v1;subst v1;exact⟨⟨rfl,rfl,rfl,trivial⟩,rfl,rfl,trivial⟩
 ·rw[if_neg (by rw[U];decide)] at v1
  simp only[pEnd,if_pos w2] at v1;have J:0<v.l.tail.length:=by
   have:(0:Int)<v.l.tail.length:=by simpa only[decide_eq_true_eq] using J
   omega
  rw[if_pos J] at v1;intro a ha;subst ha;subst v1;exact⟨⟨rfl,rfl,rfl,trivial⟩,rfl,rfl,trivial⟩
 ·rw[if_neg (by rw[U];decide)] at v1
  simp only[pEnd,if_pos w2] at v1;have J:¬0<v.l.tail.length:=by
   have:¬(0:Int)<v.l.tail.length:=by simpa only[decide_eq_false_iff_not] using J
   omega
  rw[if_neg J] at v1;subst v1;exact⟨⟨rfl,rfl,⟨by omega,aW⟩,trivial⟩,rfl,rfl,trivial⟩
 ·rw[if_neg (by rw[U];decide)] at v1
  simp only[pEnd,w2] at v1;subst v1;exact⟨⟨rfl,rfl,rfl,trivial⟩,rfl,rfl,trivial⟩
end
section
open Go
def decN(n:Int):List Nat:=(Lib.itoa n).map cQ
theorem Ztq(w:World):Ext w w:=⟨rfl,rfl,rfl,aw _,λ_ _=>rfl⟩
theorem Zzo(x:Int) (I:0<=x) (J:x<=18446744073709551615):PureC E 252 [.int ab .u64 x] (.int ab .i64 (Lib.bitLen x.toNat)):=by
 refine Uv λg w U hd=> ?_;obtain⟨u,rfl,R⟩:=Ydr hd;cases R;refine(Any.bits_Len64 Tryz.lays129 x w I J).mono ?_;rintro e w' ⟨rfl,rfl⟩;exact⟨_,rfl,.int _ _ _,Ztq _⟩
theorem Yaz(x:Nat) (h:x<=64):PureC E 251 [.int ab .i64 x] (.int ab .i64 (Lib.l10 x)):=by
 refine Uv λg w J hd=> ?_;obtain⟨u,rfl,I⟩:=Ydr hd;cases I;refine(Any.internal_strconv_log10Pow2 Tryz.lays317 x h w).mono ?_;rintro e R ⟨rfl,rfl⟩;exact⟨_,rfl,.int _ _ _,Ztq _⟩
theorem Yjz(l:List UInt8):toL ⟨l.toArray⟩=l.map cQ:=rfl
theorem Zzp(x:Nat) (h:x<100):PureC E 243 [.int ab .i64 x] (.str ab ((Lib.decDigits x).map cQ)):=by
 refine Uv λg w J hd=> ?_;obtain⟨u,rfl,I⟩:=Ydr hd;cases I;refine(Any.internal_strconv_small Tryz.lays283 x h w).mono ?_;rintro e R ⟨rfl,rfl⟩;exact⟨_,rfl,.str _ (Yjz _),Ztq _⟩
noncomputable def dU64:Dc E Int:=dInt .u64
noncomputable def Yb5:Sum thy:=Wf (dA1 dU64) (λx=>0<=x.1/\x.1<=18446744073709551615) (λx=>Lib.bitLen x.1.toNat) λ(y:Nat)=> .int ab .i64 y
theorem Z5w:SumOk E 252 Yb5:=Zy E_ok (Zc rfl) λx h=>Zzo x.1 h.1 h.2
noncomputable def Sl10:Sum thy:=Wf (dA1 dN) (λx=>0<=x.1/\x.1<=64) (λx=>Lib.l10 x.1.toNat) λ(y:Nat)=> .int ab .i64 y
theorem Ygh:SumOk E 251 Sl10:=Zy E_ok (Zc rfl) λx h=>by
 have:=Yaz x.1.toNat (by omega);rw[show((x.1.toNat:Nat):Int)=x.1 by omega] at this;exact this
noncomputable def Fnd:Fns thy:=addS (addS F0 252 Yb5) 251 Sl10
abbrev Ygi(I:Nat):=
 ((↑I:Int)==(↑((0:Nat)+(1:Nat)+(1:Nat)+(1:Nat)+(1:Nat)+(1:Nat)+(1:Nat)+(1:Nat)+(1:Nat)+(1:Nat)+(1:Nat)+(1:Nat)+(1:Nat)+(1
 :Nat)+(1:Nat)+(1:Nat)+(1:Nat)+(1:Nat)+(1:Nat)+(1:Nat)):Int))
abbrev Ygj(I:Nat):=
 ((↑I:Int)==(↑((0:Nat)+(1:Nat)+(1:Nat)+(1:Nat)+(1:Nat)+(1:Nat)+(1:Nat)+(1:Nat)+(1:Nat)+(1:Nat)+(1:Nat)+(1:Nat)+(1:Nat)+(1
 :Nat)+(1:Nat)+(1:Nat)+(1:Nat)+(1:Nat)+(1:Nat)):Int))
abbrev Ygk(I:Nat):=
 ((↑I:Int)==(↑((0:Nat)+(1:Nat)+(1:Nat)+(1:Nat)+(1:Nat)+(1:Nat)+(1:Nat)+(1:Nat)+(1:Nat)+(1:Nat)+(1:Nat)+(1:Nat)+(1:Nat)+(1
 :Nat)+(1:Nat)+(1:Nat)+(1:Nat)+(1:Nat)):Int))
abbrev Ygl(I:Nat):=
 ((↑I:Int)==(↑((0:Nat)+(1:Nat)+(1:Nat)+(1:Nat)+(1:Nat)+(1:Nat)+(1:Nat)+(1:Nat)+(1:Nat)+(1:Nat)+(1:Nat)+(1:Nat)+(1:Nat)+(1
 :Nat)+(1:Nat)+(1:Nat)+(1:Nat)):Int))
abbrev Ygm(I:Nat):=
 ((↑I:Int)==(↑((0:Nat)+(1:Nat)+(1:Nat)+(1:Nat)+(1:Nat)+(1:Nat)+(1:Nat)+(1:Nat)+(1:Nat)+(1:Nat)+(1:Nat)+(1:Nat)+(1:Nat)+(1
 :Nat)+(1:Nat)+(1:Nat)):Int))
abbrev Ygn(I:Nat):=
 ((↑I:Int)==(↑((0:Nat)+(1:Nat)+(1:Nat)+(1:Nat)+(1:Nat)+(1:Nat)+(1:Nat)+(1:Nat)+(1:Nat)+(1:Nat)+(1:Nat)+(1:Nat)+(1:Nat)+(1
 :Nat)+(1:Nat)):Int))
abbrev Ygo(I:Nat):=
 ((↑I:Int)==(↑((0:Nat)+(1:Nat)+(1:Nat)+(1:Nat)+(1:Nat)+(1:Nat)+(1:Nat)+(1:Nat)+(1:Nat)+(1:Nat)+(1:Nat)+(1:Nat)+(1:Nat)+(1
 :Nat)):Int))
abbrev Ygp(I:Nat):=
 ((↑I:Int)==(↑((0:Nat)+(1:Nat)+(1:Nat)+(1:Nat)+(1:Nat)+(1:Nat)+(1:Nat)+(1:Nat)+(1:Nat)+(1:Nat)+(1:Nat)+(1:Nat)+(1:Nat)):
 Int))
abbrev Ygq(I:Nat):=
 ((↑I:Int)==(↑((0:Nat)+(1:Nat)+(1:Nat)+(1:Nat)+(1:Nat)+(1:Nat)+(1:Nat)+(1:Nat)+(1:Nat)+(1:Nat)+(1:Nat)+(1:Nat)):Int))
abbrev Ygr(I:Nat):=
 ((↑I:Int)==(↑((0:Nat)+(1:Nat)+(1:Nat)+(1:Nat)+(1:Nat)+(1:Nat)+(1:Nat)+(1:Nat)+(1:Nat)+(1:Nat)+(1:Nat)):Int))
abbrev Z5x(I:Nat):=
 ((↑I:Int)==(↑((0:Nat)+(1:Nat)+(1:Nat)+(1:Nat)+(1:Nat)+(1:Nat)+(1:Nat)+(1:Nat)+(1:Nat)+(1:Nat)):Int))
abbrev Z5y(I:Nat):=
 ((↑I:Int)==(↑((0:Nat)+(1:Nat)+(1:Nat)+(1:Nat)+(1:Nat)+(1:Nat)+(1:Nat)+(1:Nat)+(1:Nat)):Int))
abbrev Z5z(I:Nat):=
 ((↑I:Int)==(↑((0:Nat)+(1:Nat)+(1:Nat)+(1:Nat)+(1:Nat)+(1:Nat)+(1:Nat)+(1:Nat)):Int))
abbrev Z50(I:Nat):=
 ((↑I:Int)==(↑((0:Nat)+(1:Nat)+(1:Nat)+(1:Nat)+(1:Nat)+(1:Nat)+(1:Nat)):Int))
abbrev qBZ1(I:Nat):=((↑I:Int)+(1:Int))
abbrev qBZ2(I:Nat):=((↑I:Int)+(0:Int))
abbrev qBZ3:=(1:Nat)
abbrev qBZ4:=(0:Nat)
abbrev qBZ5:=(↑(qBZ4+qBZ3+qBZ3+qBZ3+qBZ3+qBZ3):Int)
theorem Ygs(u:Int) (v:Int):Zk E Fnd (vc E Fnd 400) 244 [.int ab .u64 u] hp0 0 (λr=>ret E (patch hp0 0 r) r.v (.int ab .i64 v))=(
 ((0:Int)<=u/\u<=(18446744073709551615:Int))/\∀(y:Nat),y=Lib.bitLen (ag u)->((0:Int)<=(↑y:Int)/\(↑y:Int)<=(64:Int))/\∀(I:Nat),I=Lib.l10 (ag (↑y:Int))->(0:Int)<=(↑I:Int)/\(↑I:Int)+(1:Int)<=(↑(20:Nat):Int)/\(((↑I:Int)==(↑qBZ4:Int))=ac->(decide (u>=(1:Int))=ac->wr af (qBZ1 I)=v)/\(decide (u>=(1:Int))=ab->wr af (qBZ2 I)=v))/\(((↑I:Int)==(↑qBZ4:Int))=ab->(((↑I:Int)==(↑(qBZ4+qBZ3):Int))=ac->(decide (u>=(10:Int))=ac->wr af (qBZ1 I)=v)/\(decide (u>=(10:Int))=ab->wr af (qBZ2 I)=v))/\(((↑I:Int)==(↑(qBZ4+qBZ3):Int))=ab->(((↑I:Int)==(↑(qBZ4+qBZ3+qBZ3):Int))=ac->(decide (u>=(100:Int))=ac->wr af (qBZ1 I)=v)/\(decide (u>=(100:Int))=ab->wr af (qBZ2 I)=v))/\(((↑I:Int)==(↑(qBZ4+qBZ3+qBZ3):Int))=ab->(((↑I:Int)==(↑(qBZ4+qBZ3+qBZ3+qBZ3):Int))=ac->(decide (u>=(1000:Int))=ac->wr af (qBZ1 I)=v)/\(decide (u>=(1000:Int))=ab->wr af (qBZ2 I)=v))/\(((↑I:Int)==(↑(qBZ4+qBZ3+qBZ3+qBZ3):Int))=ab->(((↑I:Int)==(↑(qBZ4+qBZ3+qBZ3+qBZ3+qBZ3):Int))=ac->(decide (u>=(10000:Int))=ac->wr af (qBZ1 I)=v)/\(decide (u>=(10000:Int))=ab->wr af (qBZ2 I)=v))/\(((↑I:Int)==(↑(qBZ4+qBZ3+qBZ3+qBZ3+qBZ3):Int))=ab->(((↑I:Int)==qBZ5)=ac->(decide (u>=(100000:Int))=ac->wr af (qBZ1 I)=v)/\(decide (u>=(100000:Int))=ab->wr af (qBZ2 I)=v))/\(((↑I:Int)==qBZ5)=ab->((Z50 I)=ac->(decide (u>=(1000000:Int))=ac->wr af (qBZ1 I)=v)/\(decide (u>=(1000000:Int))=ab->wr af (qBZ2 I)=v))/\((Z50 I)=ab->((Z5z I)=ac->(decide (u>=(10000000:Int))=ac->wr af (qBZ1 I)=v)/\(decide (u>=(10000000:Int))=ab->wr af (qBZ2 I)=v))/\((Z5z I)=ab->((Z5y I)=ac->(decide (u>=(100000000:Int))=ac->wr af (qBZ1 I)=v)/\(decide (u>=(100000000:Int))=ab->wr af (qBZ2 I)=v))/\((Z5y I)=ab->((Z5x I)=ac->(decide (u>=(1000000000:Int))=ac->wr af (qBZ1 I)=v)/\(decide (u>=(1000000000:Int))=ab->wr af (qBZ2 I)=v))/\((Z5x I)=ab->((Ygr I)=ac->(decide (u>=(10000000000:Int))=ac->wr af (qBZ1 I)=v)/\(decide (u>=(10000000000:Int))=ab->wr af (qBZ2 I)=v))/\((Ygr I)=ab->((Ygq I)=ac->(decide (u>=(100000000000:Int))=ac->wr af (qBZ1 I)=v)/\(decide (u>=(100000000000:Int))=ab->wr af (qBZ2 I)=v))/\((Ygq I)=ab->((Ygp I)=ac->(decide (u>=(1000000000000:Int))=ac->wr af (qBZ1 I)=v)/\(decide (u>=(1000000000000:Int))=ab->wr af (qBZ2 I)=v))/\((Ygp I)=ab->((Ygo I)=ac->(decide (u>=(10000000000000:Int))=ac->wr af (qBZ1 I)=v)/\(decide (u>=(10000000000000:Int))=ab->wr af (qBZ2 I)=v))/\((Ygo I)=ab->((Ygn I)=ac->(decide (u>=(100000000000000:Int))=ac->wr af (qBZ1 I)=v)/\(decide (u>=(100000000000000:Int))=ab->wr af (qBZ2 I)=v))/\((Ygn I)=ab->((Ygm I)=ac->(decide (u>=(1000000000000000:Int))=ac->wr af (qBZ1 I)=v)/\(decide (u>=(1000000000000000:Int))=ab->wr af (qBZ2 I)=v))/\((Ygm I)=ab->((Ygl I)=ac->(decide (u>=(10000000000000000:Int))=ac->wr af (qBZ1 I)=v)/\(decide (u>=(10000000000000000:Int))=ab->wr af (qBZ2 I)=v))/\((Ygl I)=ab->((Ygk I)=
ac->(decide (u>=(100000000000000000:Int))=ac->wr af (qBZ1 I)=v)/\(decide (u>=(100000000000000000:Int))=ab->wr af (qBZ2 I)=v))/\((Ygk I)=ab->((Ygj I)=ac->(decide (u>=(1000000000000000000:Int))=ac->wr af (qBZ1 I)=v)/\(decide (u>=(1000000000000000000:Int))=ab->wr af (qBZ2 I)=v))/\((Ygj I)=ab->((Ygi I)=ac->(decide (u>=(10000000000000000000:Int))=ac->wr af (qBZ1 I)=v)/\(decide (u>=(10000000000000000000:Int))=ab->wr af (qBZ2 I)=v))/\((Ygi I)=ab->True))))))))))))))))))))):=by kernel_rfl
theorem Yj0:FnsOk E Fnd:=Zb (Zb F0_ok Z5w) Ygh
theorem blA:∀f x,Lib.bitLenAux f x<=f
 |0,x=>aw _
 |f+1,x=>by
  unfold Lib.bitLenAux
  split
  ·exact bb _
  ·have:=blA f (x/2)
   omega
theorem bl64(x:Nat):Lib.bitLen x<=64:=blA 64 x
theorem Ygt(u:Nat) (R:1<=u) (h2:u<18446744073709551616):PureC E 244 [.int ab .u64 (u:Int)] (.int ab .i64 (Lib.nDigits u)):=by
 refine Za E_ok (Zd E_ok Yj0 400) ?_;rw[Ygs];delta qBZ1 qBZ2 qBZ3 qBZ4 qBZ5;unfold Z50 Z5z Z5y Z5x Ygr Ygq Ygp Ygo Ygn Ygm Ygl Ygk Ygj Ygi;refine⟨⟨by omega,by omega⟩,λy hy=> ?_⟩;have U:y=Lib.bitLen u:=by rw[hy,show ag (u:Int)=u by omega]
 obtain⟨J,k2⟩:=Lib.numDigits_eq u R h2;have a0:Lib.bitLen u<=64:=bl64 u;refine⟨⟨by omega,by omega⟩,λt I=> ?_⟩;have I:t=Lib.l10 (Lib.bitLen u):=by rw[I,show ag (y:Int)=y by omega,U]
 rw[<-I] at J k2;generalize Lib.nDigits u=d at*;clear I U hy a0;refine⟨by omega,by omega,?_⟩;have hc:t=0\/t=1\/t=2\/t=3\/t=4\/t=5\/t=6\/t=7\/t=8\/t=9\/t=10\/t=11\/t=12\/t=13\/t=14\/t=15\/t=16\/t=17\/t=18\/t=19:=by omega
 have w:∀n:Int,0<=n->n<=20->wr .i64 n=n:=λn h0 R=>wr64 (by omega) (by omega);rcases hc with rfl|rfl|rfl|rfl|rfl|rfl|rfl|rfl|rfl|rfl|rfl|rfl|rfl|rfl|rfl|rfl|rfl|rfl|rfl|rfl
 all_goals
  simp;refine⟨λh=> ?_,λh=> ?_⟩
  ·rw[w _ (by decide) (by decide)]
   rw[if_pos (by omega)] at J;omega
  ·rw[w _ (by decide) (by decide)]
   rw[if_neg (by omega)] at J;omega
end
section
open Go
def Wk(op:Int):Int:=if op=3\/op=4 then 1 else if op=5 then 2 else 3
def idxI(v:Int):Nat->List Int->Int
 |_,[]=> -1
 |k,x::r=>if v=x then(k:Int) else idxI v (k+1) r
def txU(d:List Int):List (List Nat):=
 (if 0<=idxI 1 0 d then[WK.un.words.getD (idxI 1 0 d).toNat []] else[])++(if 0<=idxI (-1) 0 d then[sPer,WK.un.words.getD (idxI (-1) 0 d).toNat []] else[])
def txS:List (List (List Nat))->List (List Nat)->List (List Nat)
 |t::r,s::I=>t++s::txS r I
 |_,_=> []
def par(op least:Int) (t:List (List Nat)):List (List Nat):=if least<=Wk op then t else Zf0::(t++ [Vs])
def sgnO(op:Int):List Nat:=if op=3 then Zsw else if op=4 then Zkx else sMul
def txN(op n:Int) (u:List Int) (os:List Int) (ts:List (List (List Nat))):List (List Nat):=
 if op=1 then decN n::txU u
 else if op=2 then[WK.at_.words.getD n.toNat []]
 else if op=11 then sIf::Zf0::txS ts [Zrg,V3,V3,Vs]
 else if op=3\/op=4\/op=5 then par (os.getD 0 0) (Wk op) (ts.getD 0 [])++sgnO op::par (os.getD 1 0) (Wk op+1) (ts.getD 1 [])
 else WK.ca.words.getD (op-6).toNat []::Zf0::txS ts [V3,Vs]
mutual
def txX:Ex->List (List Nat)
 | .mk op n d0 d1 d2 d3 l=>txN op n [d0,d1,d2,d3] (l.map aJ) (txL l)
def txL:List Ex->List (List (List Nat))
 | []=> []
 |x::r=>txX x::txL r
end
def sPay:List Nat:= [112,97,121]
def Ydn:List Nat:= [59]
def Zsc:List Nat:= [116,97,114,105,102,102]
def sFor:List Nat:= [102,111,114]
def sLb:List Nat:= [123]
def sRb:List Nat:= [125]
def txW(w:Tst):List (List Nat):=WK.at_.words.getD w.attr.toNat []::(if w.low=w.high then[sIs,decN w.low] else[sIn,decN w.low,Zrk,decN w.high])
def txTs:Nat->List Tst->List (List Nat)
 |_,[]=> []
 |i,w::r=>(if i=0 then Zlr else sAnd)::(txW w++txTs (i+1) r)
def txC(c:Cls):List (List Nat):=V0::c.name::(txTs 0 c.when_++sPay::(txX c.pay++ [Ydn]))
def txCs:List Cls->List (List Nat)
 | []=> []
 |c::r=>txC c++txCs r
def Zmf(t:Tar):List (List Nat):=Zsc::t.name::sFor::WK.ki.words.getD (t.for_-1).toNat []::sLb::(txCs t.clauses++ [sRb])
def Zb8:List (List Nat)->List Nat
 | []=> []
 | [w]=>w
 |w::r=>w++32::Zb8 r
noncomputable def U6(t:Tar):List Nat×Int:=if Z9 t≠0 then([],Z9 t) else if 2000<(Zb8 (Zmf t)).length then([],2) else(Zb8 (Zmf t),0)
theorem Zko{w:List Nat} {r:List (List Nat)} (h:r≠ []):Zb8 (w::r)=w++32::Zb8 r:=by
 cases r with
 |nil=>exact absurd rfl h
 |cons x r=>rfl
def SepL(s t:List Nat):Prop:=(∀c,s.getLast? =ae c->isLD c=ab)\/(∀c,t.head? =ae c->isLD c=ab)
def atT(p:Nat) (t:Tok):Tok:=⟨t.kind,t.text,t.n,p⟩
def TokW(w:List Nat):Prop:=(tokP w).2=0/\(tokP w).1.text=w/\w≠ []
theorem Zcw{f:Int->Bool}:∀{w:List Nat},(∀c∈w,f c=ac)->spn f w=w.length
 | [],_=>rfl
 |c::r,h=>by
  unfold spn
  rw[if_pos (h c (by simp)),Zcw λc I=>h c (by simp[I])]
  rfl
theorem SepL.tail{w s t:List Nat} (J:s≠ []) (h:SepL (w++s) t):SepL s t:=by
 rcases h with h|h
 ·refine .inl λc I=>h c ?_
  rw[List.getLast?_append,I];rfl
 ·exact .inr h
def tkS(w:List Nat):Tok:=atT 0 (tokP w).1
def sT(t:Tok):Tok:=atT 0 t
end
section
open Go
def ndZ(u:Int) (k:Res thy->Prop):List Int->Prop
 | []=>True
 |j::r=>((Lib.nDigits u.toNat:Int)=j->k (quiet [] (.int ac .i64 j)))/\ndZ u k r
noncomputable def SndZ:Sum thy:=λargs _ _ k=>
 match args with
 | [.int _ .u64 u]=>(1<=u/\u<10000000000000000)/\ndZ u k [1,2,3,4,5,6,7,8,9,10,11,12,13,14,15,16]
 |_=>False
noncomputable def SsmZ:Sum thy:=Wf (dA1 dN) (λx=>0<=x.1/\x.1<100) (λx=>(Lib.itoa x.1).map cQ) λy=> .str ab y
noncomputable def FitZ:Fns thy:=addS (addS F0 244 SndZ) 243 SsmZ
def smZ:List Nat:= [48,48,48,49,48,50,48,51,48,52,48,53,48,54,48,55,48,56,48,57,49,48,49,49,49,50,49,51,49,52,49,53,49,54,49,55,49,56,49,57,50,48,50,49,50,50,50,51,50,52,50,53,50,54,50,55,50,56,50,57,51,48,51,49,51,50,51,51,51,52,51,53,51,54,51,55,51,56,51,57,52,48,52,49,52,50,52,51,52,52,52,53,52,54,52,55,52,56,52,57,53,48,53,49,53,50,53,51,53,52,53,53,53,54,53,55,53,56,53,57,54,48,54,49,54,50,54,51,54,52,54,53,54,54,54,55,54,56,54,57,55,48,55,49,55,50,55,51,55,52,55,53,55,54,55,55,55,56,55,57,56,48,56,49,56,50,56,51,56,52,56,53,56,54,56,55,56,56,56,57,57,48,57,49,57,50,57,51,57,52,57,53,57,54,57,55,57,56,57,57]
def pZ(b:Int) (K:Nat->Nat->Prop):Prop:=0<=wr .u32 (b+1)/\wr .u32 (b+1)+1<=(smZ.length:Int)/\∀x:Nat,smZ[(wr .u32 (b+1)).toNat]? =ae x->0<=b/\b+1<=(smZ.length:Int)/\∀y:Nat,smZ[b.toNat]? =ae y->K (ag (x:Int)%256) (ag (y:Int)%256)
def e8Z(u:Int) (L:List Nat) (K:List Nat->Prop):Prop:=
 pZ (wr .u32 (eE (eE (wr .u32 (eE u 100000000)) 10000) 100*2)) λa b=>
 pZ (wr .u32 (wr .u32 (dj (eE (wr .u32 (eE u 100000000)) 10000) 100)*2)) λc d=>
 pZ (wr .u32 (eE (wr .u32 (dj (wr .u32 (eE u 100000000)) 10000)) 100*2)) λe f=>
 pZ (wr .u32 (wr .u32 (dj (wr .u32 (dj (wr .u32 (eE u 100000000)) 10000)) 100)*2)) λg h=>K (h::g::f::e::d::c::b::a::L)
def e4Z(v:Int) (L:List Nat) (K:List Nat->Prop):Prop:=
 pZ (wr .u32 (eE (eE v 10000) 100*2)) λa b=>
 pZ (wr .u32 (wr .u32 (dj (eE v 10000) 100)*2)) λc d=>K (d::c::b::a::L)
def e2Z(v:Int) (L:List Nat) (K:List Nat->Prop):Prop:=pZ (wr .u32 (eE v 100*2)) λa b=>K (b::a::L)
def e1Z(v:Int) (L:List Nat) (K:List Nat->Prop):Prop:=K (ag (wr .u8 (wr .u32 (48+v)))%256::L)
def loZ:Nat->Int->List Nat->(List Nat->Prop)->Prop
 |0,_,L,K=>K L
 |1,v,L,K=>e1Z v L K
 |2,v,L,K=>e2Z v L K
 |3,v,L,K=>e2Z v L λL=>e1Z (wr .u32 (dj v 100)) L K
 |4,v,L,K=>e4Z v L K
 |5,v,L,K=>e4Z v L λL=>e1Z (wr .u32 (dj v 10000)) L K
 |6,v,L,K=>e4Z v L λL=>e2Z (wr .u32 (dj v 10000)) L K
 |7,v,L,K=>e4Z v L λL=>e2Z (wr .u32 (dj v 10000)) L λL=>e1Z (wr .u32 (dj (wr .u32 (dj v 10000)) 100)) L K
 |_,_,_,_=>False
def hiZ(j:Nat) (u:Int) (L:List Nat) (K:List Nat->Prop):Prop:=
 if j<8 then loZ j (wr .u32 u) L K
 else e8Z u L λL=>if j<16 then loZ (j-8) (wr .u32 (wr .u64 (dj u 100000000))) L K else e8Z (wr .u64 (dj u 100000000)) L K
def finZ(n:Int) (v:List Nat) (L:List Nat):Prop:=(decide (n<0)=ac->ag 45%256::L=v)/\(decide (n<0)=ab->L=v)
def allZ(u n:Int) (v:List Nat):List Nat->Prop
 | []=>True
 |j::r=>((Lib.nDigits u.toNat:Int)=j->hiZ j u [] (finZ n v))/\allZ u n v r
def itZ(u n:Int) (v:List Nat):Prop:=(1<=u/\u+1<=10000000000000000)/\allZ u n v [1,2,3,4,5,6,7,8,9,10,11,12,13,14,15,16]
theorem Zyp(n:Int) (v:List Nat):Zk E FitZ (vc E FitZ 2000) 158 [.int ab .i64 n] hp0 0 (λr=>ret E (patch hp0 0 r) r.v (.str ab v))=(
 ∃(Q:Bool->Prop),((decide (0<=n)=ac->(decide (n<100)=ac->Q ac)/\(decide (n<100)=ab->Q ab))/\(decide (0<=n)=ab->Q ab))/\(Q ac->(0<=n/\n+1<=100)/\∀(y:List Nat),y=List.map cQ (Lib.itoa n)->y=v)/\
  (Q ab->(decide (n<0)=ac->itZ (wr .u64 (0-wr .u64 n)) n v)/\(decide (n<0)=ab->itZ (wr .u64 n) n v))):=by kernel_rfl
theorem Z4n{u:Int} {k:Res thy->Prop}:∀{l:List Int},ndZ u k l->∀j∈l,(Lib.nDigits u.toNat:Int)=j->k (quiet [] (.int ac .i64 j))
 | [],_,j,I,_=>by cases I
 |x::r,h,j,I,e=>by
  rcases aL.1 I with rfl|I
  ·exact h.1 e
  ·exact Z4n h.2 j I e
theorem Z4o:∀(k u:Nat),u<10^(k+1)->Lib.nDigits u<=k+1
 |0,u,h=>by rw[Lib.nDigits_small (by simpa using h)];exact aw _
 |k+1,u,h=>by
  by_cases I:u<10
  ·rw[Lib.nDigits_small I];omega
  ·rw[Lib.nDigits_big I]
   rw[Nat.pow_succ] at h
   have:=Z4o k (u/10) (by omega)
   omega
theorem in16(d:Nat) (I:1<=d) (J:d<=16):(d:Int)∈ [(1:Int),2,3,4,5,6,7,8,9,10,11,12,13,14,15,16]:=by
 have:d=1\/d=2\/d=3\/d=4\/d=5\/d=6\/d=7\/d=8\/d=9\/d=10\/d=11\/d=12\/d=13\/d=14\/d=15\/d=16:=by omega
 rcases this with rfl|rfl|rfl|rfl|rfl|rfl|rfl|rfl|rfl|rfl|rfl|rfl|rfl|rfl|rfl|rfl<;>decide
theorem Yfh:SumOk E 244 SndZ:=by
 have U:SumOk E 244 (Wf (dA1 dU64) (λx=>1<=x.1/\x.1<10000000000000000) (λx=>Lib.nDigits x.1.toNat) λ(y:Nat)=> .int ac .i64 y):=Zy E_ok (Zc rfl) λx h=>by
  have:=Ygt x.1.toNat (by omega) (by omega);rw[show((x.1.toNat:Nat):Int)=x.1 by omega] at this;intro g w a0 hI hd;refine(this g w a0 hI hd).mono ?_;rintro en w' ⟨u,he,g',J,R,h3⟩;cases h3;exact⟨_,he,g',J,R,.int _ _ _⟩
 refine⟨U.good,λargs h i k hD I=> ?_⟩;unfold SndZ at I;split at I
 case h_2=>exact I.elim
 rename_i l u;obtain⟨⟨J,R⟩,I⟩:=I;refine U.ok _ h i k hD ⟨⟨J,R⟩,λy hy=> ?_⟩;subst hy;have hn:=Z4o 15 u.toNat (by show u.toNat<10000000000000000;omega);have hp:=Lib.nDigits_pos u.toNat;refine Z4n I _ (in16 _ hp hn) rfl
theorem Yfi:SumOk E 243 SsmZ:=Zy E_ok (Zc rfl) λx h=>by
 have:=Zzp x.1.toNat (by omega);rw[show((x.1.toNat:Nat):Int)=x.1 by omega] at this;have e:Lib.itoa x.1=Lib.decDigits x.1.toNat:=by unfold Lib.itoa;rw[if_neg (by omega)]
 rw[e];exact this
theorem Yfj:FnsOk E FitZ:=Zb (Zb F0_ok Yfh) Yfi
def smVZ(i:Nat):Nat:=if i%2=0 then 48+i/2/10 else 48+i/2%10
theorem Z4p:∀i,i<200->smZ[i]? =ae (smVZ i):=by decide+kernel
theorem Yfk:smZ.length=200:=by decide+kernel
theorem Yjf(x:Int):wr .u64 x=x%18446744073709551616:=rfl
theorem Zfe(x:Int):wr .u32 x=x%4294967296:=rfl
theorem wuZ8(x:Int):wr .u8 x=x%256:=rfl
theorem Zs5{m:Nat} (hm:m<100) {b:Int} (hb:b=((m*2:Nat):Int)) {K:Nat->Nat->Prop} (h:K (48+m%10) (48+m/10)):pZ b K:=by
 have e1:wr .u32 (b+1)=((m*2+1:Nat):Int):=by rw[Zfe];omega
 unfold pZ;rw[e1,Yfk,bt];refine⟨by omega,by omega,λx I=>⟨by omega,by omega,λy J=> ?_⟩⟩;rw[Z4p _ (by omega)] at I;rw[hb,bt,Z4p _ (by omega)] at J;cases I;cases J;rw[bt,bt];have R:smVZ (m*2+1)%256=48+m%10:=by unfold smVZ;rw[if_neg (by omega)];omega
 have U:smVZ (m*2)%256=48+m/10:=by unfold smVZ;rw[if_pos (by omega)];omega
 rw[R,U];exact h
def dgZ(u j:Nat):Nat:=48+u/10^j%10
theorem Ybq(u:Nat) {L:List Nat} {K:List Nat->Prop} (h:K (dgZ u 7::dgZ u 6::dgZ u 5::dgZ u 4::dgZ u 3::dgZ u 2::dgZ u 1::dgZ u 0::L)):e8Z (u:Int) L K:=by
 refine Zs5 (m:=u%100000000%10000%100) (by omega) (by simp(disch:=omega) only[Zfe,cX,cw];omega) ?_;refine Zs5 (m:=u%100000000%10000/100) (by omega) (by simp(disch:=omega) only[Zfe,cX,cw];omega) ?_;refine Zs5 (m:=u%100000000/10000%100) (by omega) (by simp(disch:=omega) only[Zfe,cX,cw];omega) ?_;refine Zs5 (m:=u%100000000/10000/100) (by omega) (by simp(disch:=omega) only[Zfe,cX,cw];omega) ?_
 refine Eq.mp (congrArg K ?_) h;simp only[dgZ,cR,and_true,cJ]
 repeat' apply aB
 all_goals omega
theorem Zvs(v:Nat) {L:List Nat} {K:List Nat->Prop} (h:K (dgZ v 3::dgZ v 2::dgZ v 1::dgZ v 0::L)):e4Z (v:Int) L K:=by
 refine Zs5 (m:=v%10000%100) (by omega) (by simp(disch:=omega) only[Zfe,cX,cw];omega) ?_;refine Zs5 (m:=v%10000/100) (by omega) (by simp(disch:=omega) only[Zfe,cX,cw];omega) ?_;refine Eq.mp (congrArg K ?_) h;simp only[dgZ,cR,and_true,cJ]
 repeat' apply aB
 all_goals omega
theorem Zvt(v:Nat) {L:List Nat} {K:List Nat->Prop} (h:K (dgZ v 1::dgZ v 0::L)):e2Z (v:Int) L K:=by
 refine Zs5 (m:=v%100) (by omega) (by simp(disch:=omega) only[Zfe,cX,cw];omega) ?_;refine Eq.mp (congrArg K ?_) h;simp only[dgZ,cR,and_true,cJ]
 repeat' apply aB
 all_goals omega
theorem Zvu(v:Nat) (I:v<10) {L:List Nat} {K:List Nat->Prop} (h:K (dgZ v 0::L)):e1Z (v:Int) L K:=by
 have e:ag (wr .u8 (wr .u32 (48+(v:Int))))%256=dgZ v 0:=by unfold dgZ;rw[wuZ8,Zfe];simp only[cJ];omega
 unfold e1Z;rw[e];exact h
theorem q2Z(v:Nat) (I:v<10000):wr .u32 (dj (v:Int) 100)=((v/100:Nat):Int):=by simp(disch:=omega) only[Zfe,cw];omega
theorem q4Z(v:Nat) (I:v<4294967296):wr .u32 (dj (v:Int) 10000)=((v/10000:Nat):Int):=by simp(disch:=omega) only[Zfe,cw];omega
def dlZ(u j:Nat):List Nat:=(cK j).map λt=>dgZ u (j-1-t)
theorem Ybr:∀(j:Nat),j<=7->∀(v:Nat),v<10^j->∀{L:List Nat} {K:List Nat->Prop},K (dlZ v j++L)->loZ j (v:Int) L K
 |0,_,v,_,L,K,h=>h
 |1,_,v,I,L,K,h=>Zvu v (by simpa using I) h
 |2,_,v,_,L,K,h=>Zvt v h
 |3,_,v,I,L,K,h=>by
  show e2Z (v:Int) L λL=>e1Z (wr .u32 (dj (v:Int) 100)) L K
  refine Zvt v ?_
  rw[q2Z v (by simp only[cJ] at I;omega)]
  refine Zvu _ (by simp only[cJ] at I;omega) (Eq.mp (congrArg K ?_) h)
  simp only[dlZ,dgZ,cK,eW,cg,dI,dc,dZ,cR,and_true,gX,cJ]
  repeat' apply aB
  all_goals omega
 |4,_,v,_,L,K,h=>Zvs v h
 |5,_,v,I,L,K,h=>by
  show e4Z (v:Int) L λL=>e1Z (wr .u32 (dj (v:Int) 10000)) L K
  refine Zvs v ?_
  rw[q4Z v (by simp only[cJ] at I;omega)]
  refine Zvu _ (by simp only[cJ] at I;omega) (Eq.mp (congrArg K ?_) h)
  simp only[dlZ,dgZ,cK,eW,cg,dI,dc,dZ,cR,and_true,gX,cJ]
  repeat' apply aB
  all_goals omega
 |6,_,v,I,L,K,h=>by
  show e4Z (v:Int) L λL=>e2Z (wr .u32 (dj (v:Int) 10000)) L K
  refine Zvs v ?_
  rw[q4Z v (by simp only[cJ] at I;omega)]
  refine Zvt _ (Eq.mp (congrArg K ?_) h)
  simp only[dlZ,dgZ,cK,eW,cg,dI,dc,dZ,cR,and_true,gX,cJ]
  repeat' apply aB
  all_goals omega
 |7,_,v,I,L,K,h=>by
  show e4Z (v:Int) L λL=>e2Z (wr .u32 (dj (v:Int) 10000)) L λL=>e1Z (wr .u32 (dj (wr .u32 (dj (v:Int) 10000)) 100)) L K
  refine Zvs v ?_
  rw[q4Z v (by simp only[cJ] at I;omega)]
  refine Zvt _ ?_
  rw[q2Z _ (by simp only[cJ] at I;omega)]
  refine Zvu _ (by simp only[cJ] at I;omega) (Eq.mp (congrArg K ?_) h)
  simp only[dlZ,dgZ,cK,eW,cg,dI,dc,dZ,cR,and_true,gX,cJ]
  repeat' apply aB
  all_goals omega
 |j+8,J,_,_,_,_,_=>by omega
theorem Ylb(u j:Nat):dlZ u (j+8)=dlZ (u/100000000) j++ [dgZ u 7,dgZ u 6,dgZ u 5,dgZ u 4,dgZ u 3,dgZ u 2,dgZ u 1,dgZ u 0]:=by
 unfold dlZ;rw[List.range_add,gy]
 congr 1
 ·refine jl λt I=> ?_
  have I:=List.mem_range.1 I;unfold dgZ;rw[Nat.div_div_eq_div_mul,show(100000000:Nat)=10^8 by decide,<-kL,show 8+(j-1-t)=j+8-1-t by omega]
 ·simp only[cK,eW,cg,dI]
  rw[show j+8-1-(j+0)=7 by omega,show j+8-1-(j+1)=6 by omega,show j+8-1-(j+2)=5 by omega,show j+8-1-(j+3)=4 by omega,show j+8-1-(j+4)=3 by omega,show j+8-1-(j+5)=2 by omega,show j+8-1-(j+6)=1 by omega,show j+8-1-(j+7)=0 by omega]
theorem Yjg(j u:Nat) (hj:j<=16) (I:u<10^j) (a1:u<18446744073709551616) {K:List Nat->Prop} (h:K (dlZ u j)):hiZ j (u:Int) [] K:=by
 unfold hiZ;have J:wr .u64 (dj (u:Int) 100000000)=((u/100000000:Nat):Int):=by simp(disch:=omega) only[Yjf,cw];omega
 split
 ·rename_i U
  have R:u<10000000:=bY I (gN (by decide) (by omega:j<=7));rw[show wr .u32 (u:Int)=(u:Int) by rw[Zfe];omega];exact Ybr j (by omega) u I (by rw[List.append_nil];exact h)
 ·rename_i U
  obtain⟨k,rfl⟩:∃k,j=k+8:=⟨j-8,by omega⟩;have hd:u/100000000<10^k:=by
   rw[kL] at I;exact Nat.div_lt_of_lt_mul (by rw[Nat.mul_comm];exact I)
  rw[Ylb] at h;refine Ybq u ?_;split
  ·rename_i a0
   rw[J,Nat.add_sub_cancel];have R:u/100000000<10000000:=bY hd (gN (by decide) (by omega:k<=7));rw[show wr .u32 ((u/100000000:Nat):Int)=((u/100000000:Nat):Int) by rw[Zfe];omega];exact Ybr k (by omega) _ hd h
  ·obtain rfl:k=8:=by omega
   rw[J];refine Ybq _ ?_;exact h
theorem Z4q(u k:Nat) (h:Lib.nDigits u=k):(Lib.decDigits u).map cQ=dlZ u k:=by
 rw[Lib.decDigits_eq,List.map_map,h];refine jl λt _=> ?_;show(Lib.dg u (k-1-t)).toNat=_;unfold Lib.dg dgZ;rw[gV];omega
theorem Z4r{u n:Int} {v:List Nat}:∀{l:List Nat},(∀j∈l,Lib.nDigits u.toNat=j->hiZ j u [] (finZ n v))->allZ u n v l
 | [],_=>trivial
 |j::r,h=>⟨λe=>h j List.mem_cons_self (Int.ofNat.inj e),Z4r λi hi=>h i (List.mem_cons_of_mem _ hi)⟩
theorem Zyq(u:Nat) (hu:u<10000000000000000):PureC E 158 [.int ab .i64 (u:Int)] (.str ab (decN u)):=by
 refine Za E_ok (Zd E_ok Yfj 2000) ?_;rw[Zyp];have a0:decN (u:Int)=(Lib.decDigits u).map cQ:=by
  unfold decN Lib.itoa;rw[if_neg (by omega)];rfl
 by_cases hs:u<100
 ·refine⟨λb=>b=ac,⟨λ_=>⟨λ_=>rfl,λh=> ?_⟩,λh=> ?_⟩,λ_=>⟨⟨by omega,by omega⟩,λy hy=>hy⟩,λh=>by cases h⟩
  ·exact absurd h (by simp;omega)
  ·exact absurd h (by simp)
 refine⟨λb=>b=ab,⟨λ_=>⟨λh=> ?_,λ_=>rfl⟩,λ_=>rfl⟩,λh=>(by cases h),λ_=>⟨λh=> ?_,λ_=> ?_⟩⟩
 ·exact absurd h (by simp;omega)
 ·exact absurd h (by simp)
 have U:wr .u64 (u:Int)=u:=by rw[Yjf];omega
 rw[U];refine⟨⟨by omega,by omega⟩,Z4r λj _ I=> ?_⟩;rw[bt] at I;have R:=Lib.lt_pow_nDigits u;have J:=Z4o 15 u hu;rw[I] at R J;refine Yjg j u J R (by omega) ⟨λh=> ?_,λ_=> ?_⟩
 ·exact absurd h (by simp)
 ·rw[a0,Z4q u j I]
theorem Z4s(u:Nat) (I:u<10000000000000):PureC E 158 [.int ab .i64 (u:Int)] (.str ab (decN u)):=Zyq u (by omega)
end
section
open Go.RowKit
section
variable {Y:Thy} {E:Eng Y}
def celS(E:Eng Y) (th:Y.Th) (I:Option (List (Y.dom th)×Nat)) (c:Nat):SV Y:=
 match I with
 |some p=> .sl c 0 p.1.length (E.w th) au
 |none=> .val (.slice au 0 0)
def hpP(E:Eng Y) (th:Y.Th) (I:Option (List (Y.dom th)×Nat)):Hp Y:=λb=>
 match aK b 0 with
 |true=>ae (.raw [celS E th I 1] 0 au)
 |false=>(match aK b 1 with
  |true=>(match I with|some p=>ae (.rows th p.1 p.2)|none=>au)
  |false=>au)
def fzO{α:Type} (I:Option (α×Nat)):Nat:=match I with|some p=>p.2|none=>0
def mdO{α:Type} (I:Option (α×Nat)) (b c:Nat):List Nat:=match I with|some _=> [b,c]|none=> [b]
def prnR(E:Eng Y) (th:Y.Th) (J:Option (List (Y.dom th)×Nat)) (b c i:Nat) (I:List (Y.dom th)):Res Y:=
 ⟨.tup [],1,mdO J b c,λx=>match aK x b with|true=>ae (.raw [.sl i 0 I.length (E.w th) au] 0 au)|false=>at1 i (ae (.rows th I (fzO J))) x,au⟩
def PrnC(E:Eng Y) (f:Nat) (th:Y.Th) (args:List (SV Y)) (I:Option (List (Y.dom th)×Nat)) (J:List (Y.dom th)):Prop:=
 ∀(b c:Nat) (h:Hp Y) (i:Nat) (tg:Option Y.Th),h b=ae (.raw [celS E th I c] 0 tg)->(∀p,I=ae p->h c=ae (.rows th p.1 p.2)/\b≠c)->Va E f (.ptr b 0::args) h i (prnR E th I b c i J)
def prnK(E:Eng Y) (th:Y.Th) (I:Option (List (Y.dom th)×Nat)) (J:List (Y.dom th)) (r:Res Y):Prop:=
 match r.v,patch (hpP E th I) 2 r 0 with
 | .tup [],ae (.raw [.sl c 0 n w au] 0 _)=>
  (match Nat.ble 1 c&&aK w (E.w th),patch (hpP E th I) 2 r c with
  |true,ae (.rows U L R)=>Uw L λL=>L=J/\n=J.length/\R=fzO I
  |_,_=>False)
 |_,_=>False
theorem Ykn(th:Y.Th) (I:Option (List (Y.dom th)×Nat)):hpP E th I 0=ae (.raw [celS E th I 1] 0 au):=rfl
theorem Zag{th:Y.Th} {I:Option (List (Y.dom th)×Nat)} {x:Nat} {y:Blk Y} (h:hpP E th I x=ae y):(x=0/\y= .raw [celS E th I 1] 0 au)\/(x=1/\∃p,I=ae p/\y= .rows th p.1 p.2):=by
 match x,h with
 |0,h=>rw[Ykn] at h;cases h;exact .inl ⟨rfl,rfl⟩
 |1,h=>
  cases I with
  |none=>cases h
  |some p=>
   have h:ae (Blk.rows th p.1 p.2:Blk Y)=ae y:=h;cases h;exact .inr ⟨rfl,p,rfl,rfl⟩
 |x+2,h=>cases h
theorem Ycz(th:Y.Th) (R:Option (List (Y.dom th)×Nat)):DomLt (hpP E th R) 2:=λb I=>by
 obtain⟨y,J⟩:=aU.1 I;rcases Zag J with⟨rfl,_⟩|⟨rfl,_⟩<;>omega
def σP{α:Type} (I:Option α) (σ:Pl) (b c:Nat):Pl:=λx=>
 match aK x 0 with
 |true=>σ b
 |false=>(match aK x 1 with
  |true=>(match I with|some _=>σ c|none=>au)
  |false=>au)
theorem σP_cases{α:Type} {I:Option α} {σ:Pl} {b c x:Nat} {q:Nat×Nat} (h:σP I σ b c x=ae q):(x=0/\σ b=ae q)\/(x=1/\(∃p,I=ae p)/\σ c=ae q):=by
 match x,h with
 |0,h=>exact .inl ⟨rfl,h⟩
 |1,h=>
  cases I with
  |none=>cases h
  |some p=>exact .inr ⟨rfl,⟨p,rfl⟩,h⟩
 |x+2,h=>cases h
theorem mdO_mem{α:Type} {I:Option (α×Nat)} {b c x:Nat}:x∈mdO I b c↔x=b\/(x=c/\∃p,I=ae p):=by
 cases I with
 |none=>simp[mdO]
 |some p=>simp[mdO]
open Classical in
theorem Xv(hE:EngOk E) {call:Nat->List (SV Y)->Hp Y->Nat->(Res Y->Prop)->Prop} (d8:Wy E call) {f:Nat} {th:Y.Th} {args:List (SV Y)} {st:Option (List (Y.dom th)×Nat)} {l':List (Y.dom th)} (ha:nidL 0 args=ac)
 (hk:call f (.ptr 0 0::args) (hpP E th st) 2 (prnK E th st l')):PrnC E f th args st l':=by
 intro b c h i tg hb hc
 obtain⟨r,hr,hR,b4⟩:=d8 f _ _ _ _ (Ycz th st) hk
 have f7:∀x∈r.mods,x=0\/(x=1/\∃p,st=ae p):=by
  intro x U
  obtain⟨y,hy⟩:=aU.1 (hR x U)
  rcases Zag hy with⟨R,_⟩|⟨R,p,h2,_⟩
  ·exact .inl R
  ·exact .inr ⟨R,p,h2⟩
 unfold prnK at hr
 split at hr
 case h_2=>exact hr.elim
 rename_i c' n' w' f8 hv hp0
 split at hr
 case h_2=>exact hr.elim
 rename_i a0 L c8 b1 a8
 obtain⟨e,hr⟩:=Yx hr
 subst e
 obtain⟨rfl,rfl,rfl⟩:l'=L/\n'=l'.length/\c8=fzO st:=⟨hr.1.symm,hr.2⟩
 rw[aq,Nat.ble_eq] at b1
 obtain⟨b1,hw⟩:=b1
 have hw:=ax hw
 subst hw
 replace b4:Va E f (.ptr 0 0::args) (hpP E a0 st) 2 r:=b4.resolve_right (by rintro⟨p,J,_⟩;rw[hv] at J;cases J)
 intro B σ g W c7 hh f1 hI hB e0 hd
 obtain rfl:hh=h:=funext λb=>f1 b trivial
 obtain⟨rb,zb,a2,d7⟩:=hI.blk b _ hb
 have b7:hh b≠none:=by rw[hb];simp
 have F0:σP st σ b c 0=σ b:=rfl
 have F1:∀p,st=ae p->σP st σ b c 1=σ c:=by rintro p rfl;rfl
 have bc:∀p,st=ae p->b≠c:=λp J=>(hc p J).2
 have cn:∀p,st=ae p->hh c≠none:=λp J=>by rw[(hc p J).1];simp
 have c6:∀p q z z',st=ae p->σ b=ae (q,z)->σ c=ae (q,z')->False:=λp q z z' J R h2=>bc p J (hI.inj b c q z z' b7 (cn p J) R h2)
 have c9:Inv E B (σP st σ b c) (hpP E a0 st) g W:=by
  refine⟨hI.gc,hI.gm,λx y U=> ?_,λx x' r z z' R h2 h3 h4=> ?_,λx r' z' I=> ?_,λx y r' z' o v U I hv=> ?_,λx y r' z' U I=> ?_,hI.glob⟩
  ·rcases Zag U with⟨rfl,rfl⟩|⟨rfl,p,J,rfl⟩
   ·refine⟨rb,zb,a2,?_⟩
    obtain⟨arr,e,k1,k2,k3,k4,k5⟩:=d7
    refine⟨arr,e,k1,k2,k3,λj sv hj=> ?_,trivial⟩
    cases j with
    |succ j=>cases hj
    |zero=>
     have hj:ae (celS E a0 st 1)=ae sv:=hj
     cases hj
     obtain⟨v,m1,m2⟩:=k4 0 _ (show([celS E a0 st c]:List (SV Y))[0]? =ae _ from rfl)
     refine⟨v,m1,?_⟩
     cases st with
     |none=>exact Zw hE m2 (λb p hb=>by omega) (show nid 0 (celS E a0 au 1)=ac from rfl)
     |some p=>
      obtain⟨r1,z1,c1,rfl,k1,k2,k3,k4,k5⟩:=W2 (show Den E σ g (.sl c 0 p.1.length (E.w a0) au) v from m2)
      exact .sl (E:=E) (b:=1) k1 k2 k3 k4 k5
   ·obtain⟨r1,z1,k1,arr,e,k2,k3,k4,k5,k6⟩:=hI.blk c _ (hc p J).1
    refine⟨r1,z1,(F1 p J).trans k1,arr,e,k2,k3,k4,λj sv hj=> ?_,k6⟩
    obtain⟨v,m1,m2⟩:=k5 j sv hj
    have hn:nid 0 sv=true:=by
     obtain⟨q,p,x,rfl,J,hq,I⟩:=Yw hE a0 _ hj
     exact Zs (hE.encI _ _ _) I
    exact⟨v,m1,Zw hE m2 (λb p hb=>by omega) hn⟩
  ·rcases σP_cases h3 with⟨rfl,h3⟩|⟨rfl,⟨p,J⟩,h3⟩<;>rcases σP_cases h4 with⟨rfl,h4⟩|⟨rfl,⟨p',e9⟩,h4⟩
   ·rfl
   ·exact(c6 p' _ _ _ e9 h3 h4).elim
   ·exact(c6 p _ _ _ J h4 h3).elim
   ·rfl
  ·rcases σP_cases I with⟨rfl,I⟩|⟨rfl,_,I⟩
   ·exact hI.base b _ _ I
   ·exact hI.base c _ _ I
  ·rcases Zag U with⟨rfl,rfl⟩|⟨rfl,p,J,rfl⟩
   ·have h2:o<0:=hI.fz b _ _ _ o v hb I hv
    omega
   ·rw[F1 p J] at I
    exact hI.fz c _ _ _ o v (hc p J).1 I hv
  ·rcases Zag U with⟨rfl,rfl⟩|⟨rfl,p,J,rfl⟩
   ·exact hI.fm b _ _ _ hb I
   ·rw[F1 p J] at I
    exact hI.fm c _ _ _ (hc p J).1 I
 have d9:DenL E (σP st σ b c) g (.ptr 0 0::args) c7.toList:=by
  refine⟨by rw[<-hd.1];rfl,λj sv u R h2=> ?_⟩
  cases j with
  |zero=>
   simp at R;subst R
   have:=hd.2 0 _ u rfl h2
   cases this
   rename_i I
   exact .ptr (E:=E) (b:=0) I
  |succ j=>
   have R:args[j]? =ae sv:=by simpa using R
   exact Zw hE (hd.2 (j+1) sv u (by simpa using R) h2) (λb p hb=>by omega) (Zs ha R)
 refine(b4 B _ g W c7 _ (λ_ _=>rfl) c9 hB (λx R h2=>by match x,R with|x+2,_=>rfl) d9).mono ?_
 rintro en w' ⟨u,he,σ',g',hS,a3,c4⟩
 have b0:σ' 0=ae (rb,zb):=hS.sig 0 _ a2
 obtain⟨r1,z1,k1⟩:∃r1 z1,σ' c'=ae (r1,z1):=by
  obtain⟨r1,z1,m1,_⟩:=a3.blk c' _ a8
  exact⟨r1,z1,m1⟩
 have b8:c'≠0:=by omega
 have e6:patch (hpP E a0 st) 2 r 0≠none:=by rw[hp0];simp
 have e8:patch (hpP E a0 st) 2 r c'≠none:=by rw[a8];simp
 have b2:r1≠rb:=by
  rintro rfl
  exact b8 (a3.inj c' 0 _ _ _ e8 e6 k1 b0)
 have c2:W.heap.size<=r1\/∃z' p,st=ae p/\σ c=ae (r1,z'):=by
  cases b3:σP st σ b c c' with
  |some q=>
   have:=hS.sig c' _ b3
   rw[k1] at this;cases this
   rcases σP_cases b3 with⟨h0,_⟩|⟨_,⟨p,J⟩,h2⟩
   ·exact absurd h0 b8
   ·exact .inr ⟨z1,p,J,h2⟩
  |none=>
   rcases hS.blk c' r1 z1 b3 k1 with R|⟨b',R,z',h2⟩
   ·exact .inl R
   ·rcases σP_cases h2 with⟨rfl,h3⟩|⟨_,⟨p,J⟩,h3⟩
    ·rw[a2] at h3;cases h3;exact absurd rfl b2
    ·exact .inr ⟨z',p,J,h3⟩
 have c0:∀q,q<W.heap.size->q≠rb->(∀p z,st=ae p->σ c≠ae (q,z))->w'.heap[q]? =W.heap[q]? :=by
  intro q hq a9 e7
  refine hS.heap q hq λb' f5 z' f3=> ?_
  rcases σP_cases f3 with⟨rfl,h2⟩|⟨_,⟨p,J⟩,h2⟩
  ·rw[a2] at h2;cases h2;exact a9 rfl
  ·exact e7 p z' J h2
 have hi:σ i=none:=e0 i (aw _) (by show i<i+1;omega)
 have a5:b≠i:=by rintro rfl;rw[a2] at hi;cases hi
 have f6:∀p,st=ae p->c≠i:=by
  rintro p J rfl
  obtain⟨r2,z2,m1,_⟩:=hI.blk c _ (hc p J).1
  rw[hi] at m1;cases m1
 have f0:∀x,patch hh i (prnR E a0 st b c i l') x=if x=b then ae (.raw [.sl i 0 l'.length (E.w a0) au] 0 au) else if x=i then ae (.rows a0 l' (fzO st)) else if x=c/\(∃p,st=ae p) then au else hh x:=by
  intro x
  rw[Zp]
  by_cases e1:x=b
  ·subst e1
   rw[if_pos (.inl (mdO_mem.2 (.inl rfl))),if_pos rfl]
   show(match aK x x with|true=>_|false=>_)=_
   rw[fG]
  ·rw[if_neg e1]
   have d6:aK x b=false:=by
    cases e:aK x b with
    |true=>exact absurd (ax e) e1
    |false=>rfl
   have b9:(prnR E a0 st b c i l').h x=at1 i (ae (.rows a0 l' (fzO st))) x:=by
    show(match aK x b with|true=>_|false=>_)=_
    rw[d6]
   by_cases e2:x=i
   ·subst e2
    rw[if_pos (.inr ⟨aw _,(by show x<x+1;omega)⟩),if_pos rfl,b9]
    unfold at1
    rw[fG]
   ·rw[if_neg e2]
    have d5:at1 i (ae (.rows a0 l' (fzO st):Blk Y)) x=none:=by
     unfold at1
     cases e:aK x i with
     |true=>exact absurd (ax e) e2
     |false=>rfl
    by_cases e3:x=c/\∃p,st=ae p
    ·rw[if_pos e3,if_pos (.inl (mdO_mem.2 (.inr e3))),b9,d5]
    ·rw[if_neg e3,if_neg]
     rintro(k|k)
     ·rcases mdO_mem.1 k with k|k
      ·exact e1 k
      ·exact e3 k
     ·have k:i<=x/\x<i+1:=k
      omega
 have src:∀x y,patch hh i (prnR E a0 st b c i l') x=ae y->(x=b/\y= .raw [.sl i 0 l'.length (E.w a0) au] 0 au)\/(x=i/\y= .rows a0 l' (fzO st))\/(x≠i/\x≠b/\(∀p,st=ae p->x≠c)/\hh x=ae y):=by
  intro x y hy
  rw[f0] at hy
  split at hy
  ·rename_i e
   cases hy
   exact .inl ⟨e,rfl⟩
  ·rename_i e
   split at hy
   ·rename_i e2
    cases hy
    exact .inr (.inl ⟨e2,rfl⟩)
   ·rename_i e2
    split at hy
    ·cases hy
    ·rename_i e3
     exact .inr (.inr ⟨e2,e,λp J U=>e3 ⟨U,p,J⟩,hy⟩)
 have a4:(match aK i i with|true=>σ' c'|false=>σ i)=ae (r1,z1):=by rw[fG];exact k1
 have a1:∀x,x≠i->(match aK x i with|true=>σ' c'|false=>σ x)=σ x:=by
  intro x U
  cases e:aK x i with
  |true=>exact absurd (ax e) U
  |false=>rfl
 have a6:∀x y q z',x≠b->(∀p,st=ae p->x≠c)->hh x=ae y->σ x=ae (q,z')->q<W.heap.size/\q≠rb/\(∀p z,st=ae p->σ c≠ae (q,z)):=by
  intro x y q z' U b5 hy I
  have c5:hh x≠none:=by rw[hy];simp
  refine⟨(hI.base x q z' I).2,?_,λp z J hq=>b5 p J (hI.inj x c _ _ _ c5 (cn p J) I hq)⟩
  rintro rfl
  exact U (hI.inj x b _ _ _ c5 b7 I a2)
 have b6:∀x y q z',x≠b->(∀p,st=ae p->x≠c)->hh x=ae y->σ x=ae (q,z')->q≠r1:=by
  rintro x y q z' U b5 hy I rfl
  obtain⟨m1,m2,m3⟩:=a6 x y q z' U b5 hy I
  rcases c2 with R|⟨z2,p,J,R⟩
  ·omega
  ·exact m3 p z2 J R
 have f4:rb<W.heap.size:=(hI.base b _ _ a2).2
 refine⟨_,he,λx=>match aK x i with|true=>σ' c'|false=>σ x,g',⟨λx p U=> ?_,λx p U=> ?_,hS.gle,λq o v hv=> ?_,hS.gmnew,λq hq a9=> ?_,hS.size,hS.os,hS.tape,hS.output,λx q z' U a7=> ?_⟩,?_,?_⟩
 ·exact(a1 x (λe=>by rw[e,hi] at U;cases U)).trans U
 ·by_cases e:x=i
  ·exact .inr (by show i<=x/\x<i+1;omega)
  ·have U:(match aK x i with|true=>σ' c'|false=>σ x)=ae p:=U
   rw[a1 x e] at U
   exact .inl U
 ·rcases hS.gcnew q o v hv with R|R|⟨b',R,z',h2⟩
  ·exact .inl R
  ·exact .inr (.inl R)
  ·rcases σP_cases h2 with⟨rfl,h2⟩|⟨_,J,h2⟩
   ·exact .inr (.inr ⟨b,mdO_mem.2 (.inl rfl),_,h2⟩)
   ·exact .inr (.inr ⟨c,mdO_mem.2 (.inr ⟨rfl,J⟩),_,h2⟩)
 ·exact c0 q hq (λe=>a9 b (mdO_mem.2 (.inl rfl)) zb (by rw[a2,e])) λp z J=>a9 c (mdO_mem.2 (.inr ⟨rfl,p,J⟩)) z
 ·have a7:(match aK x i with|true=>σ' c'|false=>σ x)=ae (q,z'):=a7
  by_cases e:x=i
  ·subst e
   rw[a4] at a7;cases a7
   rcases c2 with R|⟨z2,p,J,R⟩
   ·exact .inl R
   ·exact .inr ⟨c,mdO_mem.2 (.inr ⟨rfl,p,J⟩),z2,R⟩
  ·rw[a1 x e,U] at a7;cases a7
 ·refine⟨a3.gc,a3.gm,λx y U=> ?_,λx x' q f9 g0 R h2 h3 h4=> ?_,λx q z' I=> ?_,λx y q z' o v U I hv=> ?_,λx y q z' U I=> ?_,a3.glob⟩
  ·rcases src x y U with⟨rfl,rfl⟩|⟨rfl,rfl⟩|⟨e1,e2,e3,e4⟩
   ·refine⟨rb,zb,(a1 x a5).trans a2,?_⟩
    obtain⟨r2,z2,m1,arr,e,n1,n2,n3,n4,n5⟩:=a3.blk 0 _ hp0
    rw[b0] at m1;cases m1
    refine⟨arr,e,n1,n2,n3,λj sv hj=> ?_,trivial⟩
    cases j with
    |succ j=>cases hj
    |zero=>
     have hj:ae (SV.sl i 0 l'.length (E.w a0) au:SV Y)=ae sv:=hj
     cases hj
     obtain⟨v,q1,q2⟩:=n4 0 _ (show([.sl c' 0 l'.length (E.w a0) au]:List (SV Y))[0]? =ae _ from rfl)
     refine⟨v,q1,?_⟩
     obtain⟨r3,z3,c3,rfl,u1,u2,u3,u4,u5⟩:=W2 (show Den E σ' g' (.sl c' 0 l'.length (E.w a0) au) v from q2)
     refine .sl (E:=E) (b:=i) (z:=z3) ?_ u2 u3 u4 u5
     show(match aK i i with|true=>σ' c'|false=>σ i)=_
     rw[fG]
     exact u1
   ·refine⟨r1,z1,a4,?_⟩
    obtain⟨r2,z2,m1,m2⟩:=a3.blk c' _ a8
    rw[k1] at m1;cases m1
    obtain⟨arr,e,m1,m3,m4,m5,m6⟩:=m2
    refine⟨arr,e,m1,m3,m4,λj sv hj=> ?_,m6⟩
    obtain⟨v,n1,n2⟩:=m5 j sv hj
    have hn:nid 0 sv=true:=by
     obtain⟨q,p,x,rfl,J,hq,I⟩:=Yw hE a0 _ hj
     exact Zs (hE.encI _ _ _) I
    exact⟨v,n1,Zw hE n2 (λb p hb=>by omega) hn⟩
   ·obtain⟨q,z',m1,m2⟩:=hI.blk x y e4
    obtain⟨m3,m4,m5⟩:=a6 x y q z' e2 e3 e4 m1
    refine⟨q,z',(a1 x e1).trans m1,?_⟩
    refine m2.mono (λx p U=> ?_) hS.gle (c0 q m3 m4 m5)
    show(match aK x i with|true=>σ' c'|false=>σ x)=ae p
    rw[a1 x (λe=>by rw[e,hi] at U;cases U)]
    exact U
  ·obtain⟨y,hy⟩:=aU.1 R
   obtain⟨y',f2⟩:=aU.1 h2
   rcases src x y hy with⟨rfl,rfl⟩|⟨rfl,rfl⟩|⟨e1,e2,e3,e4⟩<;>rcases src x' y' f2 with⟨rfl,rfl⟩|⟨rfl,rfl⟩|⟨d1,d2,d3,d4⟩
   ·rfl
   ·rw[a1 x a5,a2] at h3;cases h3
    rw[a4] at h4;cases h4
    exact absurd rfl b2
   ·rw[a1 x a5,a2] at h3;cases h3
    rw[a1 x' d1] at h4
    exact absurd rfl (a6 x' y' _ _ d2 d3 d4 h4).2.1
   ·rw[a4] at h3;cases h3
    rw[a1 x' a5,a2] at h4;cases h4
    exact absurd rfl b2
   ·rfl
   ·rw[a4] at h3;cases h3
    rw[a1 x' d1] at h4
    exact absurd rfl (b6 x' y' _ _ d2 d3 d4 h4)
   ·rw[a1 x' a5,a2] at h4;cases h4
    rw[a1 x e1] at h3
    exact absurd rfl (a6 x y _ _ e2 e3 e4 h3).2.1
   ·rw[a4] at h4;cases h4
    rw[a1 x e1] at h3
    exact absurd rfl (b6 x y _ _ e2 e3 e4 h3)
   ·rw[a1 x e1] at h3
    rw[a1 x' d1] at h4
    exact hI.inj x x' q _ _ (by rw[e4];simp) (by rw[d4];simp) h3 h4
  ·by_cases e:x=i
   ·subst e
    rw[a4] at I;cases I
    exact a3.base c' _ _ k1
   ·rw[a1 x e] at I
    exact⟨(hI.base x q z' I).1,bY (hI.base x q z' I).2 hS.size⟩
  ·rcases src x y U with⟨rfl,rfl⟩|⟨rfl,rfl⟩|⟨e1,e2,e3,e4⟩
   ·rw[a1 x a5,a2] at I;cases I
    have h2:o<0:=a3.fz 0 _ _ _ o v hp0 b0 hv
    omega
   ·rw[a4] at I;cases I
    exact a3.fz c' _ _ _ o v a8 k1 hv
   ·rw[a1 x e1] at I
    obtain⟨m3,m4,m5⟩:=a6 x y q z' e2 e3 e4 I
    rcases hS.gcnew q o v hv with R|R|⟨b',R,z2,h2⟩
    ·exact hI.fz x y q z' o v e4 I R
    ·omega
    ·rcases σP_cases h2 with⟨rfl,h3⟩|⟨_,⟨p,J⟩,h3⟩
     ·rw[a2] at h3;cases h3;exact absurd rfl m4
     ·exact absurd h3 (m5 p z2 J)
  ·rcases src x y U with⟨rfl,rfl⟩|⟨rfl,rfl⟩|⟨e1,e2,e3,e4⟩
   ·rw[a1 x a5,a2] at I;cases I
    exact a3.fm 0 _ _ _ hp0 b0
   ·rw[a4] at I;cases I
    exact a3.fm c' _ _ _ a8 k1
   ·rw[a1 x e1] at I
    obtain⟨m3,m4,m5⟩:=a6 x y q z' e2 e3 e4 I
    cases e5:g'.obj q with
    |none=>rfl
    |some es=>
     rcases hS.gmnew q es e5 with k|k
     ·rw[hI.fm x y q z' e4 I] at k;cases k
     ·omega
 ·rw[hv] at c4
  exact Zw hE c4 (λb p hb=>by omega) (show nid 0 (SV.tup ([]:List (SV Y)))=ac from rfl)
def sumB(E:Eng Y) (th:Y.Th) {α:Type} (d:DcL E α) (pre:List (Y.dom th)->α->Prop) (f:List (Y.dom th)->α->List (Y.dom th)):Sum Y:=λargs h i k=>
 match args with
 | .ptr b 0::rest=>
  (match h b,d.dec rest with
  |some (.raw [.sl c 0 len w au] 0 _),ae x=>
   (match h c,aK w (E.w th)&& !(aK b c) with
   |some (.rows J l fz),ac=>Uw l λl=>(len=l.length/\fz<=l.length/\pre l x)/\∀I,I=f l x->k (prnR E th (ae (l,fz)) b c i I)
   |_,_=>False)
  |some (.raw [.val (.slice au 0 0)] 0 _),ae x=>pre [] x/\∀I,I=f [] x->k (prnR E th au b 0 i I)
  |_,_=>False)
 |_=>False
def Yc0(E:Eng Y) (f:Nat) (th:Y.Th) (args:List (SV Y)) (F:List (Y.dom th)->List (Y.dom th)) (P:List (Y.dom th)->Prop):Prop:=
 (∀l fz,fz<=l.length->P l->PrnC E f th args (ae (l,fz)) (F l))/\(P []->PrnC E f th args au (F []))
theorem PrnC.of_dec{α:Type} {d:DcL E α} {f:Nat} {th:Y.Th} {args:List (SV Y)} {x:α} {U:Option (List (Y.dom th)×Nat)} {l':List (Y.dom th)} (hd:d.dec args=ae x) (h:PrnC E f th (d.enc x) U l'):PrnC E f th args U l':=by
 obtain⟨k1,k2,k3⟩:=d.ok _ _ hd;intro b c hp i tg h1 h2 B σ g w a3 hh a2 hI hB a1 I;refine h b c hp i tg h1 h2 B σ g w a3 hh a2 hI hB a1 ⟨?_,λj a0 u J R=> ?_⟩
 ·rw[<-I.1,aD,aD,k2]
 ·cases j with
  |zero=>exact I.2 0 a0 u J R
  |succ j=>
   obtain⟨sv,h7,h8⟩:=k3 σ g j a0 (by simpa using J);exact h8 u (I.2 (j+1) sv u (by simpa using h7) R)
theorem Zez(hE:EngOk E) {th:Y.Th} {α:Type} {f:Nat} (hg:FnGood E.P f) {d:DcL E α} {pre:List (Y.dom th)->α->Prop} {F:List (Y.dom th)->α->List (Y.dom th)} (J:∀x,Yc0 E f th (d.enc x) (λl=>F l x) (λl=>pre l x)):SumOk E f (sumB E th d pre F):=by
 refine⟨hg,λargs h i k hD I=> ?_⟩;unfold sumB at I;split at I
 case h_2=>exact I.elim
 rename_i b rest;split at I
 case h_3=>exact I.elim
 ·rename_i c len w tg x U hx
  split at I
  case h_2=>exact I.elim
  rename_i a6 l fz hc R;rw[aq,bi] at R;obtain⟨R,a1⟩:=R;have R:=ax R;have a1:=nb a1;obtain⟨e,a5⟩:=Yx I;clear I;subst e;subst R;obtain⟨⟨rfl,a4,a3⟩,a2⟩:=a5;refine⟨_,a2 _ rfl,λb' a0=> ?_,.inl (PrnC.of_dec hx ((J x).1 l fz a4 a3) b c h i tg U λp J=> ?_)⟩
  ·rcases mdO_mem.1 (show b'∈mdO (ae (l,fz)) b c from a0) with rfl|⟨rfl,_⟩
   ·rw[U];simp
   ·rw[hc];simp
  ·cases J
   exact⟨hc,a1⟩
 ·rename_i tg x U hx
  obtain⟨a3,a2⟩:=I;refine⟨_,a2 _ rfl,λb' a0=> ?_,.inl (PrnC.of_dec hx ((J x).2 a3) b 0 h i tg U λp J=>by cases J)⟩;rcases mdO_mem.1 (show b'∈mdO (au:Option (List (Y.dom th)×Nat)) b 0 from a0) with rfl|⟨_,_,h2⟩
  ·rw[U];simp
  ·cases h2
end
end
section
open Go
theorem Z3q{F:Fns thy} (J:FnsOk E F) {n:Nat} {f:Nat} {th:Th} {args:List (SV thy)} {I:Option (List (thy.dom th)×Nat)} {l':List (thy.dom th)} (R:nidL 0 args=ac) (U:Zk E F (vc E F n) f (.ptr 0 0::args) (hpP E th I) 2 (prnK E th I l')):PrnC E f th args I l':=
 Xv E_ok (Zd E_ok J n) R U
def Aixi:Fr thy->Hp thy->Nat->Ann thy:=λT h i=>{X:=LX,fr:=λx=> [(0,T 0),(1,T 1),(7,T 7),(8,.int ab .i64 x.k)],bl:=λx=> [],src:=λ_=> [],md:= [],ih:=i,M:=i+30,meas:=λx=>x.r}
noncomputable def Fixi:Fns thy:=addL F0 207 2 Aixi E
theorem Z9k(l:List Int) (s:Int) (v:Int):Zk E Fixi (vc E Fixi 400) 207 [.psl kc l ab,.int ab .i64 s] hp0 0 (λr=>ret E (patch hp0 0 r) r.v (.int ab .i64 v))=(
∃(R:LX->Prop),(∃(x:LX),R x/\ac=ac/\((l=l/\(ab=ac->ab=ac))/\s=s/\(↑(aa l):Int)=(↑(aa l):Int)/\(0:Int)=(↑(LX.k x):Int)/\True)/\True)/\∀(x:LX),R x->(decide ((↑(LX.k x):Int)<(↑(aa l):Int))=ac->(0:Int)<=(↑(LX.k x):Int)/\(↑(LX.k x):Int)+(1:Int)<=(↑(aa l):Int)/\∀(I:Int),l[ag (↑(LX.k x):Int)]? =ae I->((s==I)=ac->(↑(LX.k x):Int)=v)/\((s==I)=ab->∃(J:LX),R J/\J.2+(1:Nat)<=x.2/\ac=ac/\((l=l/\(ab=ac->ab=ac))/\s=s/\(↑(aa l):Int)=(↑(aa l):Int)/\wr af ((↑(LX.k x):Int)+(1:Int))=(↑(LX.k J):Int)/\True)/\True))/\(decide ((↑(LX.k x):Int)<(↑(aa l):Int))=ab->(-1:Int)=v)):=by kernel_rfl
noncomputable def dIs:Dc E (List Int):=(Ze4 (E:=E) kc:Dc E (List (thy.dom kc)))
noncomputable def Sixi:Sum thy:=Zql E (λ_=>au) 2 (Wf (dA2 dIs dN) (λx=>x.1.length<=1000000000) (λx=>idxI x.2.1 0 x.1) λy=> .int ab .i64 y)
noncomputable def Yi2:Sum thy:=Wf (dA1 dN) (λx=>0<=x.1/\x.1<10000000000000) (λx=>decN x.1) λy=> .str ab y
noncomputable def Fpu:Fns thy:=addS (addS (addS F0 55 Zm2) 207 Sixi) 158 Yi2
abbrev qCD6:=(↑(4:Nat):Int)
abbrev qCD4:=(0:Int)
abbrev qCD3:=(ag qCD6-ag qCD4)
abbrev qCD1(I:Int) (J:Int) (R:Int) (d0:Int):=(av qCD3 (cj (ag qCD4) [I,J,R,d0]))
abbrev qCD2:=((4:Nat)=(4:Nat)/\qCD4<=qCD4/\qCD4<=qCD6/\qCD6<=qCD6/\(qCD4+(1:Int)<=qCD6\/qCD4=qCD4))
abbrev qCD5:=(↑(aa (WK.words WK.un)):Int)
theorem Zyg(l:List (List Nat)) (fz:Nat) (a b c d:Int) (I:List (List Nat)):Zk E Fpu (vc E Fpu 400) 160 [.ptr 0 0,dimA a b c d] (hpP E dk (ae (l,fz))) 2 (prnK E dk (ae (l,fz)) I)=(
 qCD2/\ag qCD4+qCD3<=(4:Nat)/\aa (qCD1 a b c d)<=(1000000000:Nat)/\∀(y:Int),y=idxI (1:Int) (0:Nat) (qCD1 a b c d)->(decide (y>=qCD4)=ac->qCD4<=y/\y+(1:Int)<=qCD5/\∀(x:List Nat),(WK.words WK.un)[ag y]? =ae x->(aa l<=aa l/\fz<=aa l/\(aa l+(1:Nat))*(16:Nat)<=(140737488355328:Nat))/\qCD2/\ag qCD4+qCD3<=(4:Nat)/\aa (qCD1 a b c d)<=(1000000000:Nat)/\∀(y:Int),y=idxI (-1:Int) (0:Nat) (qCD1 a b c d)->(decide (y>=qCD4)=ac->qCD4<=y/\y+(1:Int)<=qCD5/\∀(J:List Nat),(WK.words WK.un)[ag y]? =ae J->(aa l+(1:Nat)<=aa (av (aa l) l++ [x])/\fz<=aa l+(1:Nat)/\(aa l+(1:Nat)+(2:Nat))*(16:Nat)<=(140737488355328:Nat))/\av (aa l+(1:Nat)) (av (aa l) l++ [x])++ [[(112:Nat),(101:Nat),(114:Nat)],J]=I/\aa l+(1:Nat)+(2:Nat)=aa I/\fz=fzO (ae (l,fz)))/\(decide (y>=qCD4)=ab->av (aa l) l++ [x]=I/\aa l+(1:Nat)=aa I/\fz=fzO (ae (l,fz))))/\(decide (y>=qCD4)=ab->qCD2/\ag qCD4+qCD3<=(4:Nat)/\aa (qCD1 a b c d)<=(1000000000:Nat)/\∀(y:Int),y=idxI (-1:Int) (0:Nat) (qCD1 a b c d)->(decide (y>=qCD4)=ac->qCD4<=y/\y+(1:Int)<=qCD5/\∀(x:List Nat),(WK.words WK.un)[ag y]? =ae x->(aa l<=aa l/\fz<=aa l/\(aa l+(2:Nat))*(16:Nat)<=(140737488355328:Nat))/\av (aa l) l++ [[(112:Nat),(101:Nat),(114:Nat)],x]=I/\aa l+(2:Nat)=aa I/\fz=fzO (ae (l,fz)))/\(decide (y>=qCD4)=ab->l=I/\aa l=aa I/\fz=fzO (ae (l,fz))))):=by kernel_rfl
theorem Z3r{v:Int} {l:List Int}:∀{k:Nat} {x:Int},l[k]? =ae x->idxI v k (l.drop k)=if v=x then(k:Int) else idxI v (k+1) (l.drop (k+1)):=by
 intro k x h;rw[Z0 h];rfl
theorem Z9l(l:List Int) (s:Int) (hl:l.length<=1000000000):PureC E 207 [.psl kc l ab,.int ab .i64 s] (.int ab .i64 (idxI s 0 l)):=by
 have R:FnsOk E Fixi:=Zm E_ok F0_ok _ _ _;refine Za E_ok (Zd E_ok R 400) ?_;rw[Z9k];simp only[and_true,true_and,decide_eq_true_eq,decide_eq_false_iff_not,beq_iff_eq,beq_eq_false_iff_ne,imp_self];refine⟨λx=>x.k<=l.length/\idxI s x.k (l.drop x.k)=idxI s 0 l/\x.r=l.length-x.k,⟨⟨0,l.length,[],0⟩,⟨(by dsimp only;omega),rfl,rfl⟩,rfl⟩,?_⟩;rintro x ⟨hk,I,hr⟩;refine aB (λU=>⟨by omega,by omega,λy J=> ?_⟩) (λU=> ?_)
 ·have J:l[x.k]? =ae y:=J
  rw[Z3r J] at I;refine⟨λe=> ?_,λe=> ?_⟩
  ·rw[if_pos e] at I;exact I
  ·rw[if_neg e] at I
   exact⟨⟨x.k+1,l.length-(x.k+1),[],0⟩,⟨(by dsimp only;omega),I,rfl⟩,by show l.length-(x.k+1)+1<=x.r;omega,wr64 (by omega) (by omega)⟩
 ·rw[bF (by omega)] at I
  exact I
theorem Ye0:SumOk E 207 Sixi:=Zje E_ok (Zy E_ok (Zc rfl) λx h=>Z9l x.1 x.2.1 h)
theorem Z9m:SumOk E 158 Yi2:=Zy E_ok (Zc rfl) λx h=>by
 have:=Z4s x.1.toNat (by omega);rw[show((x.1.toNat:Nat):Int)=x.1 by omega] at this;exact this
theorem Zvk:FnsOk E Fpu:=Zb (Zb (Zb F0_ok Zfg) Ye0) Z9m
theorem Zsx:∀{v:Int} {l:List Int} {k:Nat},idxI v k l<k+l.length
 |v,[],k=>by unfold idxI;simp;omega
 |v,x::l,k=>by
  unfold idxI
  split
  ·simp;omega
  ·have:=Zsx (v:=v) (l:=l) (k:=k+1)
   simp at this⊢;omega
theorem Zvl{y:Int} (J:0<=y) {x:List Nat} (I:(WK.words WK.un)[ag y]? =ae x):WK.un.words.getD y.toNat []=x:=by
 simp[ah,I]
theorem Z9n(l:List (List Nat)) (fz:Nat) (a b c d:Int) (hf:fz<=l.length) (hl:l.length+8<=1000000000):PrnC E 160 dk [dimA a b c d] (ae (l,fz)) (l++txU [a,b,c,d]):=by
 refine Z3q Zvk (n:=400) rfl ?_;rw[Zyg];delta qCD6 qCD4 qCD3 qCD1 qCD2 qCD5;have i1:=Zsx (v:=1) (l:= [a,b,c,d]) (k:=0);have i2:=Zsx (v:= -1) (l:= [a,b,c,d]) (k:=0);have U:(WK.words WK.un).length=4:=rfl;have l4:(aa [a,b,c,d]:Int)=4:=rfl;have e:av (ag (↑(4:Nat):Int)-ag (0:Int)) (cj (ag (0:Int)) [a,b,c,d])= [a,b,c,d]:=rfl;rw[e];clear e;refine⟨by decide,by decide,by show 4<=1000000000;decide,λy R=>⟨λh=> ?_,λh=> ?_⟩⟩
 ·have h:0<=y:=by simpa using h
  rw[<-R] at i1;refine⟨h,by rw[U];omega,λx hx=>⟨⟨aw _,hf,by omega⟩,by decide,by decide,by show 4<=1000000000;decide,λz J=>⟨λI=> ?_,λI=> ?_⟩⟩⟩
  ·have I:0<=z:=by simpa using I
   rw[<-J] at i2;refine⟨I,by rw[U];omega,λx2 a0=>⟨⟨by simp,by omega,by omega⟩,?_⟩⟩;have:txU [a,b,c,d]= [x,sPer,x2]:=by
    unfold txU;rw[<-R,<-J,if_pos h,if_pos I,Zvl h hx,Zvl I a0];rfl
   rw[this,aW];have e2:av (l.length+1) (l++ [x])=l++ [x]:=bg (by simp);rw[e2];simp[sPer,fzO]
  ·have I:¬0<=z:=by simpa using I
   have:txU [a,b,c,d]= [x]:=by
    unfold txU;rw[<-R,<-J,if_pos h,if_neg I,Zvl h hx];rfl
   rw[this];simp[fzO]
 ·have h:¬0<=y:=by simpa using h
  refine⟨by decide,by decide,by show 4<=1000000000;decide,λz J=>⟨λI=> ?_,λI=> ?_⟩⟩
  ·have I:0<=z:=by simpa using I
   rw[<-J] at i2;refine⟨I,by rw[U];omega,λx2 a0=>⟨⟨aw _,hf,by omega⟩,?_⟩⟩;have:txU [a,b,c,d]= [sPer,x2]:=by
    unfold txU;rw[<-R,<-J,if_neg h,if_pos I,Zvl I a0];rfl
   rw[this];simp[sPer,fzO]
  ·have I:¬0<=z:=by simpa using I
   have:txU [a,b,c,d]= []:=by
    unfold txU;rw[<-R,<-J,if_neg h,if_neg I];rfl
   rw[this];simp[fzO]
noncomputable def Sunp:Sum thy:=sumB E dk dDim (λl x=>1<=l.length/\l.length+8<=1000000000) λ(l:List (List Nat)) x=>l++txU [x.1.getD 0 0,x.1.getD 1 0,x.1.getD 2 0,x.1.getD 3 0]
theorem Ye1:SumOk E 160 Sunp:=Zez E_ok (Zc rfl) λx=>⟨λl fz I h=>Z9n l fz _ _ _ _ I h.2,λh=>absurd h.1 (by decide)⟩
noncomputable def Sxp(m:Nat):Sum thy:=sumB E dk dExp (λl x=>x.1.sz<m/\Zn x.1=ac/\1<=l.length/\l.length+8*x.1.sz+8<=1000000000) λ(l:List (List Nat)) x=>l++txX x.1
theorem Zsy(n:Int) (v:Int):Zk E F0 (vc E F0 400) 162 [.int ab .i64 n] hp0 0 (λr=>ret E (patch hp0 0 r) r.v (.int ab .i64 v))=(
((n==(3:Int))=ac->(1:Int)=v)/\((n==(3:Int))=ab->((n==(4:Int))=ac->(1:Int)=v)/\((n==(4:Int))=ab->((n==(5:Int))=ac->(2:Int)=v)/\((n==(5:Int))=ab->(3:Int)=v)))):=by kernel_rfl
noncomputable def Z3s:Sum thy:=Wf (dA1 dN) (λ_=>True) (λx=>Wk x.1) λy=> .int ab .i64 y
noncomputable def Fop'(m:Nat):Fns thy:=addS (addS F0 162 Z3s) 101 (Sxp m)
abbrev qCD7(I:Ex):=(bU (aJ I) (bW I) (bx I) (bA I) (bB I) (bC I) (bw I))
abbrev qCD8(I:List (List Nat)):=(av (aa I) I++ [[(40:Nat)]])
theorem Zyh(m:Nat) (l:List (List Nat)) (fz:Nat) (x:Ex) (n:Int) (J:List (List Nat)):Zk E (Fop' m) (vc E (Fop' m) 400) 161 [.ptr 0 0,exA x,.int ab .i64 n] (hpP E dk (ae (l,fz))) 2 (prnK E dk (ae (l,fz)) J)=(
 True/\∀(y:Int),y=Wk (aJ x)->(decide (y>=n)=ac->(aa l=aa l/\fz<=aa l/\Ex.sz (qCD7 x)+(1:Nat)<=m/\Zn (qCD7 x)=ac/\(1:Nat)<=aa l/\aa l+(8:Nat)*Ex.sz (qCD7 x)+(8:Nat)<=(1000000000:Nat))/\∀(I:List (List Nat)),I=l++txX (qCD7 x)->I=J/\aa I=aa J/\fzO (ae (l,fz))=fzO (ae (l,fz)))/\(decide (y>=n)=ab->(aa l<=aa l/\fz<=aa l/\(aa l+(1:Nat))*(16:Nat)<=(140737488355328:Nat))/\(aa l+(1:Nat)=aa (qCD8 l)/\fz<=aa (qCD8 l)/\Ex.sz (qCD7 x)+(1:Nat)<=m/\Zn (qCD7 x)=ac/\(1:Nat)<=aa (qCD8 l)/\aa (qCD8 l)+(8:Nat)*Ex.sz (qCD7 x)+(8:Nat)<=(1000000000:Nat))/\∀(I:List (List Nat)),I=av (aa l) l++ [[(40:Nat)]]++txX (qCD7 x)->(aa I<=aa I/\fzO (ae (av (aa l) l++ [[(40:Nat)]],fz))<=aa I/\(aa I+(1:Nat))*(16:Nat)<=(140737488355328:Nat))/\av (aa I) I++ [[(41:Nat)]]=J/\aa I+(1:Nat)=aa J/\fzO (ae (av (aa l) l++ [[(40:Nat)]],fz))=fzO (ae (l,fz)))):=by kernel_rfl
noncomputable def Yi3(m:Nat):Sum thy:=sumB E dk Ykf (λl x=>x.1.sz<m/\Zn x.1=ac/\1<=l.length/\l.length+8*x.1.sz+10<=1000000000) λ(l:List (List Nat)) x=>l++par x.1.op x.2.1 (txX x.1)
noncomputable def Fxp'(m:Nat):Fns thy:=addS (addS (addS (addS Fpu 160 Sunp) 162 Z3s) 101 (Sxp m)) 161 (Yi3 m)
theorem Zyi(n:Int):PureC E 162 [.int ab .i64 n] (.int ab .i64 (Wk n)):=by
 refine Za E_ok (Zd E_ok F0_ok 400) ?_;rw[Zsy];unfold Wk;refine⟨λh=> ?_,λh=>⟨λI=> ?_,λI=>⟨λJ=> ?_,λJ=> ?_⟩⟩⟩
 all_goals simp at*
 all_goals simp[*]
theorem Zpu:SumOk E 162 Z3s:=Zy E_ok (Zc rfl) λx _=>Zyi x.1
def PxOk(m:Nat):Prop:=∀x:Ex,x.sz<m->Zn x=ac->∀(l:List (List Nat)) (fz:Nat),fz<=l.length->1<=l.length->l.length+8*x.sz+8<=1000000000->PrnC E 101 dk [exA x] (ae (l,fz)) (l++txX x)
theorem Z3t{m:Nat} (h:PxOk m):SumOk E 101 (Sxp m):=Zez E_ok (Zc rfl) λx=>⟨λl fz J I=>h x.1 I.1 I.2.1 l fz J I.2.2.1 I.2.2.2,λI=>absurd I.2.2.1 (by decide)⟩
theorem Ye2{m:Nat} (h:PxOk m):FnsOk E (Fop' m):=Zb (Zb F0_ok Zpu) (Z3t h)
mutual
theorem Xm:∀(x:Ex),(txX x).length+2<=8*x.sz
 | .mk op n a b c d l=>by
  have h:=Z3u l
  have R:∀I:List (List Nat),(txS (txL l) I).length+0<=8*Ex.szL l:=λI=>Z3v (txL l) I (8*Ex.szL l) h
  have hU:(txU [a,b,c,d]).length<=3:=by
   unfold txU
   rw[aC]
   split<;>split<;>simp
  have J:∀op least t,(par op least t).length<=t.length+2:=by
   intro op least t
   unfold par
   split
   ·omega
   ·simp
  have h2:=Z9o (txL l) _ h
  rw[txX,Ex.sz]
  unfold txN
  split
  ·rw[aD];omega
  ·split
   ·simp;omega
   ·split
    ·have:=R [Zrg,V3,V3,Vs]
     rw[aD,aD]
     omega
    ·split
     ·rw[aC,aD]
      have U:=J ((l.map aJ).getD 0 0) (Wk op) ((txL l).getD 0 [])
      have a2:=J ((l.map aJ).getD 1 0) (Wk op+1) ((txL l).getD 1 [])
      omega
     ·have:=R [V3,Vs]
      rw[aD,aD]
      omega
theorem Z3u:∀(l:List Ex),((txL l).map λt=>t.length+2).sum<=8*Ex.szL l
 | []=>by simp[txL]
 |x::r=>by
  have I:=Xm x
  have J:=Z3u r
  rw[txL,Ex.szL,cg,ku]
  omega
theorem Z3v:∀(ts:List (List (List Nat))) (I:List (List Nat)) (b:Nat),(ts.map λt=>t.length+2).sum<=b->(txS ts I).length+0<=b
 | [],_,_,h=>by simp[txS]
 |t::r,[],_,h=>by simp[txS]
 |t::r,s::I,b,h=>by
  rw[cg,ku] at h
  have:=Z3v r I (b-(t.length+2)) (by omega)
  rw[txS,aC,aD]
  omega
theorem Z9o:∀(ts:List (List (List Nat))) (b:Nat),(ts.map λt=>t.length+2).sum<=b->(ts.getD 0 []).length+(ts.getD 1 []).length<=b
 | [],_,_=>by simp
 | [t],_,h=>by simp at h⊢;omega
 |t::u::r,_,h=>by simp at h⊢;omega
end
theorem Z9p{m:Nat} (hm:PxOk m) (l:List (List Nat)) (fz:Nat) (x:Ex) (n:Int) (J:x.sz<m) (R:Zn x=ac) (I:fz<=l.length) (U:1<=l.length) (hl:l.length+8*x.sz+10<=1000000000):PrnC E 161 dk [exA x,.int ab .i64 n] (ae (l,fz)) (l++par x.op n (txX x)):=by
 refine Z3q (Ye2 hm) (n:=400) rfl ?_;rw[Zyh];delta qCD7 qCD8;have ht:=Xm x;simp only[fzO,aW,Ex.eta,forall_eq,decide_eq_true_eq,decide_eq_false_iff_not,true_and,and_true];refine⟨λh=>⟨⟨I,J,R,U,by omega⟩,?_⟩,λh=>⟨⟨aw _,I,by omega⟩,⟨by simp,by simp;omega,J,R,by simp,by simp;omega⟩,⟨aw _,by simp;omega,by simp;omega⟩,?_⟩⟩
 ·have:par x.op n (txX x)=txX x:=by unfold par;rw[if_pos h]
  rw[this];exact⟨rfl,rfl⟩
 ·have:par x.op n (txX x)=Zf0::(txX x++ [Vs]):=by unfold par;rw[if_neg h]
  rw[this];simp[Zf0,Vs];omega
theorem Z9q{m:Nat} (h:PxOk m):SumOk E 161 (Yi3 m):=Zez E_ok (Zc rfl) λx=>⟨λl fz J I=>Z9p h l fz x.1 x.2.1 I.1 I.2.1 J I.2.2.1 I.2.2.2,λI=>absurd I.2.2.1 (by decide)⟩
theorem Ye3{m:Nat} (h:PxOk m):FnsOk E (Fxp' m):=Zb (Zb (Zb (Zb Zvk Ye1) Zpu) (Z3t h)) (Z9q h)
end
section
open Go
def dD(u:Nat):List Nat:=(Lib.decDigits u).map cQ
theorem Zem{u:Nat} (h:u<10):dD u= [48+u]:=by
 unfold dD;rw[Lib.decDigits,dif_pos h];have:(fY (48+u)).toNat=48+u:=by
  rw[gV];omega
 simp only[cg,dI,this]
theorem Zqk{u:Nat} (h:¬u<10):dD u=dD (u/10)++ [48+u%10]:=by
 unfold dD;rw[Lib.decDigits,dif_neg h];have:(fY (48+u%10)).toNat=48+u%10:=by
  rw[gV];omega
 rw[gy];simp only[cg,dI,this]
theorem Z5p{n:Int} (h:0<=n):decN n=dD n.toNat:=by
 unfold decN dD Lib.itoa;rw[if_neg (by omega)]
theorem Zwl:∀{a b:List Nat} {n m:Int},numL n a=(m,0)->numL n (a++b)=numL m b
 | [],b,n,m,h=>by
  unfold numL at h
  cases h
  rfl
 |c::r,b,n,m,h=>by
  unfold numL at h
  rw[dc]
  unfold numL
  split at h
  ·cases h
  ·rename_i I
   rw[if_neg I,Zwl h]
   cases b<;>rfl
theorem Yao(u:Nat):dD u≠ []:=by
 by_cases h:u<10
 ·rw[Zem h];simp
 ·rw[Zqk h];simp
theorem Yjp:∀(u:Nat),u<=1099511627776->numL 0 (dD u)=((u:Int),0):=by
 intro u
 induction u using iB with
 |_ u I=>
  intro J;by_cases h:u<10
  ·rw[Zem h]
   unfold numL;rw[if_neg (by omega)];unfold numL
   congr 1
   omega
  ·rw[Zqk h,Zwl (I (u/10) (by omega) (by omega))]
   unfold numL;rw[if_neg (by omega)];unfold numL
   congr 1
   omega
theorem Yjq:∀(u:Nat),∀c∈dD u,isD (c:Int)=true:=by
 intro u
 induction u using iB with
 |_ u J=>
  have one:∀k:Nat,k<10->isD ((48+k:Nat):Int)=true:=by
   intro k R;unfold isD;simp;omega
  by_cases h:u<10
  ·rw[Zem h]
   intro c I;rw[bZ] at I;subst I;exact one u h
  ·rw[Zqk h]
   intro c I;rcases bS.1 I with I|I
   ·exact J (u/10) (by omega) c I
   ·rw[bZ] at I
    subst I;exact one _ (by omega)
theorem Yf7:∀(u:Nat),1<(dD u).length->(dD u).head?≠ae 48:=by
 intro u
 induction u using iB with
 |_ u R=>
  by_cases h:u<10
  ·rw[Zem h]
   intro J;simp at J
  ·rw[Zqk h]
   intro _;have e:(dD (u/10)++ [48+u%10]).head? =(dD (u/10)).head? :=by
    cases hd:dD (u/10) with
    |nil=>exact absurd hd (Yao _)
    |cons x r=>rfl
   rw[e];by_cases I:u/10<10
   ·rw[Zem I]
    intro k;injection k with k
    omega
   ·refine R (u/10) (by omega) ?_
    rw[Zqk I,aC];have:=Yao (u/10/10);cases hd:dD (u/10/10) with
    |nil=>exact absurd hd this
    |cons x r=>simp
theorem Z5q{n:Int} (J:0<=n) (h1:n<=1099511627776):tokP (decN n)=(⟨2,decN n,n,0⟩,0):=by
 rw[Z5p J];have a0:=Yao n.toNat;have hd:=Yjq n.toNat;have hn:=Yjp n.toNat (by omega);have U:=Yf7 n.toNat;have R:((n.toNat:Nat):Int)=n:=by omega
 generalize dD n.toNat=w at*;cases w with
 |nil=>exact absurd rfl a0
 |cons c r=>
  rw[W4];have I:=hd c (by simp);have hl:isL (c:Int)=false:=by
   unfold isD at I;unfold isL;simp at I⊢;omega
  rw[if_neg (by rw[hl];decide),if_pos I,Zcw hd,aW];have:numb (c::r)=(n,0):=by
   unfold numb;rw[if_neg (λk=>U k.1 k.2),hn,R]
  rw[this]
theorem Zgo{n:Int} (I:0<=n) (J:n<=1099511627776):TokW (decN n):=by
 refine⟨by rw[Z5q I J],by rw[Z5q I J],?_⟩;rw[Z5p I];exact Yao _
theorem Ylg{c:Nat} (h:wb c=ac):isLD (c:Int)=true:=by
 unfold wb at h;unfold isLD isL isD;simp at h⊢;omega
theorem Zwm{s:List Nat} (h:Uj s=ac):tokP s=(⟨1,s,0,0⟩,0):=by
 unfold Uj at h;rw[aq,aq,decide_eq_true_eq] at h;obtain⟨⟨U,I⟩,R⟩:=h;cases s with
 |nil=>cases I
 |cons c r=>
  have J:isL (c:Int)=true:=by
   unfold lowF at I;unfold isL;simp at I⊢;omega
  rw[W4,if_pos J,Zcw λc J=>Ylg (fB.1 R c J),if_neg (by omega),aW]
theorem Zjb{s:List Nat} (h:Uj s=ac):TokW s:=by
 refine⟨by rw[Zwm h],by rw[Zwm h],?_⟩;rintro rfl;simp[Uj,lowF] at h
theorem Yap:∀k:WK,∀w∈k.words,Uj w=true:=by
 intro k;cases k<;>decide
theorem Yjr{k:WK} {i:Nat} (h:i<k.words.length):k.words.getD i []∈k.words:=by
 have:k.words.getD i []=k.words[i]:=by simp[ah,h]
 rw[this];exact gn h
theorem Yf8{k:WK} {i:Nat} (h:i<k.words.length):Uj (k.words.getD i [])=true:=Yap k _ (Yjr h)
end
section
open Go
def d0:List Int:= [0,0,0,0]
theorem Z8h{a b c d:Int} (h:Zcg [a,b,c,d]=ac):in1 a=ac/\in1 b=ac/\in1 c=ac/\in1 d=true:=by
 rw[Zp3] at h;rw[aq] at h
 simpa using h.1
theorem Zds{a:Int} (h:in1 a=ac):a= -1\/a=0\/a=1:=by
 unfold in1 at h;simp at h;omega
def UnF(u:List Int):Prop:=(u=d0/\txU u= [])\/(∃i,i<4/\u=incD d0 (i:Nat)/\txU u= [WK.un.words.getD i []])\/(∃j,j<4/\u=decD d0 (j:Nat)/\txU u= [sPer,WK.un.words.getD j []])\/(∃i,i<4/\∃j,j<4/\u=decD (incD d0 (i:Nat)) (j:Nat)/\txU u= [WK.un.words.getD i [],sPer,WK.un.words.getD j []])
instance (u:List Int):Decidable (UnF u):=by unfold UnF;infer_instance
theorem unF{a b c d:Int} (h:Zcg [a,b,c,d]=ac):UnF [a,b,c,d]:=by
 obtain⟨I,J,R,hd⟩:=Z8h h;revert h;rcases Zds I with rfl|rfl|rfl<;>rcases Zds J with rfl|rfl|rfl<;>rcases Zds R with rfl|rfl|rfl<;>rcases Zds hd with rfl|rfl|rfl
 all_goals(clear I J R hd;decide)
theorem Zkq{op n:Int} {u:List Int} {k:Nat} (h:Zdd op n u k=ac):1<=op/\op<=11/\0<=n/\n<=Zzz op/\k=Zk8 op/\Zcg u=ac/\(op=1\/u= [0,0,0,0]):=by
 unfold Zdd at h;simp only[aq,bd,decide_eq_true_eq] at h;obtain⟨⟨⟨⟨⟨⟨I,J⟩,R⟩,U⟩,h5⟩,h6⟩,h7⟩:=h;exact⟨I,J,R,U,h5,h6,h7⟩
theorem len2{α:Type} {l:List α} (h:l.length=2):∃a b,l= [a,b]:=by
 match l,h with
 | [a,b],_=>exact⟨a,b,rfl⟩
end
section
open Go
abbrev Zgf(x:Ex) (J:List (List Nat)) (l:List (List Nat)) (fz:Nat) (m:Nat) (U:List (List Nat)):Prop:=
 (wr af (aJ x-(3:Int))==(↑(0:Nat):Int))=ab->((wr af (aJ x-(3:Int))==(↑((0:Nat)+(1:Nat)):Int))=ac->(aa J<=
 aa J/\fzO (ae (l,fz))<=aa J/\(aa J+(1:Nat))*(16:Nat)<=(140737488355328:Nat))/\(0:Int)<=(1:Int)/\(1:Int)+(1:Int)
 <=(↑(aa (bw x)):Int)/\∀(I:Ex),(bw x)[ag (1:Int)]? =ae I->True/\∀(y:Int),y=Wk (aJ x)->(aa J+(1:Nat)=
 aa (av (aa J) J++ [[(45:Nat)]])/\fzO (ae (l,fz))<=aa (av (aa J) J++ [[(45:Nat)]])/\Ex.sz (bU (aJ
 I) (bW I) (bx I) (bA I) (bB I) (bC I) (bw I))+(1:Nat)<=m/\Zn (bU (aJ I) (bW I) (bx I) (bA I) (bB I) (bC I)
 (bw I))=ac/\(1:Nat)<=aa (av (aa J) J++ [[(45:Nat)]])/\aa (av (aa J) J++ [[(45:Nat)]])+(8:Nat)
 *Ex.sz (bU (aJ I) (bW I) (bx I) (bA I) (bB I) (bC I) (bw I))+(10:Nat)<=(1000000000:Nat))/\∀(R:List (List Nat)),R=
 av (aa J) J++ [[(45:Nat)]]++par (aJ (bU (aJ I) (bW I) (bx I) (bA I) (bB I) (bC I) (bw I))) (wr af (y+
 (1:Int))) (txX (bU (aJ I) (bW I) (bx I) (bA I) (bB I) (bC I) (bw I)))->R=U/\aa R=aa U/\fzO (ae (av
 (aa J) J++ [[(45:Nat)]],fzO (ae (l,fz))))=fzO (ae (l,fz)))/\((wr af (aJ x-(3:Int))==(↑((0:Nat)+(1:Nat)):Int))=ab->((wr
 af (aJ x-(3:Int))==(↑((0:Nat)+(1:Nat)+(1:Nat)):Int))=ac->(aa J<=aa J/\fzO (ae (l,fz))<=aa J/\
 (aa J+(1:Nat))*(16:Nat)<=(140737488355328:Nat))/\(0:Int)<=(1:Int)/\(1:Int)+(1:Int)<=(↑(aa (bw x)):Int)/\∀(I:Ex),(bw
 x)[ag (1:Int)]? =ae I->True/\∀(y:Int),y=Wk (aJ x)->(aa J+(1:Nat)=aa (av (aa J) J++ [[(42:Nat)]])
 /\fzO (ae (l,fz))<=aa (av (aa J) J++ [[(42:Nat)]])/\Ex.sz (bU (aJ I) (bW I) (bx I) (bA I) (bB I) (bC I)
 (bw I))+(1:Nat)<=m/\Zn (bU (aJ I) (bW I) (bx I) (bA I) (bB I) (bC I) (bw I))=ac/\(1:Nat)<=aa (av
 (aa J) J++ [[(42:Nat)]])/\aa (av (aa J) J++ [[(42:Nat)]])+(8:Nat)*Ex.sz (bU (aJ I) (bW I) (bx I)
 (bA I) (bB I) (bC I) (bw I))+(10:Nat)<=(1000000000:Nat))/\∀(R:List (List Nat)),R=av (aa J) J++ [[(42:Nat)]]++par
 (aJ (bU (aJ I) (bW I) (bx I) (bA I) (bB I) (bC I) (bw I))) (wr af (y+(1:Int))) (txX (bU (aJ I) (bW I) (bx I)
 (bA I) (bB I) (bC I) (bw I)))->R=U/\aa R=aa U/\fzO (ae (av (aa J) J++ [[(42:Nat)]],fzO (ae (l,
 fz))))=fzO (ae (l,fz)))/\((wr af (aJ x-(3:Int))==(↑((0:Nat)+(1:Nat)+(1:Nat)):Int))=ab->True))
abbrev Zgg(x:Ex) (J:List (List Nat)) (l:List (List Nat)) (fz:Nat) (m:Nat) (U:List (List Nat)):Prop:=
 (wr af (aJ x-(3:Int))==(↑(0:Nat):Int))=ac->(aa J<=aa J/\fzO (ae (l,fz))<=aa J/\(aa J+(1:
 Nat))*(16:Nat)<=(140737488355328:Nat))/\(0:Int)<=(1:Int)/\(1:Int)+(1:Int)<=(↑(aa (bw x)):Int)/\∀(I:Ex),(bw x)[ag (1:Int)]? =
 ae I->True/\∀(y:Int),y=Wk (aJ x)->(aa J+(1:Nat)=aa (av (aa J) J++ [[(43:Nat)]])/\fzO (ae (l,fz))<=
 aa (av (aa J) J++ [[(43:Nat)]])/\Ex.sz (bU (aJ I) (bW I) (bx I) (bA I) (bB I) (bC I) (bw I))+(1:Nat)<=
 m/\Zn (bU (aJ I) (bW I) (bx I) (bA I) (bB I) (bC I) (bw I))=ac/\(1:Nat)<=aa (av (aa J) J++ [[(43:
 Nat)]])/\aa (av (aa J) J++ [[(43:Nat)]])+(8:Nat)*Ex.sz (bU (aJ I) (bW I) (bx I) (bA I) (bB I) (bC I)
 (bw I))+(10:Nat)<=(1000000000:Nat))/\∀(R:List (List Nat)),R=av (aa J) J++ [[(43:Nat)]]++par (aJ (bU (aJ I) (bW
 I) (bx I) (bA I) (bB I) (bC I) (bw I))) (wr af (y+(1:Int))) (txX (bU (aJ I) (bW I) (bx I) (bA I) (bB I) (bC
 I) (bw I)))->R=U/\aa R=aa U/\fzO (ae (av (aa J) J++ [[(43:Nat)]],fzO (ae (l,fz))))=fzO (ae (l,fz))
abbrev Y8(I:Ex):=
 (bU (aJ I) (bW I) (bx I) (bA I) (bB I) (bC I) (bw I))
abbrev Vh(I:Ex):=
 (bU (aJ I) (bW I) (bx I) (bA I) (bB I) (bC I) (bw I))
abbrev Vi(I:Ex):=
 (bU (aJ I) (bW I) (bx I) (bA I) (bB I) (bC I) (bw I))
abbrev Zgh(l:List (List Nat)) (fz:Nat) (I:Ex) (m:Nat):Prop:=
 aa l=aa l/\fz<=aa l/\Ex.sz (Y8 I)+(1:Nat)<=m/\Zn (Y8 I)=ac/\(1:Nat)<=aa l/\aa l+(8:Nat)*
 Ex.sz (Y8 I)+(10:Nat)<=(1000000000:Nat)
abbrev Zd1(I:Ex):=
 (bU (aJ I) (bW I) (bx I) (bA I) (bB I) (bC I) (bw I))
abbrev qCG3(I:List (List Nat)):=(aa I)
abbrev qCGe:=(40:Nat)
abbrev qCGa(I:List (List Nat)) (J:Nat):=(ae (av (qCG3 I) I++ [[(105:Nat),(102:Nat)],[qCGe]],J))
abbrev qCG1(I:List (List Nat)) (J:List (List Nat)) (R:Nat):=(ae (av (qCG3 I) I++ [[(60:Nat)]],fzO (qCGa J R)))
abbrev qCGf:=(44:Nat)
abbrev qCG2(I:List (List Nat)):=(av (qCG3 I) I++ [[qCGf]])
abbrev qCG4:=(140737488355328:Nat)
abbrev qCG5(I:Ex):=(↑(aa (bw I)):Int)
abbrev qCG6(I:List (List Nat)):=(av (qCG3 I) I++ [[(105:Nat),(102:Nat)],[qCGe]])
abbrev qCG7:=(0:Int)
abbrev qCG8:=(1:Nat)
abbrev qCG9:=(1:Int)
abbrev qCGb:=(1000000000:Nat)
abbrev qCGc(I:List (List Nat)):=(av (qCG3 I) I++ [[(60:Nat)]])
abbrev qCGd(I:List (List Nat)):=(aa I+qCG8)
abbrev qCGg:=(8:Nat)
abbrev qCGh:=(16:Nat)
abbrev qCGi:=(3:Int)
abbrev qCGj(I:List (List Nat)) (J:List (List Nat)) (R:List (List Nat)) (d0:Nat):=(ae (av (qCG3 I) I++ [[qCGf]],fzO (qCG1 J R d0)))
theorem Zx5(m:Nat) (l:List (List Nat)) (fz:Nat) (x:Ex) (l':List (List Nat)):Zk E Fpu (vc E (Fxp' m) 400) 101 [.ptr 0 0,exA x] (hpP E dk (ae (l,fz))) 2 (prnK E dk (ae (l,fz)) l')=(
 ((aJ x==qCG9)=ac->(qCG7<=bW x/\bW x+qCG9<=(10000000000000:Int))/\∀(y:List Nat),y=decN (bW x)->(aa l<=aa l/\fz<=aa l/\(qCGd l)*qCGh<=qCG4)/\(aa l+qCG8=aa (av (qCG3 l) l++ [y])/\fz<=aa (av (qCG3 l) l++ [y])/\qCG8<=aa (av (qCG3 l) l++ [y])/\aa (av (qCG3 l) l++ [y])+qCGg<=qCGb)/\∀(I:List (List Nat)),I=av (qCG3 l) l++ [y]++txU [bx x,bA x,bB x,bC x]->I=l'/\aa I=aa l'/\fzO (ae (av (qCG3 l) l++ [y],fz))=fzO (ae (l,fz)))/\((aJ x==qCG9)=ab->((aJ x==(2:Int))=ac->qCG7<=bW x/\bW x+qCG9<=(↑(aa (WK.words WK.at_)):Int)/\∀(J:List Nat),(WK.words WK.at_)[ag (bW x)]? =ae J->(aa l<=aa l/\fz<=aa l/\(qCGd l)*qCGh<=qCG4)/\av (qCG3 l) l++ [J]=l'/\aa l+qCG8=aa l'/\fz=fzO (ae (l,fz)))/\((aJ x==(2:Int))=ab->((aJ x==(11:Int))=ac->(aa l<=aa l/\fz<=aa l/\(aa l+(2:Nat))*qCGh<=qCG4)/\qCG7<=qCG7/\qCG7+qCG9<=(qCG5 x)/\∀(J:Ex),(bw x)[ag qCG7]? =ae J->(aa l+(2:Nat)=aa (qCG6 l)/\fz<=aa (qCG6 l)/\Ex.sz (Y8 J)+qCG8<=m/\Zn (Y8 J)=ac/\qCG8<=aa (qCG6 l)/\aa (qCG6 l)+qCGg*Ex.sz (Y8 J)+qCGg<=qCGb)/\∀(I:List (List Nat)),I=av (qCG3 l) l++ [[(105:Nat),(102:Nat)],[qCGe]]++txX (Y8 J)->(aa I<=aa I/\fzO (qCGa l fz)<=aa I/\(qCGd I)*qCGh<=qCG4)/\qCG7<=qCG9/\qCG9+qCG9<=(qCG5 x)/\∀(a0:Ex),(bw x)[ag qCG9]? =ae a0->(aa I+qCG8=aa (qCGc I)/\fzO (qCGa l fz)<=aa (qCGc I)/\Ex.sz (Vh a0)+qCG8<=m/\Zn (Vh a0)=ac/\qCG8<=aa (qCGc I)/\aa (qCGc I)+qCGg*Ex.sz (Vh a0)+qCGg<=qCGb)/\∀(R:List (List Nat)),R=av (qCG3 I) I++ [[(60:Nat)]]++txX (Vh a0)->(aa R<=aa R/\fzO (qCG1 I l fz)<=aa R/\(qCGd R)*qCGh<=qCG4)/\qCG7<=(2:Int)/\(2:Int)+qCG9<=(qCG5 x)/\∀(a1:Ex),(bw x)[ag (2:Int)]? =ae a1->(aa R+qCG8=aa (qCG2 R)/\fzO (qCG1 I l fz)<=aa (qCG2 R)/\Ex.sz (Vi a1)+qCG8<=m/\Zn (Vi a1)=ac/\qCG8<=aa (qCG2 R)/\aa (qCG2 R)+qCGg*Ex.sz (Vi a1)+qCGg<=qCGb)/\∀(U:List (List Nat)),U=av (qCG3 R) R++ [[qCGf]]++txX (Vi a1)->(aa U<=aa U/\fzO (qCGj R I l fz)<=aa U/\(qCGd U)*qCGh<=qCG4)/\qCG7<=qCGi/\qCGi+qCG9<=(qCG5 x)/\∀(a3:Ex),(bw x)[ag qCGi]? =ae a3->(aa U+qCG8=aa (qCG2 U)/\fzO (qCGj R I l fz)<=aa (qCG2 U)/\Ex.sz (Zd1 a3)+qCG8<=m/\Zn (Zd1 a3)=ac/\qCG8<=aa (qCG2 U)/\aa (qCG2 U)+qCGg*Ex.sz (Zd1 a3)+qCGg<=qCGb)/\∀(a2:List (List Nat)),a2=av (qCG3 U) U++ [[qCGf]]++txX (Zd1 a3)->(aa a2<=aa a2/\fzO (ae (av (qCG3 U) U++ [[qCGf]],fzO (qCGj R I l fz)))<=aa a2/\(qCGd a2)*qCGh<=qCG4)/\av (qCG3 a2) a2++ [[(41:Nat)]]=l'/\aa a2+qCG8=aa l'/\fzO (ae (av (qCG3 U) U++ [[qCGf]],fzO (qCGj R I l fz)))=fzO (ae (l,fz)))/\((aJ x==(11:Int))=ab->((aJ x==qCGi)=ac->qCG7<=qCG7/\qCG7+qCG9<=(qCG5 x)/\∀(J:Ex),(bw x)[ag qCG7]? =ae J->True/\∀(y:Int),y=Wk (aJ x)->(Zgh l fz J m)/\∀(I
:List (List Nat)),I=l++par (aJ (Y8 J)) y (txX (Y8 J))->qCG7<=wr af (aJ x-qCGi)/\wr af (aJ x-qCGi)+qCG9<=(↑(3:Nat):Int)/\(Zgg x I l fz m l')/\(Zgf x I l fz m l'))/\((aJ x==qCGi)=ab->((aJ x==(4:Int))=ac->qCG7<=qCG7/\qCG7+qCG9<=(qCG5 x)/\∀(J:Ex),(bw x)[ag qCG7]? =ae J->True/\∀(y:Int),y=Wk (aJ x)->(Zgh l fz J m)/\∀(I:List (List Nat)),I=l++par (aJ (Y8 J)) y (txX (Y8 J))->qCG7<=wr af (aJ x-qCGi)/\wr af (aJ x-qCGi)+qCG9<=(↑(3:Nat):Int)/\(Zgg x I l fz m l')/\(Zgf x I l fz m l'))/\((aJ x==(4:Int))=ab->((aJ x==(5:Int))=ac->qCG7<=qCG7/\qCG7+qCG9<=(qCG5 x)/\∀(J:Ex),(bw x)[ag qCG7]? =ae J->True/\∀(y:Int),y=Wk (aJ x)->(Zgh l fz J m)/\∀(I:List (List Nat)),I=l++par (aJ (Y8 J)) y (txX (Y8 J))->qCG7<=wr af (aJ x-qCGi)/\wr af (aJ x-qCGi)+qCG9<=(↑(3:Nat):Int)/\(Zgg x I l fz m l')/\(Zgf x I l fz m l'))/\((aJ x==(5:Int))=ab->qCG7<=wr af (aJ x-(6:Int))/\wr af (aJ x-(6:Int))+qCG9<=(↑(aa (WK.words WK.ca)):Int)/\∀(J:List Nat),(WK.words WK.ca)[ag (wr af (aJ x-(6:Int)))]? =ae J->(aa l<=aa l/\fz<=aa l/\(aa l+(2:Nat))*qCGh<=qCG4)/\qCG7<=qCG7/\qCG7+qCG9<=(qCG5 x)/\∀(a0:Ex),(bw x)[ag qCG7]? =ae a0->(aa l+(2:Nat)=aa (av (qCG3 l) l++ [J,[qCGe]])/\fz<=aa (av (qCG3 l) l++ [J,[qCGe]])/\Ex.sz (Vh a0)+qCG8<=m/\Zn (Vh a0)=ac/\qCG8<=aa (av (qCG3 l) l++ [J,[qCGe]])/\aa (av (qCG3 l) l++ [J,[qCGe]])+qCGg*Ex.sz (Vh a0)+qCGg<=qCGb)/\∀(I:List (List Nat)),I=av (qCG3 l) l++ [J,[qCGe]]++txX (Vh a0)->(aa I<=aa I/\fzO (ae (av (qCG3 l) l++ [J,[qCGe]],fz))<=aa I/\(qCGd I)*qCGh<=qCG4)/\qCG7<=qCG9/\qCG9+qCG9<=(qCG5 x)/\∀(a1:Ex),(bw x)[ag qCG9]? =ae a1->(aa I+qCG8=aa (qCG2 I)/\fzO (ae (av (qCG3 l) l++ [J,[qCGe]],fz))<=aa (qCG2 I)/\Ex.sz (Vi a1)+qCG8<=m/\Zn (Vi a1)=ac/\qCG8<=aa (qCG2 I)/\aa (qCG2 I)+qCGg*Ex.sz (Vi a1)+qCGg<=qCGb)/\∀(R:List (List Nat)),R=av (qCG3 I) I++ [[qCGf]]++txX (Vi a1)->(aa R<=aa R/\fzO (ae (av (qCG3 I) I++ [[qCGf]],fzO (ae (av (qCG3 l) l++ [J,[qCGe]],fz))))<=aa R/\(qCGd R)*qCGh<=qCG4)/\av (qCG3 R) R++ [[(41:Nat)]]=l'/\aa R+qCG8=aa l'/\fzO (ae (av (qCG3 I) I++ [[qCGf]],fzO (ae (av (qCG3 l) l++ [J,[qCGe]],fz))))=fzO (ae (l,fz))))))))):=by kernel_rfl
theorem Ykv(op n a b c d:Int) (l:List Ex):aJ (.mk op n a b c d l)=op:=rfl
theorem n_mk(op n a b c d:Int) (l:List Ex):bW (.mk op n a b c d l)=n:=rfl
theorem Ykw(op n a b c d:Int) (l:List Ex):bx (.mk op n a b c d l)=a:=rfl
theorem Ykx(op n a b c d:Int) (l:List Ex):bA (.mk op n a b c d l)=b:=rfl
theorem Yky(op n a b c d:Int) (l:List Ex):bB (.mk op n a b c d l)=c:=rfl
theorem Ykz(op n a b c d:Int) (l:List Ex):bC (.mk op n a b c d l)=d:=rfl
theorem l_mk(op n a b c d:Int) (l:List Ex):bw (.mk op n a b c d l)=l:=rfl
theorem u_mk(op n a b c d:Int) (l:List Ex):Ex.u (.mk op n a b c d l)= [a,b,c,d]:=rfl
theorem len4{α:Type} {l:List α} (h:l.length=4):∃a b c d,l= [a,b,c,d]:=by
 match l,h with
 | [a,b,c,d],_=>exact⟨a,b,c,d,rfl⟩
theorem Zsn(op least:Int) (t:List (List Nat)):(par op least t).length<=t.length+2:=by
 unfold par;split
 ·omega
 ·simp
theorem Zu9:∀m,PxOk m
 |0=>λx h=>by omega
 |m+1=>by
  intro x hx hf l fz a1 h1 hl
  have hm:=Zu9 m
  refine Xv E_ok (Xk E_ok Zvk λf N c=>(Zf4 E_ok (Ye3 hm) 400 f N c).1) rfl ?_
  show Zk E Fpu (vc E (Fxp' m) 400) 101 [.ptr 0 0,exA x] (hpP E dk (ae (l,fz))) 2 (prnK E dk (ae (l,fz)) (l++txX x))
  rw[Zx5];delta qCG3 qCGe qCGa qCG1 qCGf qCG2 qCG4 qCG5 qCG6 qCG7 qCG8 qCG9 qCGb qCGc qCGd qCGg qCGh qCGi qCGj
  unfold Zd1 Zgh Vi Vh Y8 Zgg Zgf
  simp only[fzO,aW,Ex.eta,forall_eq,beq_iff_eq,beq_eq_false_iff_ne,ne_eq]
  rw[Zde,aq] at hf
  obtain⟨hh,a0⟩:=hf
  have R:∀y∈x.l,Zn y=true:=formL_iff.1 a0
  rw[Ex.sz_eq] at hx hl
  obtain⟨op,n,a,b,c,d,xs⟩:=x
  simp only[Ykv,n_mk,Ykw,Ykx,Yky,Ykz,l_mk,u_mk] at*
  obtain⟨g1,g2,g3,g4,g5,g6,g7⟩:=Zkq hh
  have a2:txX (.mk op n a b c d xs)=txN op n [a,b,c,d] (xs.map aJ) (txL xs):=by rw[txX]
  rw[a2]
  clear hh a0 a2
  have w0:wr .i64 0=0:=by decide
  have w1:wr .i64 1=1:=by decide
  have w2:wr .i64 2=2:=by decide
  have w3:wr .i64 3=3:=by decide
  have t3:Wk 3=1:=rfl
  have t4:Wk 4=1:=rfl
  have t5:Wk 5=2:=rfl
  refine⟨λq1=> ?_,λq1=>⟨λq2=> ?_,λq2=>⟨λq3=> ?_,λq3=>⟨λq4=> ?_,λq4=>⟨λq5=> ?_,λq5=>⟨λq6=> ?_,λq6=> ?_⟩⟩⟩⟩⟩⟩
  ·subst q1
   have h4:n<=1099511627776:=g4
   refine⟨⟨g3,by omega⟩,⟨aw _,a1,by omega⟩,⟨by simp,by simp;omega,by simp,by simp;omega⟩,?_⟩
   simp[txN]
  ·subst q2
   have h4:n<=15:=g4
   have L:WK.at_.words.length=16:=rfl
   refine⟨g3,by rw[L];omega,λw hw=>⟨⟨aw _,a1,by omega⟩,?_⟩⟩
   have:WK.at_.words.getD n.toNat []=w:=by simp[ah,hw]
   unfold txN
   rw[if_neg (by decide),if_pos rfl,this]
   simp
  ·subst q3
   obtain⟨I,J,x3,x4,rfl⟩:=len4 (show xs.length=4 from g5)
   have s:I.sz+(J.sz+(x3.sz+(x4.sz+0)))+1<m+1:=hx
   have s':l.length+8*(I.sz+(J.sz+(x3.sz+(x4.sz+0)))+1)+8<=1000000000:=hl
   have p1:=Xm I
   have p2:=Xm J
   have p3:=Xm x3
   have p4:=Xm x4
   have U:=R I (by simp)
   have f2:=R J (by simp)
   have f3:=R x3 (by simp)
   have f4:=R x4 (by simp)
   simp[U,f2,f3,f4,txN,txS,txL,sIf,Zf0,Zrg,V3,Vs]
   omega
  ·subst q4
   obtain⟨I,J,rfl⟩:=len2 (show xs.length=2 from g5)
   have s:I.sz+(J.sz+0)+1<m+1:=hx
   have s':l.length+8*(I.sz+(J.sz+0)+1)+8<=1000000000:=hl
   have p1:=Xm I
   have p2:=Xm J
   have U:=R I (by simp)
   have f2:=R J (by simp)
   have r1:=Zsn I.op 1 (txX I)
   simp[w0,w1,w2,w3,t3,U,f2,txN,txL,sgnO,Zsw]
   omega
  ·subst q5
   obtain⟨I,J,rfl⟩:=len2 (show xs.length=2 from g5)
   have s:I.sz+(J.sz+0)+1<m+1:=hx
   have s':l.length+8*(I.sz+(J.sz+0)+1)+8<=1000000000:=hl
   have p1:=Xm I
   have p2:=Xm J
   have U:=R I (by simp)
   have f2:=R J (by simp)
   have r1:=Zsn I.op 1 (txX I)
   simp[w0,w1,w2,w3,t4,U,f2,txN,txL,sgnO,Zkx]
   omega
  ·subst q6
   obtain⟨I,J,rfl⟩:=len2 (show xs.length=2 from g5)
   have s:I.sz+(J.sz+0)+1<m+1:=hx
   have s':l.length+8*(I.sz+(J.sz+0)+1)+8<=1000000000:=hl
   have p1:=Xm I
   have p2:=Xm J
   have U:=R I (by simp)
   have f2:=R J (by simp)
   have r1:=Zsn I.op 2 (txX I)
   simp[w0,w1,w2,w3,t5,U,f2,txN,txL,sgnO,sMul]
   omega
  ·have L:WK.ca.words.length=5:=rfl
   obtain⟨I,J,rfl⟩:=len2 (show xs.length=2 by rw[g5];unfold Zk8;rw[if_neg (by omega),if_neg (by omega)])
   have s:I.sz+(J.sz+0)+1<m+1:=hx
   have s':l.length+8*(I.sz+(J.sz+0)+1)+8<=1000000000:=hl
   have p1:=Xm I
   have p2:=Xm J
   have U:=R I (by simp)
   have f2:=R J (by simp)
   have wo:wr .i64 (op-6)=op-6:=wr64 (by omega) (by omega)
   simp only[wo]
   refine⟨by omega,by rw[L];omega,λw hw=> ?_⟩
   have e:WK.ca.words.getD (op-6).toNat []=w:=by simp[ah,hw]
   have q7:¬(op=3\/op=4\/op=5):=by omega
   unfold txN
   rw[if_neg q1,if_neg q2,if_neg q3,if_neg q7,e]
   simp[U,f2,txS,txL,Zf0,V3,Vs]
   omega
end
section
open Go
def CsOk:List (List Nat)->List Cls->Prop
 |_,[]=>True
 |seen,c::r=>W5 c=ac/\resF c.name=ab/\c.name∉seen/\c.when_.length<=8/\Y5 c.pay<=24/\CsOk (c.name::seen) r
def Yd6(m:List (List Nat×Bool)) (seen:List (List Nat)):Prop:=∀a,(Z4 m a).getD ab=decide (a∈seen)
theorem Z23{m:List (List Nat×Bool)} {seen:List (List Nat)} (h:Yd6 m seen) (a:List Nat):Yd6 (putS m a ac) (a::seen):=by
 intro b;rw[Ziu];by_cases e:a=b
 ·rw[if_pos e]
  subst e;simp
 ·rw[if_neg e,h b]
  simp[Ne.symm e]
theorem Zva:∀(cs:List Cls) (a b:Bool) (m:List (List Nat×Bool)) (seen:List (List Nat)),Yd6 m seen->(goC a b m cs=0↔a=ab/\b=ab/\CsOk seen cs)
 | [],a,b,m,seen,hm=>by
  unfold goC CsOk
  cases a<;>cases b<;>decide
 |c::r,a,b,m,seen,hm=>by
  rw[Zen]
  unfold CsOk
  by_cases I:W5 c=ac
  ·rw[if_pos I,Zva r _ _ _ _ (Z23 hm c.name),hm c.name]
   simp only[bG,decide_eq_false_iff_not]
   constructor
   ·rintro⟨⟨⟨J,R⟩,U⟩,⟨⟨h4,h5⟩,h6⟩,h7⟩
    exact⟨J,h4,I,R,U,by omega,by omega,h7⟩
   ·rintro⟨J,h4,_,R,U,h5,h6,h7⟩
    exact⟨⟨⟨J,R⟩,U⟩,⟨⟨h4,by omega⟩,by omega⟩,h7⟩
  ·rw[if_neg I]
   constructor
   ·intro h
    cases h
   ·rintro⟨_,_,h,_⟩
    exact absurd h I
theorem Zc4(t:Tar):Z9 t=0↔Uj t.name=ac/\1<=t.for_/\t.for_<=6/\resF t.name=ab/\t.clauses.length<=64/\CsOk [] t.clauses:=by
 unfold Z9;split
 ·rename_i h
  rw[Zva _ _ _ _ [] (λa=>by simp[Z4])];rw[decide_eq_false_iff_not];constructor
  ·rintro⟨I,R,J⟩
   exact⟨h.1,h.2.1,h.2.2,I,by omega,J⟩
  ·rintro⟨_,_,_,I,R,J⟩
   exact⟨I,by omega,J⟩
 ·rename_i h
  constructor
  ·intro k
   cases k
  ·rintro⟨I,R,J,_⟩
   exact absurd ⟨I,R,J⟩ h
theorem Zc5{c:Cls} (h:W5 c=ac):Uj c.name=ac/\Zn c.pay=ac/\∀w∈c.when_,Yr w=true:=by
 unfold W5 at h;rw[aq,aq] at h;exact⟨h.1.1,h.1.2,fB.1 h.2⟩
end
section
open Go
theorem Z1b(i:Nat) (w:Tst) (r:List Tst):txTs i (w::r)=(if i=0 then Zlr else sAnd)::(txW w++txTs (i+1) r):=rfl
theorem Zfl{w:Tst} (h:Yr w=ac):0<=w.attr/\w.attr<16/\0<=w.low/\w.low<=1099511627776/\0<=w.high/\w.high<=1099511627776:=of_decide_eq_true h
theorem Z1c(c:Cls) (r:List Cls):txCs (c::r)=txC c++txCs r:=rfl
end
section
open Go
abbrev PP(β:Type):=List Tok->Int->PR β
section
variable {α β:Type}
def pB(p:PP α) (q:α->PP β):PP β:=λl e=>
 match p l e with
 | .error I=> .error I
 | .ok (y,x)=>q y x.1 x.2.1
end
end
section
open Go
def TkG(t:Tok):Prop:=TokW t.text/\sT t=tkS t.text/\(t.kind=1->Uj t.text=ac)/\(t.kind=2->0<=t.n/\t.n<=1099511627776)
def LxOk(l:List Tok):Prop:=∀t∈l,TkG t
theorem LxOk.drop{l:List Tok} (h:LxOk l) (k:Nat):LxOk (l.drop k):=λt I=>h t (List.mem_of_mem_drop I)
theorem LxOk.tail{l:List Tok} (h:LxOk l):LxOk l.tail:=λt I=>h t (List.mem_of_mem_tail I)
section
variable {α β:Type}
end
theorem Zqj(s:List (List Nat)) (c:Cls) (r:List Cls):CsOk s (c::r)=(W5 c=ac/\resF c.name=ab/\c.name∉s/\c.when_.length<=8/\Y5 c.pay<=24/\CsOk (c.name::s) r):=rfl
end
section
open Go
def AllW(ws:List (List Nat)):Prop:=∀w∈ws,TokW w
theorem V7{a b:List (List Nat)} (I:AllW a) (J:AllW b):AllW (a++b):=λw R=>(bS.1 R).elim (I w) (J w)
theorem Zj{w:List Nat} {b:List (List Nat)} (I:TokW w) (J:AllW b):AllW (w::b):=λx R=>(aL.1 R).elim (λe=>e▸I) (J x)
theorem Yj:AllW []:=λw I=>by cases I
theorem tw{w:List Nat} (I:(tokP w).2=0) (J:(tokP w).1.text=w) (R:w≠ []):TokW w:=⟨I,J,R⟩
theorem Zse:TokW Zf0:=tw rfl rfl (by decide)
theorem Zmh:TokW Vs:=tw rfl rfl (by decide)
theorem Zmi:TokW V3:=tw rfl rfl (by decide)
theorem Yds:TokW Zrg:=tw rfl rfl (by decide)
theorem Ydt:TokW Ydn:=tw rfl rfl (by decide)
theorem Ydu:TokW Zsw:=tw rfl rfl (by decide)
theorem Z8f:TokW Zkx:=tw rfl rfl (by decide)
theorem Yh9:TokW sMul:=tw rfl rfl (by decide)
theorem Ydv:TokW Zrk:=tw rfl rfl (by decide)
theorem Ykq:TokW sLb:=tw rfl rfl (by decide)
theorem Ykr:TokW sRb:=tw rfl rfl (by decide)
theorem Yks:TokW sIf:=tw rfl rfl (by decide)
theorem Ybm:TokW sPer:=tw rfl rfl (by decide)
theorem Ykt:TokW sIs:=tw rfl rfl (by decide)
theorem Yku:TokW sIn:=tw rfl rfl (by decide)
theorem Yia:TokW sPay:=tw rfl rfl (by decide)
theorem Yib:TokW sFor:=tw rfl rfl (by decide)
theorem Z2c:TokW Zsc:=tw rfl rfl (by decide)
theorem Z2d:TokW V0:=tw rfl rfl (by decide)
theorem Ydw:TokW Zlr:=tw rfl rfl (by decide)
theorem Yic:TokW sAnd:=tw rfl rfl (by decide)
theorem Zo3{k:WK} {i:Nat} (h:i<k.words.length):TokW (k.words.getD i []):=Zjb (Yf8 h)
theorem Yid{a b c d:Int} (h:Zcg [a,b,c,d]=ac):AllW (txU [a,b,c,d]):=by
 rcases unF h with⟨_,I⟩|⟨i,hi,_,I⟩|⟨j,J,_,I⟩|⟨i,hi,j,J,_,I⟩
 ·rw[I];exact Yj
 ·rw[I];exact Zj (Zo3 (k:= .un) hi) Yj
 ·rw[I];exact Zj Ybm (Zj (Zo3 (k:= .un) J) Yj)
 ·rw[I];exact Zj (Zo3 (k:= .un) hi) (Zj Ybm (Zj (Zo3 (k:= .un) J) Yj))
theorem Zu2{op least:Int} {t:List (List Nat)} (h:AllW t):AllW (par op least t):=by
 unfold par;split
 ·exact h
 ·exact Zj Zse (V7 h (Zj Zmh Yj))
theorem Z2e:∀{ts:List (List (List Nat))} {I:List (List Nat)},(∀t∈ts,AllW t)->AllW I->AllW (txS ts I)
 | [],_,_,_=>by unfold txS;exact Yj
 |t::r,[],_,_=>by unfold txS;exact Yj
 |t::r,s::I,J,R=>by
  unfold txS
  exact V7 (J t (by simp)) (Zj (R s (by simp)) (Z2e (λt U=>J t (by simp[U])) λw hw=>R w (by simp[hw])))
theorem Z2f:∀{l:List Ex} {t:List (List Nat)},t∈txL l->∃x∈l,t=txX x
 | [],t,h=>by cases h
 |x::r,t,h=>by
  unfold txL at h
  rcases aL.1 h with rfl|h
  ·exact⟨x,by simp,rfl⟩
  ·obtain⟨y,I,e⟩:=Z2f h
   exact⟨y,by simp[I],e⟩
theorem Yie:∀(x:Ex),Zn x=ac->AllW (txX x):=by
 suffices H:∀(m:Nat) (x:Ex),x.sz<=m->Zn x=ac->AllW (txX x) fromλx=>H _ x (aw _)
 intro m
 induction m with
 |zero=>intro x h;have:=x.sz_pos;omega
 |succ m ih=>
  intro x hm R;rw[Zde,aq] at R;obtain⟨hh,hl⟩:=R;have a0:∀y∈x.l,AllW (txX y):=λy hy=>ih y (by have:=Ex.sz_mem hy;omega) (formL_iff.1 hl y hy);obtain⟨op,n,a,b,c,d,l⟩:=x;simp only[aJ,bW,Ex.u,bx,bA,bB,bC,bw] at hh a0;obtain⟨h1,h2,h3,J,h5,h6,h7⟩:=Zkq hh;have I:∀t∈txL l,AllW t:=by
   intro t ht;obtain⟨x,hx,rfl⟩:=Z2f ht;exact a0 x hx
  have U:∀i,AllW ((txL l).getD i []):=by
   intro i;by_cases hi:i<(txL l).length
   ·have:(txL l).getD i []=(txL l)[i]:=by simp[ah,hi]
    rw[this];exact I _ (gn hi)
   ·have:(txL l).getD i []= []:=by simp[ah,hi]
    rw[this];exact Yj
  rw[txX];unfold txN;split
  ·rename_i q
   subst q;exact Zj (Zgo h3 J) (Yid h6)
  ·split
   ·rename_i q
    subst q;have:n<=15:=J;exact Zj (Zo3 (k:= .at_) (show n.toNat<16 by omega)) Yj
   ·split
    ·exact Zj Yks (Zj Zse (Z2e I (Zj Yds (Zj Zmi (Zj Zmi (Zj Zmh Yj))))))
    ·split
     ·refine V7 (Zu2 (U 0)) (Zj ?_ (Zu2 (U 1)))
      unfold sgnO;split
      ·exact Ydu
      ·split
       ·exact Z8f
       ·exact Yh9
     ·exact Zj (Zo3 (k:= .ca) (show(op-6).toNat<5 by omega)) (Zj Zse (Z2e I (Zj Zmi (Zj Zmh Yj))))
theorem Yif{w:Tst} (h:Yr w=ac):AllW (txW w):=by
 obtain⟨a0,a1,I,J,R,U⟩:=Zfl h;unfold txW;refine Zj (Zo3 (k:= .at_) (show w.attr.toNat<16 by omega)) ?_;split
 ·exact Zj Ykt (Zj (Zgo I J) Yj)
 ·exact Zj Yku (Zj (Zgo I J) (Zj Ydv (Zj (Zgo R U) Yj)))
theorem Z2g:∀{ws:List Tst} (i:Nat),(∀w∈ws,Yr w=ac)->AllW (txTs i ws)
 | [],_,_=>Yj
 |w::r,i,h=>by
  rw[Z1b]
  refine Zj ?_ (V7 (Yif (h w (by simp))) (Z2g _ λw I=>h w (by simp[I])))
  split
  ·exact Ydw
  ·exact Yic
theorem Yig{c:Cls} (h:W5 c=ac):AllW (txC c):=by
 obtain⟨I,J,R⟩:=Zc5 h;exact Zj Z2d (Zj (Zjb I) (V7 (Z2g _ R) (Zj Yia (V7 (Yie _ J) (Zj Ydt Yj)))))
theorem Z2h:∀{cs:List Cls} {s:List (List Nat)},CsOk s cs->AllW (txCs cs)
 | [],_,_=>Yj
 |c::r,s,h=>by
  rw[Zqj] at h
  rw[Z1c]
  exact V7 (Yig h.1) (Z2h h.2.2.2.2.2)
theorem Z8g{t:Tar} (h:Z9 t=0):AllW (Zmf t):=by
 obtain⟨I,R,U,h4,h5,J⟩:=(Zc4 t).1 h;exact Zj Z2c (Zj (Zjb I) (Zj Yib (Zj (Zo3 (k:= .ki) (show(t.for_-1).toNat<6 by omega)) (Zj Ykq (V7 (Z2h J) (Zj Ykr Yj))))))
theorem Zxy{t:Tar} (h:Z9 t≠0):U6 t=([],Z9 t):=by
 unfold U6;rw[if_pos h]
end
section
open Go
structure PcX where
 k:Nat
 r:Nat
 L:List (List Nat)
 fz:Nat
def cOfP(h:Hp thy) (v:SV thy):Nat:=match h (bOf v) with|some (.raw (.sl c _ _ _ _::_) _ _)=>c|_=>0
noncomputable def Apc:Fr thy->Hp thy->Nat->Ann thy:=λT h i=>{X:=PcX,fr:=λx=> [(0,T 0),(3,T 3),(12,T 12),(13,T 13),(14,.int ab .i64 x.k)],bl:=λx=>(bOf (T 0),.raw [.sl i 0 x.L.length 1 au] 0 au)::(i,.rows dk x.L x.fz)::blkP h (T 3),src:=λx=> [(i,1000)],md:= [bOf (T 0),cOfP h (T 0)],ih:=i+1,M:=i+60,meas:=λx=>x.r}
noncomputable def Fpc:Fns thy:=addL (addS Fpu 101 (Sxp 1000000000)) 56 3 Apc E
def clA(c:Cls):SV thy:= .agg (encF ab .clauses c)
abbrev Ze2(c:Cls):Prop:=
 aP c=aP c/\(aV c=aV c/\(ab=ac->ab=ac))/\aJ (aA c)=aJ (aA c)/\bW (aA c)=bW (aA c)/\bx
 (aA c)=bx (aA c)/\bA (aA c)=bA (aA c)/\bB (aA c)=bB (aA c)/\bC (aA c)=bC (aA c)/\(bw (aA c)=bw
 (aA c)/\(ab=ac->ab=ac))/\True
abbrev Zhb(c:Cls) (x:PcX) (I:PcX):Prop:=
 (0:Nat)=(0:Nat)/\(0:Nat)=(0:Nat)/\(aV c=aV c/\(ab=ac->ab=ac))/\(↑(aa (aV c)):Int)=(↑(aa (aV c))
 :Int)/\wr af ((↑(PcX.k x):Int)+(1:Int))=(↑(PcX.k I):Int)/\True
abbrev Zhc(c:Cls):=
 (bU (aJ (aA c)) (bW (aA c)) (bx (aA c)) (bA (aA c)) (bB (aA c)) (bC (aA c)) (bw (aA c)))
abbrev Zrp(x:PcX) (I:List Nat):Prop:=
 aa (PcX.L x)+(2:Nat)<=aa (av (aa (PcX.L x)) (PcX.L x)++ [[(119:Nat),(104:Nat),(101:Nat),(110:Nat)],I])/\PcX.fz x<=
 aa (PcX.L x)+(2:Nat)/\(aa (PcX.L x)+(2:Nat)+(1:Nat))*(16:Nat)<=(140737488355328:Nat)
abbrev Zrq(x:PcX) (I:List Nat):Prop:=
 aa (PcX.L x)+(2:Nat)<=aa (av (aa (PcX.L x)) (PcX.L x)++ [[(97:Nat),(110:Nat),(100:Nat)],I])/\PcX.fz x<=aa (PcX.L x)
 +(2:Nat)/\(aa (PcX.L x)+(2:Nat)+(1:Nat))*(16:Nat)<=(140737488355328:Nat)
abbrev Zhd(x:PcX):=
 (av (aa (PcX.L x)) (PcX.L x)++ [[(112:Nat),(97:Nat),(121:Nat)]])
abbrev Zhe(I:Tst):Prop:=
 (0:Int)<=fa I/\fa I+(1:Int)<=(10000000000000:Int)
abbrev Zhf(x:PcX):=
 (aa (PcX.L x)+(2:Nat)+(1:Nat)+(1:Nat)+(1:Nat))
abbrev Zrr(x:PcX):Prop:=
 aa (PcX.L x)<=aa (PcX.L x)/\PcX.fz x<=aa (PcX.L x)/\(aa (PcX.L x)+(2:Nat))*(16:Nat)<=(140737488355328:Nat)
abbrev Zrs(x:PcX) (I:PcX):Prop:=
 ((0:Nat)=(0:Nat)/\aa (PcX.L x)+(2:Nat)+(1:Nat)+(1:Nat)+(1:Nat)+(1:Nat)=aa (PcX.L I)/\True)/\True
abbrev Zlu(x:PcX) (I:PcX):Prop:=
 ((0:Nat)=(0:Nat)/\aa (PcX.L x)+(2:Nat)+(1:Nat)+(1:Nat)=aa (PcX.L I)/\True)/\True
abbrev qCM7(I:PcX) (J:List Nat):=(av (aa (PcX.L I)) (PcX.L I)++ [[(119:Nat),(104:Nat),(101:Nat),(110:Nat)],J])
abbrev qCM8:=(2:Nat)
abbrev qCMc(I:PcX):=(aa (PcX.L I)+qCM8)
abbrev qCM1(I:PcX) (J:List Nat):=(av (qCMc I) (qCM7 I J)++ [[(105:Nat),(110:Nat)]])
abbrev qCM9(I:PcX) (J:List Nat):=(av (aa (PcX.L I)) (PcX.L I)++ [[(97:Nat),(110:Nat),(100:Nat)],J])
abbrev qCM2(I:PcX) (J:List Nat):=(av (qCMc I) (qCM9 I J)++ [[(105:Nat),(110:Nat)]])
abbrev qCM3:=(1:Nat)
abbrev qCM4(I:PcX):=(aa (PcX.L I)+qCM8+qCM3+qCM3)
abbrev qCM5(I:PcX):=(aa (PcX.L I)+qCM8+qCM3)
abbrev qCM6:=(140737488355328:Nat)
abbrev qCMa(I:Cls):=(↑(aa (aV I)):Int)
abbrev qCMb(I:PcX):=(↑(PcX.k I):Int)
abbrev qCMd(I:PcX):=(ae (av (aa (PcX.L I)) (PcX.L I)++ [[(112:Nat),(97:Nat),(121:Nat)]],PcX.fz I))
abbrev qCMe:=(16:Nat)
abbrev qCMf:=(1:Int)
abbrev qCMg(I:Tst):=((0:Int)<=fb I/\fb I+qCMf<=(10000000000000:Int))
abbrev qCMh:=(0:Nat)
theorem Z1f(l:List (List Nat)) (fz:Nat) (c:Cls) (l':List (List Nat)):Zk E Fpc (vc E Fpc 400) 56 [.ptr 0 0,clA c] (hpP E dk (ae (l,fz))) 2 (prnK E dk (ae (l,fz)) l')=(
 (aa l<=aa l/\fz<=aa l/\(aa l+qCM8)*qCMe<=qCM6)/\∃(R:PcX->Prop),(∃(x:PcX),R x/\ac=ac/\(qCMh=qCMh/\qCMh=qCMh/\(aV c=aV c/\(ab=ac->ab=ac))/\(qCMa c)=(qCMa c)/\(0:Int)=(qCMb x)/\True)/\((qCMh=qCMh/\aa l+qCM8=aa (PcX.L x)/\True)/\True)/\(av (aa l) l++ [[(99:Nat),(108:Nat),(97:Nat),(117:Nat),(115:Nat),(101:Nat)],aP c]=PcX.L x/\fz=PcX.fz x)/\(Ze2 c)/\True)/\∀(x:PcX),R x->(decide ((qCMb x)<(qCMa c))=ac->(0:Int)<=(qCMb x)/\(qCMb x)+qCMf<=(qCMa c)/\∀(I:Tst),(aV c)[ag (qCMb x)]? =ae I->(0:Int)<=mm2 ab (qCMb x) qCMf/\mm2 ab (qCMb x) qCMf+qCMf<=(↑qCM8:Int)/\((mm2 ab (qCMb x) qCMf==(↑qCMh:Int))=ac->(0:Int)<=dP I/\dP I+qCMf<=(↑(aa (WK.words WK.at_)):Int)/\∀(U:List Nat),(WK.words WK.at_)[ag (dP I)]? =ae U->(Zrr x)/\((fa I==fb I)=ac->(Zrp x U)/\(Zhe I)/\∀(y:List Nat),y=decN (fa I)->(aa (PcX.L x)+qCM8+qCM3<=aa (av (qCMc x) (qCM7 x U)++ [[(105:Nat),(115:Nat)]])/\PcX.fz x<=aa (PcX.L x)+qCM8+qCM3/\(qCM4 x)*qCMe<=qCM6)/\∃(J:PcX),R J/\J.2+qCM3<=x.2/\ac=ac/\(Zhb c x J)/\(Zlu x J)/\(av (qCM5 x) (av (qCMc x) (qCM7 x U)++ [[(105:Nat),(115:Nat)]])++ [y]=PcX.L J/\PcX.fz x=PcX.fz J)/\(Ze2 c)/\True)/\((fa I==fb I)=ab->(Zrp x U)/\(Zhe I)/\∀(y:List Nat),y=decN (fa I)->(aa (PcX.L x)+qCM8+qCM3<=aa (qCM1 x U)/\PcX.fz x<=aa (PcX.L x)+qCM8+qCM3/\(qCM4 x)*qCMe<=qCM6)/\(aa (PcX.L x)+qCM8+qCM3+qCM3<=aa (av (qCM5 x) (qCM1 x U)++ [y])/\PcX.fz x<=aa (PcX.L x)+qCM8+qCM3+qCM3/\(Zhf x)*qCMe<=qCM6)/\(qCMg I)/\∀(a1:List Nat),a1=decN (fb I)->(aa (PcX.L x)+qCM8+qCM3+qCM3+qCM3<=aa (av (qCM4 x) (av (qCM5 x) (qCM1 x U)++ [y])++ [[(46:Nat),(46:Nat)]])/\PcX.fz x<=aa (PcX.L x)+qCM8+qCM3+qCM3+qCM3/\(aa (PcX.L x)+qCM8+qCM3+qCM3+qCM3+qCM3)*qCMe<=qCM6)/\∃(J:PcX),R J/\J.2+qCM3<=x.2/\ac=ac/\(Zhb c x J)/\(Zrs x J)/\(av (Zhf x) (av (qCM4 x) (av (qCM5 x) (qCM1 x U)++ [y])++ [[(46:Nat),(46:Nat)]])++ [a1]=PcX.L J/\PcX.fz x=PcX.fz J)/\(Ze2 c)/\True))/\((mm2 ab (qCMb x) qCMf==(↑qCMh:Int))=ab->((mm2 ab (qCMb x) qCMf==(↑(qCMh+qCM3):Int))=ac->(0:Int)<=dP I/\dP I+qCMf<=(↑(aa (WK.words WK.at_)):Int)/\∀(U:List Nat),(WK.words WK.at_)[ag (dP I)]? =ae U->(Zrr x)/\((fa I==fb I)=ac->(Zrq x U)/\(Zhe I)/\∀(y:List Nat),y=decN (fa I)->(aa (PcX.L x)+qCM8+qCM3<=aa (av (qCMc x) (qCM9 x U)++ [[(105:Nat),(115:Nat)]])/\PcX.fz x<=aa (PcX.L x)+qCM8+qCM3/\(qCM4 x)*qCMe<=qCM6)/\∃(J:PcX),R J/\J.2+qCM3<=x.2/\ac=ac/\(Zhb c x J)/\(Zlu x J)/\(av (qCM5 x) (av (qCMc x) (qCM9 x U)++ [[(105:Nat),(115:Nat)]])++ [y]=PcX.L J/\PcX.fz x=PcX.fz J)/\(Ze2 c)/\True)/\((fa I==fb I)=ab->(Zrq x U)/\(Zhe I)/\∀(y:List Nat),y=decN (fa I)->(aa (PcX.L x)+qCM8+qCM3<=aa (qCM2 x U)/\PcX.fz x<=aa (PcX.L x)+qCM8+qCM3/\(qCM4 x)*qCMe<=qCM6)/\(aa (PcX.L x)+qCM8+qCM3+qCM3<=aa (av (qCM5 x) (qCM2 x U)++ [y])/\PcX.fz x<=aa (PcX.L x)+qCM8+qCM3+qCM3/\(Zhf x)*qCMe<=qCM6)/\
(qCMg I)/\∀(a1:List Nat),a1=decN (fb I)->(aa (PcX.L x)+qCM8+qCM3+qCM3+qCM3<=aa (av (qCM4 x) (av (qCM5 x) (qCM2 x U)++ [y])++ [[(46:Nat),(46:Nat)]])/\PcX.fz x<=aa (PcX.L x)+qCM8+qCM3+qCM3+qCM3/\(aa (PcX.L x)+qCM8+qCM3+qCM3+qCM3+qCM3)*qCMe<=qCM6)/\∃(J:PcX),R J/\J.2+qCM3<=x.2/\ac=ac/\(Zhb c x J)/\(Zrs x J)/\(av (Zhf x) (av (qCM4 x) (av (qCM5 x) (qCM2 x U)++ [y])++ [[(46:Nat),(46:Nat)]])++ [a1]=PcX.L J/\PcX.fz x=PcX.fz J)/\(Ze2 c)/\True))/\((mm2 ab (qCMb x) qCMf==(↑(qCMh+qCM3):Int))=ab->True)))/\(decide ((qCMb x)<(qCMa c))=ab->(aa (PcX.L x)<=aa (PcX.L x)/\PcX.fz x<=aa (PcX.L x)/\(aa (PcX.L x)+qCM3)*qCMe<=qCM6)/\(aa (PcX.L x)+qCM3=aa (Zhd x)/\PcX.fz x<=aa (Zhd x)/\Ex.sz (Zhc c)+qCM3<=(1000000000:Nat)/\Zn (Zhc c)=ac/\qCM3<=aa (Zhd x)/\aa (Zhd x)+(8:Nat)*Ex.sz (Zhc c)+(8:Nat)<=(1000000000:Nat))/\∀(a0:List (List Nat)),a0=av (aa (PcX.L x)) (PcX.L x)++ [[(112:Nat),(97:Nat),(121:Nat)]]++txX (Zhc c)->(aa a0<=aa a0/\fzO (qCMd x)<=aa a0/\(aa a0+qCM3)*qCMe<=qCM6)/\av (aa a0) a0++ [[(59:Nat)]]=l'/\aa a0+qCM3=aa l'/\fzO (qCMd x)=fzO (ae (l,fz)))):=by kernel_rfl
theorem Zoi:∀(a:List Tst) (i:Nat) (w:Tst),txTs i (a++ [w])=txTs i a++((if a.length+i=0 then Zlr else sAnd)::txW w)
 | [],i,w=>by simp[txTs]
 |x::r,i,w=>by
  rw[dc]
  simp only[txTs]
  rw[Zoi r (i+1) w]
  have e:(r.length+(i+1)=0)=((x::r).length+i=0):=by simp
  simp only[e,bE,dc]
theorem Yc1(w:Tst):(txW w).length<=5:=by
 unfold txW;split<;>simp
theorem Zlv:∀(l:List Tst) (i:Nat),(txTs i l).length<=6*l.length
 | [],_=>by simp[txTs]
 |w::r,i=>by
  have:=Zlv r (i+1)
  have:=Yc1 w
  simp[txTs]
  omega
def PclP(l:List (List Nat)) (c:Cls):Prop:=W5 c=ac/\c.pay.sz<1000000000/\1<=l.length/\l.length+8*c.pay.sz+6*c.when_.length+20<=1000000000
theorem Yho:FnsOk E Fpc:=Zm E_ok (Zb Zvk (Z3t (Zu9 1000000000))) _ _ _
theorem Yc2(c:Cls) (l:List (List Nat)) (fz:Nat) (hf:fz<=l.length) (h:PclP l c):PrnC E 56 dk [clA c] (ae (l,fz)) (l++txC c):=by
 refine Z3q Yho (n:=400) rfl ?_;rw[Z1f];delta qCM7 qCM8 qCMc qCM1 qCM9 qCM2 qCM3 qCM4 qCM5 qCM6 qCMa qCMb qCMd qCMe qCMf qCMg qCMh;unfold Zlu Zrs Zrr Zhf Zhe Zhd Zrq Zrp Zhc Zhb Ze2;obtain⟨h1,h2,h3,h4⟩:=h;obtain⟨-,g2,g3⟩:=Zc5 h1;have L:WK.at_.words.length=16:=rfl;simp only[fzO,aW,Ex.eta,forall_eq,beq_iff_eq,beq_eq_false_iff_ne,ne_eq,and_true,true_and,imp_self,decide_eq_true_eq,decide_eq_false_iff_not]
 refine⟨⟨aw _,hf,by omega⟩,λx=>x.k<=c.when_.length/\x.fz=fz/\x.L=l++ [V0,c.name]++txTs 0 (c.when_.take x.k)/\x.r=c.when_.length-x.k,⟨⟨0,c.when_.length,l++ [V0,c.name],fz⟩,⟨by dsimp only;omega,rfl,by simp[txTs],rfl⟩,by simp,by simp,by simp[V0]⟩,?_⟩;rintro⟨k,r,Lx,R⟩ ⟨k1,k2,k3,k4⟩;simp only at k1 k2 k3 k4⊢;subst k2 k4;have tl:=Zlv (c.when_.take k) 0;have tl2:(c.when_.take k).length<=c.when_.length:=by simp;omega
 have hL:Lx.length=l.length+2+(txTs 0 (c.when_.take k)).length:=by rw[k3];simp;omega
 refine aB (λhq=>⟨by omega,by omega,λw hw=> ?_⟩) (λhq=> ?_)
 ·have hw:c.when_[k]? =ae w:=hw
  have hq:k<c.when_.length:=by omega
  obtain⟨t1,t2,t3,t4,t5,t6⟩:=Zfl (g3 w (aI hw));have ek:c.when_.take (k+1)=c.when_.take k++ [w]:=by rw[cz,hw];rfl
  have tw:(c.when_.take k).length=k:=by simp;omega
  have hm:(0:Int)<=mm2 ab (↑k:Int) (1:Int)/\mm2 ab (↑k:Int) (1:Int)+1<=2:=by
   rw[Yn];omega
  have st:txTs 0 (c.when_.take (k+1))=txTs 0 (c.when_.take k)++((if k=0 then Zlr else sAnd)::txW w):=by rw[ek,Zoi,tw,dO]
  have wx:∀I,WK.at_.words[w.attr.toNat]? =ae I->txW w=I::(if w.low=w.high then[sIs,decN w.low] else[sIn,decN w.low,Zrk,decN w.high]):=by
   intro I h;unfold txW;rw[bu,h];rfl
  have E1:∀s I,(if k=0 then Zlr else sAnd)=s->WK.at_.words[w.attr.toNat]? =ae I->w.low=w.high->Lx++ [s,I]++ [[105,115]]++ [decN w.low]=l++ [V0,c.name]++txTs 0 (c.when_.take (k+1)):=by
   intro s I U h e;rw[k3,st,U,wx I h,if_pos e];simp[sIs]
  have E2:∀s I,(if k=0 then Zlr else sAnd)=s->WK.at_.words[w.attr.toNat]? =ae I->¬w.low=w.high->Lx++ [s,I]++ [[105,110]]++ [decN w.low]++ [[46,46]]++ [decN w.high]=l++ [V0,c.name]++txTs 0 (c.when_.take (k+1)):=by
   intro s I U h e;rw[k3,st,U,wx I h,if_neg e];simp[sIn,Zrk]
  have T1:∀a b,av (Lx.length+2) (Lx++ [a,b])=Lx++ [a,b]:=λa b=>bg (by simp);have T2:∀a b c,av (Lx.length+2+1) (Lx++ [a,b]++ [c])=Lx++ [a,b]++ [c]:=λa b c=>bg (by simp);have T3:∀a b c d,av (Lx.length+2+1+1) (Lx++ [a,b]++ [c]++ [d])=Lx++ [a,b]++ [c]++ [d]:=λa b c d=>bg (by simp);have T4:∀a b c d e,av (Lx.length+2+1+1+1) (Lx++ [a,b]++ [c]++ [d]++ [e])=Lx++ [a,b]++ [c]++ [d]++ [e]:=λa b c d e=>bg (by simp)
  have wk:wr af ((k:Int)+1)=((k+1:Nat):Int):=(wr64 (by omega) (by omega)).trans (by omega);simp only[T1,T2,T3,T4];have m0:(mm2 ab (k:Int) 1=((0:Nat):Int))=(k=0):=by rw[Yn];exact propext (by omega)
  have go:∀s I,(if k=0 then Zlr else sAnd)=s->WK.at_.words[w.attr.toNat]? =ae I->
   (w.low=w.high->∃J:PcX,(J.k<=c.when_.length/\J.fz=R/\J.L=l++ [V0,c.name]++txTs 0 (av J.k c.when_)/\J.r=c.when_.length-J.k)/\J.r+1<=c.when_.length-k/\wr af ((k:Int)+1)=(J.k:Int)/\Lx.length+2+1+1=J.L.length/\Lx++ [s,I]++ [[105,115]]++ [decN w.low]=J.L/\R=J.fz)/\
   (¬w.low=w.high->∃J:PcX,(J.k<=c.when_.length/\J.fz=R/\J.L=l++ [V0,c.name]++txTs 0 (av J.k c.when_)/\J.r=c.when_.length-J.k)/\J.r+1<=c.when_.length-k/\wr af ((k:Int)+1)=(J.k:Int)/\Lx.length+2+1+1+1+1=J.L.length/\Lx++ [s,I]++ [[105,110]]++ [decN w.low]++ [[46,46]]++ [decN w.high]=J.L/\R=J.fz):=by
   intro s I U h;refine aB (λe=> ?_) (λe=> ?_)
   ·have:=E1 s I U h e
    have h2:=congrArg aa this;refine⟨⟨k+1,c.when_.length-(k+1),l++ [V0,c.name]++txTs 0 (c.when_.take (k+1)),R⟩,⟨hq,rfl,rfl,rfl⟩,(by dsimp only;omega),wk,?_,this,rfl⟩;dsimp only;rw[<-h2];simp
   ·have:=E2 s I U h e
    have h2:=congrArg aa this;refine⟨⟨k+1,c.when_.length-(k+1),l++ [V0,c.name]++txTs 0 (c.when_.take (k+1)),R⟩,⟨hq,rfl,rfl,rfl⟩,(by dsimp only;omega),wk,?_,this,rfl⟩;dsimp only;rw[<-h2];simp
  rw[m0];refine⟨hm.1,hm.2,λh0=>⟨t1,by rw[L];omega,λI a0=> ?_⟩,λh0=>⟨λh1=>⟨t1,by rw[L];omega,λI a0=> ?_⟩,λ_=>trivial⟩⟩
  ·obtain⟨g1,g2⟩:=go [119,104,101,110] I (by rw[if_pos h0];rfl) a0
   refine⟨⟨aw _,by omega,by omega⟩,λe=> ?_,λe=> ?_⟩
   ·exact⟨⟨by simp,by omega,by omega⟩,⟨t3,by omega⟩,⟨by simp,by omega,by omega⟩,g1 e⟩
   ·exact⟨⟨by simp,by omega,by omega⟩,⟨t3,by omega⟩,⟨by simp,by omega,by omega⟩,⟨by simp,by omega,by omega⟩,⟨t5,by omega⟩,⟨by simp,by omega,by omega⟩,g2 e⟩
  ·obtain⟨g1,g2⟩:=go [97,110,100] I (by rw[if_neg h0];rfl) a0
   refine⟨⟨aw _,by omega,by omega⟩,λe=> ?_,λe=> ?_⟩
   ·exact⟨⟨by simp,by omega,by omega⟩,⟨t3,by omega⟩,⟨by simp,by omega,by omega⟩,g1 e⟩
   ·exact⟨⟨by simp,by omega,by omega⟩,⟨t3,by omega⟩,⟨by simp,by omega,by omega⟩,⟨by simp,by omega,by omega⟩,⟨t5,by omega⟩,⟨by simp,by omega,by omega⟩,g2 e⟩
 ·have ek:k=c.when_.length:=by omega
  have tx:=Xm c.pay;have e1:Lx++ [[112,97,121]]++txX c.pay++ [[59]]=l++txC c:=by
   rw[k3,ek,aW];unfold txC;simp[sPay,Ydn]
  have e2:=congrArg aa e1;simp only[aC,aD,bh] at e2⊢;exact⟨⟨aw _,by omega,by omega⟩,⟨trivial,by omega,by omega,g2,by omega,by omega⟩,⟨aw _,by omega,by omega⟩,e1,by omega,trivial⟩
end
section
open Go
theorem Zpb{f:FuncId} {args:List (SV thy)} {v:SV thy} (h:∀(g:GH) (w:World) (R:Array Value),Inv E w.heap.size σ0 hp0 g w->DenL E σ0 g args R.toList->Calls E.P f R w λen w'=>∃u,en= .returned u/\Den E σ0 g v u/\Ext w w'):PureC E f args v:=by
 intro g w R J hd;refine(h g w R J hd).mono ?_;rintro en w' ⟨u,he,hv,I⟩;refine⟨u,he,g,⟨.refl _,λb p h=> .inl h,.refl _,λ_ _ _ h=> .inl h,λ_ _ h=> .inl h,λr hr _=>I.block hr,I.size,I.os,I.tape,I.output,λb r z h1 h2=>by cases h2⟩,?_,hv⟩;refine⟨λr o u hu=>I.cell (J.gc r o u hu),λr es hu=> ?_,(λb x I=>by cases I),λb b' r z z' h1=>absurd rfl h1,(λb r z hs=>by cases hs),(λb x r z o v I=>by cases I),(λb x r z I=>by cases I),J.glob⟩;obtain⟨c,U⟩:=J.gm r es hu;have hr:r<w.heap.size:=by
  rcases fp r w.heap.size with h|h
  ·exact h
  ·rw[Array.getElem?_eq_none h] at U;cases U
 exact⟨c,by rw[I.block hr];exact U⟩
end
section
open Go
theorem Yjm:Builder.Extra Tryz.prog Tryz.lays156_ren where
 sizeBuilder:=by kernel_rfl
 liesBuilder:=by kernel_rfl
 t5:=Tryz.underlying5
 a5:=Tryz.isAgg5
 z5:=Tryz.sizeOf5
 v5:=Tryz.zeroValue5
 infoByte:=by kernel_rfl
 cellsByte:=by kernel_rfl
 sizeByte:=by kernel_rfl
 neB5:=by decide
theorem Zv9:∀{l:List (List Nat)},(∀y∈l,toL (mkS y)=y)->(Lib.join ((l.map mkS).map (·.data.toList)) (mkS [32]).data.toList).map cQ=Zb8 l
 | [],_=>rfl
 | [x],h=>by
  rw[cg,dI,cg,dI,Lib.join_one]
  exact h x (by simp)
 |x::y::r,h=>by
  have U:=Zv9 (l:=y::r) (λz I=>h z (by simp at I⊢;exact .inr I))
  have R:=h x (by simp)
  rw[Zko (by simp),<-U]
  rw[cg,cg,Lib.join_cons,cg,cg,Lib.join_cons,gy]
  unfold Lib.joinTail
  rw[cg,List.flatten_cons]
  have e:((mkS x).data.toList).map cQ=x:=R
  rw[e]
  have J:(mkS [32]).data.toList= [32]:=rfl
  rw[J]
  simp only[gy,cg,dI,bE]
  rfl
theorem Z5f(l:List (List Nat)) (h1:l.length<=1000000000) (h2:(Zb8 l).length<=1000000000):PureC E 57 [.psl dk l ab,.str ab [32]] (.str ab (Zb8 l)):=by
 refine Zpb λg w a7 hI hd=> ?_;obtain⟨u,v,rfl,hu,hv⟩:=Yh8 hd;cases hv;rename_i a6 a5;have hs:a6=mkS [32]:=by rw[<-a5,Zc2]
 subst hs;obtain⟨base,c,cv,rfl,hl,hm,hf,hn,R,a4⟩:=Vb hu;rcases ie l.length with J|J
 ·have e:l= []:=List.length_eq_zero_iff.1 J
  subst e;refine(Any.strings_Join_none Tryz.lays156 Yjm base c (mkS [32]) w).mono ?_;rintro e w' ⟨rfl,rfl⟩;exact⟨_,rfl,.str _ rfl,Go.RowKit.Below.refl _ _⟩
 ·obtain⟨r,o,rfl,hc⟩:=R J
  have W1:E.w dk=1:=rfl;have key:∀i x,l[i]? =ae x->w.cell? ⟨r,o+i,au⟩=ae (.string (mkS x))/\toL (mkS x)=x:=by
   intro i x I;have a1:=hc i x I 0 (by show 0<1;decide);have a2:=a4 i x I 0 (.str ab x) rfl;rw[W1,jm,dO] at a1;have a3:=hI.gc _ _ _ a1;generalize hq:cv i 0=q at a2 a3;cases a2;rename_i b R;subst R;rw[Zc2];exact⟨a3,rfl⟩
  have a0:∀y∈l,toL (mkS y)=y:=λy U=>by
   obtain⟨i,hi,rfl⟩:=List.getElem_of_mem U;exact(key i _ (ai hi)).2
  have hr:r<w.heap.size:=by
   have:=(key 0 _ (ai J)).1;rcases fp r w.heap.size with h|h
   ·exact h
   ·unfold World.cell? at this
    simp only at this;rw[Array.getElem?_eq_none h] at this;cases this
  have hj:=Zv9 a0
  have:=Any.strings_Join Tryz.lays156 Yjm r o c (l.map mkS) (mkS [32]) w (λj x I=>by
   rw[List.getElem?_map] at I;obtain⟨y,U,rfl⟩:=Option.map_eq_some_iff.1 I;exact(key j y U).1) hr (by rw[gA];omega) (by rw[gA];exact hl) (by
   rw[<-hj,gA] at h2
   omega)
  rw[gA] at this;refine Calls.mono this ?_;rintro e w' ⟨rfl,hw⟩;refine⟨_,rfl,.str _ ?_,hw⟩;unfold toL;exact hj
end
section
open Go
noncomputable def dCl1:DcL E (Cls×Unit):= .cons dCl .nil
noncomputable def Spc:Sum thy:=sumB E dk dCl1 (λl x=>PclP l x.1) λ(l:List (List Nat)) x=>l++txC x.1
theorem Yhl:SumOk E 56 Spc:=Zez E_ok (Zc rfl) λx=>⟨λl fz J I=>Yc2 x.1 l fz J I,λI=>absurd I.2.2.1 (by decide)⟩
noncomputable def Ykm:DcL E (List (List Nat)×List Nat×Unit):= .cons (Ze4 (E:=E) dk:Dc E (List (thy.dom dk))) (.cons dS .nil)
noncomputable def Yhm:Sum thy:=Zql E (λ_=>au) 10 (Wf Ykm (λx=>(x.2.1= [32]/\x.1.length<=1000000000)/\(Zb8 x.1).length<=1000000000) (λx=>Zb8 x.1) λy=> .str ab y)
noncomputable def Apr:Fr thy->Hp thy->Nat->Ann thy:=λT h i=>{X:=PcX,fr:=λx=> [(1,T 1),(5,T 5),(28,T 28),(29,T 29),(30,.int ab .i64 x.k)],bl:=λx=>(bOf (T 5),.raw [.sl i 0 x.L.length 1 au] 0 au)::(i,.rows dk x.L x.fz)::blkP h (T 1),src:=λx=> [(i,1005)],md:= [bOf (T 5),cOfP h (T 5)],ih:=i+1,M:=i+60,meas:=λx=>x.r}
noncomputable def Fpr:Fns thy:=addL (addS (addS (addS (addS F0 55 Zm2) 57 Yhm) 53 Z4h) 56 Spc) 23 7 Apr E
abbrev qCP1(I:Cls):=(bU (aJ (aA I)) (bW (aA I)) (bx (aA I)) (bA (aA I)) (bB (aA I)) (bC (aA I)) (bw (aA I)))
abbrev qCP5:=(0:Nat)
abbrev qCP2(I:PcX):=(av (aa (PcX.L I)+(1:Nat)) (cj qCP5 (av (aa (PcX.L I)) (PcX.L I)++ [[(125:Nat)]])))
abbrev qCP3(I:Tar):=(↑(aa (ar I)):Int)
abbrev qCP4(I:Tar):=(ar I=ar I/\(ab=ac->ab=ac))
abbrev qCP6(I:PcX):=(↑(PcX.k I):Int)
theorem Zxi(t:Tar) (s:List Nat) (e:Int):Zk E Fpr (vc E Fpr 400) 23 [.agg (encF ab .tariffs t)] hp0 0 (λr=>ret E (patch hp0 0 r) r.v (.tup [.str ab s,.int ab .i64 e]))=(
 ((∀(c:Cls),c∈ar t->Ex.sz (aA c)+(1:Nat)<=(1000000000000:Nat)/\aa (aV c)+(1:Nat)<=(1000000000000:Nat))/\aa (ar t)+(1:Nat)<=(1000000000000:Nat))/\((Z9 t !=(0:Int))=ac-> []=s/\Z9 t=e/\True)/\((Z9 t !=(0:Int))=ab->(0:Int)<=wr af (bI t-(1:Int))/\wr af (bI t-(1:Int))+(1:Int)<=(↑(aa (WK.words WK.ki)):Int)/\∀(x:List Nat),(WK.words WK.ki)[ag (wr af (bI t-(1:Int)))]? =ae x->∃(R:PcX->Prop),(∃(I:PcX),R I/\ac=ac/\(qCP5=qCP5/\qCP5=qCP5/\(qCP4 t)/\(qCP3 t)=(qCP3 t)/\(0:Int)=(qCP6 I)/\True)/\((qCP5=qCP5/\(5:Nat)=aa (PcX.L I)/\True)/\True)/\([[(116:Nat),(97:Nat),(114:Nat),(105:Nat),(102:Nat),(102:Nat)],bN t,[(102:Nat),(111:Nat),(114:Nat)],x,[(123:Nat)]]=PcX.L I/\qCP5=PcX.fz I)/\(bN t=bN t/\bI t=bI t/\(qCP4 t)/\True)/\True)/\∀(x:PcX),R x->(decide ((qCP6 x)<(qCP3 t))=ac->(0:Int)<=(qCP6 x)/\(qCP6 x)+(1:Int)<=(qCP3 t)/\∀(I:Cls),(ar t)[ag (qCP6 x)]? =ae I->(aa (PcX.L x)=aa (PcX.L x)/\PcX.fz x<=aa (PcX.L x)/\W5 (eP (aP I) (aV I) (qCP1 I))=ac/\Ex.sz (qCP1 I)+(1:Nat)<=(1000000000:Nat)/\(1:Nat)<=aa (PcX.L x)/\aa (PcX.L x)+(8:Nat)*Ex.sz (qCP1 I)+(6:Nat)*aa (aV I)+(20:Nat)<=(1000000000:Nat))/\∀(U:List (List Nat)),U=PcX.L x++txC (eP (aP I) (aV I) (qCP1 I))->∃(J:PcX),R J/\J.2+(1:Nat)<=x.2/\ac=ac/\(qCP5=qCP5/\qCP5=qCP5/\(qCP4 t)/\(qCP3 t)=(qCP3 t)/\wr af ((qCP6 x)+(1:Int))=(qCP6 J)/\True)/\((qCP5=qCP5/\aa U=aa (PcX.L J)/\True)/\True)/\(U=PcX.L J/\fzO (ae (PcX.L x,PcX.fz x))=PcX.fz J)/\(bN t=bN t/\bI t=bI t/\(qCP4 t)/\True)/\True)/\(decide ((qCP6 x)<(qCP3 t))=ab->(aa (PcX.L x)<=aa (PcX.L x)/\PcX.fz x<=aa (PcX.L x)/\(aa (PcX.L x)+(1:Nat))*(16:Nat)<=(140737488355328:Nat))/\qCP5+(aa (PcX.L x)+(1:Nat))<=aa (av (aa (PcX.L x)) (PcX.L x)++ [[(125:Nat)]])/\(([(32:Nat)]= [(32:Nat)]/\aa (qCP2 x)<=(1000000000:Nat))/\aa (Zb8 (qCP2 x))<=(1000000000:Nat))/\∀(y:List Nat),y=Zb8 (qCP2 x)->(decide ((↑(aa y):Int)>(2000:Int))=ac-> []=s/\(2:Int)=e/\True)/\(decide ((↑(aa y):Int)>(2000:Int))=ab->y=s/\(0:Int)=e/\True)))):=by kernel_rfl
theorem Zug:∀{s:List Nat} {n m:Int},1<=n->n<=1099511627776->(∀c∈s,isD c=ac)->numL n s=(m,0)->n*10^s.length<=1099511627776
 | [],n,m,_,J,_,_=>by simpa using J
 |c::r,n,m,h1,J,hd,h=>by
  unfold numL at h
  split at h
  ·cases h
  ·rename_i hq
   have I:=hd c (by simp)
   unfold isD at I
   simp only[aq,decide_eq_true_eq] at I
   have:=Zug (by omega) (by omega) (λc I=>hd c (by simp[I])) h
   have R:n*10<=10*n+((c:Int)-48):=by omega
   have U:(0:Int)<=10^r.length:=kI (kM (by decide))
   have h3:=fA R U
   rw[aD,Int.pow_succ,Int.mul_comm (10^r.length) 10,<-Int.mul_assoc]
   omega
theorem Z7q{s:List Nat} (hd:∀c∈s,isD c=ac) (h:(numb s).2=0):s.length<=32:=by
 match s,hd,h with
 | [],_,_=>simp
 |c::r,hd,h=>
  unfold numb at h;split at h
  ·cases h
  ·rename_i hq
   cases r with
   |nil=>simp
   |cons d r=>
    have J:c≠48:=λe=>hq ⟨by simp,by rw[e];rfl⟩;have R:=hd c (by simp);unfold isD at R;simp only[aq,decide_eq_true_eq] at R;unfold numL at h;rw[if_neg (by omega)] at h;have U:numL (10*0+((c:Int)-48)) (d::r)=((numL (10*0+((c:Int)-48)) (d::r)).1,0):=Prod.ext rfl h;have:=Zug (by omega) (by omega) (λc J=>hd c (by simp[J])) U;have hp:(0:Int)<=10^(d::r).length:=kI (kM (by decide));have h3:1*(10:Int)^(d::r).length<=(10*0+((c:Int)-48))*10^(d::r).length:=fA (by omega) hp;rcases fp (d::r).length 13 with I|I
    ·simp at I⊢;omega
    ·have h4:(10:Nat)^13<=10^(d::r).length:=gN (by decide) I
     have h5:((10^(d::r).length:Nat):Int)=(10:Int)^(d::r).length:=by norm_cast
     have h6:((10^13:Nat):Int)<=((10^(d::r).length:Nat):Int):=Int.ofNat_le.2 h4;rw[h5] at h6;have h7:((10^13:Nat):Int)=10000000000000:=rfl;omega
theorem Ycw{c:Nat} {w:List Nat} (h:sgnW c=ae w):w.length<=2:=by
 unfold sgnW at h
 repeat(split at h; · cases h;decide)
 cases h
theorem TokW.len{w:List Nat} (h:TokW w):w.length<=32:=by
 obtain⟨J,I,h3⟩:=h;obtain⟨c,r,rfl⟩:=List.exists_cons_of_ne_nil h3;rw[W4] at J I;split at J
 ·rename_i R
  rw[if_pos R] at I;split at J
  ·cases J
  ·rename_i U
   rw[if_neg U] at I;have I:=congrArg aa I;rw[be] at I;omega
 ·rename_i R
  rw[if_neg R] at I;split at J
  ·rename_i hd
   rw[if_pos hd] at I;have I:(c::r).take (spn isD (c::r))=c::r:=I;have J:(numb ((c::r).take (spn isD (c::r)))).2=0:=J;rw[I] at J;exact Z7q (λx hx=>by rw[<-I] at hx;exact Ztj hx) J
  ·rename_i hd
   rw[if_neg hd] at I;split at J
   ·rename_i w hw
    rw[hw] at I;unfold tokS at J I;split at J
    ·rename_i U
     dsimp only at I;rw[if_pos U] at I;have I:w=c::r:=I;rw[<-I];have:=Ycw hw;omega
    ·cases J
   ·cases J
theorem Zoe:∀{ws:List (List Nat)} {m:Nat},(∀w∈ws,w.length<=m)->(Zb8 ws).length<=(m+1)*ws.length
 | [],m,_=>by simp[Zb8]
 | [w],m,h=>by
  have:=h w (by simp)
  simp only[Zb8,aD,bh]
  omega
 |w::x::r,m,h=>by
  have J:=Zoe (ws:=x::r) (m:=m) (λy I=>h y (by simp at I⊢;exact .inr I))
  have:=h w (by simp)
  rw[Zko (by simp),aC,aD]
  have e:(m+1)*(w::x::r).length=(m+1)*(x::r).length+(m+1):=by rw[aD,kN,jm]
  omega
theorem Ycx(c:Cls):(txC c).length<=8*c.pay.sz+6*c.when_.length+4:=by
 have I:=Xm c.pay;have J:=Zlv c.when_ 0;unfold txC;simp only[aD,aC,bh];omega
theorem Zof:∀(a:List Cls) (c:Cls),txCs (a++ [c])=txCs a++txC c
 | [],c=>by simp[txCs]
 |x::r,c=>by rw[dc];simp only[txCs];rw[Zof r c,bE]
theorem Zuh:∀{cs:List Cls} {m:Nat},(∀c∈cs,c.pay.sz<=m/\c.when_.length<=8)->(txCs cs).length<=(8*m+52)*cs.length
 | [],m,_=>by simp[txCs]
 |c::r,m,h=>by
  have U:=Zuh (cs:=r) (m:=m) (λx I=>h x (by simp[I]))
  have J:=h c (by simp)
  have R:=Ycx c
  have e:(8*m+52)*(c::r).length=(8*m+52)*r.length+(8*m+52):=by rw[aD,kN,jm]
  rw[txCs,aC]
  omega
theorem Zui:∀{cs:List Cls} {s:List (List Nat)},CsOk s cs->∀c∈cs,W5 c=ac/\c.when_.length<=8
 |c::r,s,h,x,I=>by
  rw[Zqj] at h
  rcases aL.1 I with rfl|I
  ·exact⟨h.1,h.2.2.2.1⟩
  ·exact Zui h.2.2.2.2.2 x I
def SmT(t:Tar):Prop:=(∀c∈t.clauses,c.pay.sz<=10000/\c.when_.length<1000000000)/\t.clauses.length<1000000000
theorem Z7r:SumOk E 57 Yhm:=Zje E_ok (Zy E_ok (Zc rfl) λx h=>by
 have:=Z5f x.1 h.1.2 h.2;rw[<-h.1.1] at this
 exact this)
theorem Yhn:FnsOk E Fpr:=Zm E_ok (Zb (Zb (Zb (Zb F0_ok Zfg) Z7r) Zp2) Yhl) _ _ _
theorem Zxj(t:Tar) (h:SmT t):PureC E 23 [.agg (encF ab .tariffs t)] (.tup [.str ab (U6 t).1,.int ab .i64 (U6 t).2]):=by
 refine Za E_ok (Zd E_ok Yhn 400) ?_;rw[Zxi];delta qCP1 qCP5 qCP2 qCP3 qCP4 qCP6;obtain⟨U,h2⟩:=h;have L:WK.ki.words.length=6:=rfl;simp only[bne_iff_ne,bne_eq_false_iff_eq,fzO,aW,Cls.eta,Ex.eta,forall_eq,beq_iff_eq,beq_eq_false_iff_ne,ne_eq,and_true,true_and,imp_self,decide_eq_true_eq,decide_eq_false_iff_not];refine⟨⟨λc I=>⟨by have:=(U c I).1;omega,by have:=(U c I).2;omega⟩,by omega⟩,λhn=> ?_,λhz=> ?_⟩
 ·rw[Zxy hn];exact⟨rfl,rfl⟩
 ·obtain⟨c1,c2,c3,c4,c5,c6⟩:=(Zc4 t).1 hz
  have hw:wr af (t.for_-1)=t.for_-1:=wr64 (by omega) (by omega);rw[hw];refine⟨by omega,by rw[L];omega,λx hx=> ?_⟩;have a0:=Zui c6;have hm:∀c∈t.clauses,c.pay.sz<=10000/\c.when_.length<=8:=λc I=>⟨(U c I).1,(a0 c I).2⟩;have a2:∀k,(txCs (t.clauses.take k)).length<=80052*64:=λk=>by
   have a:=Zuh (cs:=t.clauses.take k) (m:=10000) (λc I=>hm c (List.mem_of_mem_take I));have b:(t.clauses.take k).length<=64:=by rw[be];omega
   have e:(8*10000+52)*(t.clauses.take k).length<=(8*10000+52)*64:=Nat.mul_le_mul_left _ b;omega
  have a3:WK.ki.words.getD (t.for_-1).toNat []=x:=by rw[bu,hx];rfl
  refine⟨λy=>y.k<=t.clauses.length/\y.fz=0/\y.L= [[116,97,114,105,102,102],t.name,[102,111,114],x,[123]]++txCs (t.clauses.take y.k)/\y.r=t.clauses.length-y.k,⟨⟨0,t.clauses.length,[[116,97,114,105,102,102],t.name,[102,111,114],x,[123]],0⟩,⟨(by dsimp only;omega),rfl,by simp[txCs],rfl⟩,rfl,rfl,rfl,rfl⟩,?_⟩;rintro⟨k,r,Lx,fx⟩ ⟨k1,k2,J,k4⟩;simp only at k1 k2 J k4⊢;subst k2 k4;have hL:Lx.length=5+(txCs (t.clauses.take k)).length:=by rw[J];simp;omega
  have a4:=a2 k;refine aB (λhq=>⟨by omega,by omega,λc I=> ?_⟩) (λhq=> ?_)
  ·have I:t.clauses[k]? =ae c:=I
   have hq:k<t.clauses.length:=by omega
   have a1:=aI I;have b1:=hm c a1;have b2:=a0 c a1;have e:Lx++txC c= [[116,97,114,105,102,102],t.name,[102,111,114],x,[123]]++txCs (t.clauses.take (k+1)):=by
    have R:t.clauses.take (k+1)=t.clauses.take k++ [c]:=by rw[cz,I];rfl
    rw[J,R,Zof,bE]
   refine⟨⟨by omega,b2.1,by omega,by omega,by omega⟩,⟨k+1,t.clauses.length-(k+1),Lx++txC c,0⟩,⟨hq,rfl,e,rfl⟩,(by dsimp only;omega),(wr64 (by omega) (by omega)).trans (by dsimp only;omega),rfl,rfl,rfl⟩
  ·have R:k=t.clauses.length:=by omega
   have e:Lx++ [[125]]=Zmf t:=by
    rw[J,R,aW];unfold Zmf;rw[a3];simp[Zsc,sFor,sLb,sRb]
   have e1:av (Lx.length+1) (cj 0 (Lx++ [[125]]))=Zmf t:=by
    rw[dh,bg (by simp),e]
   rw[e1];have e2:(Zmf t).length=Lx.length+1:=by rw[<-e];simp
   have hj:=Zoe (ws:=Zmf t) (m:=32) (λw hw=>(Z8g hz w hw).len);unfold U6;rw[if_neg (by rw[hz];simp)];refine⟨⟨aw _,by omega,by omega⟩,by rw[aC];simp,⟨by omega,by omega⟩,λh=> ?_,λh=> ?_⟩
   ·rw[if_pos (by omega)];exact⟨rfl,rfl⟩
   ·rw[if_neg (by omega)];exact⟨rfl,rfl⟩
end
section
open Go
noncomputable def Yei:Dc E (List (List Int)):=(Ze4 (E:=E) gD:Dc E (List (thy.dom gD)))
def dPow:Dc E Int where
 dec v:=match v with| .pptr gJ n 0=>ae n|_=>au
 enc n:= .pptr gJ n 0
 ok v a h:=by
  split at h
  ·cases h;exact⟨rfl,rfl,λ_ _ _ h=>h⟩
  ·cases h
def dimV(d:List Int):SV thy:= .agg (encF ab .dims d)
def optV(o:Option (List Int)):SV thy:= .tup [dimV (o.getD [0,0,0,0]),.bool ab o.isSome]
abbrev Zd5(x:List Int) (n:Int) (I:List Int) (J:List Int) (R:List Int) (U:List Int) (a0:List Int):=
 (dp (dp (dp [(0:Int),(0:Int),(0:Int),(0:Int)] (ag (0:Int)) (wr af (ah x (0:Nat) (0:Int)+wr af (n*ah
 I (0:Nat) (0:Int))))) (ag (1:Int)) (wr af (ah J (1:Nat) (0:Int)+wr af (n*ah R (1:Nat) (0:Int))))) (ag (2:
 Int)) (wr af (ah U (2:Nat) (0:Int)+wr af (n*ah a0 (2:Nat) (0:Int)))))
abbrev Y9(x:List Int) (n:Int) (I:List Int) (R:List Int) (U:List Int) (a0:List Int) (a1:List Int) (a2:List Int) (J:List Int):=
 (dp (Zd5 x n I R U a0 a1) (ag (3:Int)) (wr af (ah a2 (3:Nat) (0:Int)+wr af (n*ah J (3:Nat) (0:Int)))))
abbrev Zd6(x:List Int) (n:Int) (I:List Int):=
 (dp [(0:Int),(0:Int),(0:Int),(0:Int)] (ag (0:Int)) (wr af (ah x (0:Nat) (0:Int)+wr af (n*ah I (0:Nat) (0:
 Int)))))
abbrev Zpr(d:List Int):Prop:=
 ah [(0:Int),(0:Int),(0:Int),(0:Int)] (0:Nat) (0:Int)=ah d (0:Nat) (0:Int)/\ah [(0:Int),(0:Int),(0:Int),(0:Int)] (1:Nat) (0
 :Int)=ah d (1:Nat) (0:Int)/\ah [(0:Int),(0:Int),(0:Int),(0:Int)] (2:Nat) (0:Int)=ah d (2:Nat) (0:Int)/\ah [(0:Int),(0
 :Int),(0:Int),(0:Int)] (3:Nat) (0:Int)=ah d (3:Nat) (0:Int)/\True
abbrev Zfu(x:List Int) (n:Int) (I:List Int) (J:List Int) (R:List Int):=
 (dp (Zd6 x n I) (ag (1:Int)) (wr af (ah J (1:Nat) (0:Int)+wr af (n*ah R (1:Nat) (0:Int)))))
abbrev Zve:Prop:=
 (0:Int)<=(0:Int)/\(0:Int)+(1:Int)<=(↑(4:Nat):Int)
abbrev Zvf:Prop:=
 (0:Int)<=(1:Int)/\(1:Int)+(1:Int)<=(↑(4:Nat):Int)
abbrev Zvg:Prop:=
 (0:Int)<=(2:Int)/\(2:Int)+(1:Int)<=(↑(4:Nat):Int)
abbrev Zvh:Prop:=
 (0:Int)<=(3:Int)/\(3:Int)+(1:Int)<=(↑(4:Nat):Int)
abbrev qCQ1:=(0:Int)
abbrev qCQ2:=(1:Int)
abbrev qCQ3:=(1:Nat)
abbrev qCQ4(I:List (List Int)):=(↑(aa I):Int)
abbrev qCQ5:=(4:Nat)
abbrev qCQ6:=(3:Int)
abbrev qCQ7(I:Int) (J:Bool->Prop):=(decide (I<(-3:Int))=ac->J ac)
abbrev qCQ8:=(0:Nat)
theorem Z83(ds:List (List Int)) (n:Int) (d:List Int) (b:Bool):Zk E F0 (vc E F0 2000) 165 [.psl gD ds ab,.pptr gJ n 0] hp0 0 (λr=>ret E (patch hp0 0 r) r.v (.tup [dimV d,.bool ab b]))=(
 qCQ1<=qCQ1/\qCQ1+qCQ2<=(qCQ4 ds)/\∀(x:List Int),ds[ag qCQ1]? =ae x->qCQ1<=qCQ2/\qCQ2+qCQ2<=(qCQ4 ds)/\∀(I:List Int),ds[ag qCQ2]? =ae I->(Zve)/\qCQ8<=ag qCQ1/\ag qCQ1+qCQ3<=qCQ5/\∀(a6:Int),[qCQ1,qCQ1,qCQ1,qCQ1][ag qCQ1]? =ae a6->∃(Q:Bool->Prop),((Zve)/\ag qCQ1+qCQ3<=aa (Zd6 x n I)/\∀(J:Int),(Zd6 x n I)[ag qCQ1]? =ae J->(qCQ7 J Q)/\(decide (J<(-3:Int))=ab->(Zve)/\ag qCQ1+qCQ3<=aa (Zd6 x n I)/\∀(R:Int),(Zd6 x n I)[ag qCQ1]? =ae R->(decide (R>qCQ6)=ac->Q ac)/\(decide (R>qCQ6)=ab->Q ab)))/\(Q ac->aa (Zd6 x n I)=qCQ5/\qCQ5=qCQ5/\(Zpr d)/\ab=b/\True)/\(Q ab->qCQ1<=qCQ1/\qCQ1+qCQ2<=(qCQ4 ds)/\∀(J:List Int),ds[ag qCQ1]? =ae J->qCQ1<=qCQ2/\qCQ2+qCQ2<=(qCQ4 ds)/\∀(R:List Int),ds[ag qCQ2]? =ae R->(Zvf)/\qCQ8<=ag qCQ2/\ag qCQ2+qCQ3<=aa (Zd6 x n I)/\∀(a7:Int),(Zd6 x n I)[ag qCQ2]? =ae a7->∃(Q:Bool->Prop),((Zvf)/\ag qCQ2+qCQ3<=aa (Zfu x n I J R)/\∀(U:Int),(Zfu x n I J R)[ag qCQ2]? =ae U->(qCQ7 U Q)/\(decide (U<(-3:Int))=ab->(Zvf)/\ag qCQ2+qCQ3<=aa (Zfu x n I J R)/\∀(a0:Int),(Zfu x n I J R)[ag qCQ2]? =ae a0->(decide (a0>qCQ6)=ac->Q ac)/\(decide (a0>qCQ6)=ab->Q ab)))/\(Q ac->aa (Zfu x n I J R)=qCQ5/\qCQ5=qCQ5/\(Zpr d)/\ab=b/\True)/\(Q ab->qCQ1<=qCQ1/\qCQ1+qCQ2<=(qCQ4 ds)/\∀(U:List Int),ds[ag qCQ1]? =ae U->qCQ1<=qCQ2/\qCQ2+qCQ2<=(qCQ4 ds)/\∀(a0:List Int),ds[ag qCQ2]? =ae a0->(Zvg)/\qCQ8<=ag (2:Int)/\ag (2:Int)+qCQ3<=aa (Zfu x n I J R)/\∀(a8:Int),(Zfu x n I J R)[ag (2:Int)]? =ae a8->∃(Q:Bool->Prop),((Zvg)/\ag (2:Int)+qCQ3<=aa (Zd5 x n I J R U a0)/\∀(a2:Int),(Zd5 x n I J R U a0)[ag (2:Int)]? =ae a2->(qCQ7 a2 Q)/\(decide (a2<(-3:Int))=ab->(Zvg)/\ag (2:Int)+qCQ3<=aa (Zd5 x n I J R U a0)/\∀(a1:Int),(Zd5 x n I J R U a0)[ag (2:Int)]? =ae a1->(decide (a1>qCQ6)=ac->Q ac)/\(decide (a1>qCQ6)=ab->Q ab)))/\(Q ac->aa (Zd5 x n I J R U a0)=qCQ5/\qCQ5=qCQ5/\(Zpr d)/\ab=b/\True)/\(Q ab->qCQ1<=qCQ1/\qCQ1+qCQ2<=(qCQ4 ds)/\∀(a2:List Int),ds[ag qCQ1]? =ae a2->qCQ1<=qCQ2/\qCQ2+qCQ2<=(qCQ4 ds)/\∀(a1:List Int),ds[ag qCQ2]? =ae a1->(Zvh)/\qCQ8<=ag qCQ6/\ag qCQ6+qCQ3<=aa (Zd5 x n I J R U a0)/\∀(a5:Int),(Zd5 x n I J R U a0)[ag qCQ6]? =ae a5->∃(Q:Bool->Prop),((Zvh)/\ag qCQ6+qCQ3<=aa (Y9 x n I J R U a0 a2 a1)/\∀(a3:Int),(Y9 x n I J R U a0 a2 a1)[ag qCQ6]? =ae a3->(qCQ7 a3 Q)/\(decide (a3<(-3:Int))=ab->(Zvh)/\ag qCQ6+qCQ3<=aa (Y9 x n I J R U a0 a2 a1)/\∀(a4:Int),(Y9 x n I J R U a0 a2 a1)[ag qCQ6]? =ae a4->(decide (a4>qCQ6)=ac->Q ac)/\(decide (a4>qCQ6)=ab->Q ab)))/\(Q ac->aa (Y9 x n I J R U a0 a2 a1)=qCQ5/\qCQ5=qCQ5/\(Zpr d)/\ab=b/\True)/\(Q ab->aa (Y9 x n I J R U a0 a2 a1)=qCQ5/\aa (Y9 x n I J R U a0 a2 a1)=qCQ5/\qCQ5=qCQ5/\(ah [ah (Y9 x n I J R U a0 a2 a1) qCQ8 qCQ1,ah (Y9 x n I
J R U a0 a2 a1) qCQ3 qCQ1,ah (Y9 x n I J R U a0 a2 a1) (2:Nat) qCQ1,ah (Y9 x n I J R U a0 a2 a1) (3:Nat) qCQ1] qCQ8 qCQ1=ah d qCQ8 qCQ1/\ah [ah (Y9 x n I J R U a0 a2 a1) qCQ8 qCQ1,ah (Y9 x n I J R U a0 a2 a1) qCQ3 qCQ1,ah (Y9 x n I J R U a0 a2 a1) (2:Nat) qCQ1,ah (Y9 x n I J R U a0 a2 a1) (3:Nat) qCQ1] qCQ3 qCQ1=ah d qCQ3 qCQ1/\ah [ah (Y9 x n I J R U a0 a2 a1) qCQ8 qCQ1,ah (Y9 x n I J R U a0 a2 a1) qCQ3 qCQ1,ah (Y9 x n I J R U a0 a2 a1) (2:Nat) qCQ1,ah (Y9 x n I J R U a0 a2 a1) (3:Nat) qCQ1] (2:Nat) qCQ1=ah d (2:Nat) qCQ1/\ah [ah (Y9 x n I J R U a0 a2 a1) qCQ8 qCQ1,ah (Y9 x n I J R U a0 a2 a1) qCQ3 qCQ1,ah (Y9 x n I J R U a0 a2 a1) (2:Nat) qCQ1,ah (Y9 x n I J R U a0 a2 a1) (3:Nat) qCQ1] (3:Nat) qCQ1=ah d (3:Nat) qCQ1/\True)/\ac=b/\True))))):=by kernel_rfl
theorem Ziq(c:Int):in3 c=ac↔(-3<=c/\c<=3):=by
 unfold in3;simp only[bi,bG,decide_eq_false_iff_not];omega
theorem q3(c:Int) {J I:Prop} (h1:in3 c=ab->J) (h2:in3 c=ac->I):∃Q:Bool->Prop,((c< -3->Q ac)/\(¬c< -3->(c>3->Q ac)/\(¬c>3->Q ab)))/\(Q ac->J)/\(Q ab->I):=by
 have hi:=Ziq c;have R:¬(-3<=c/\c<=3)->in3 c=false:=λh=>by rw[<-Bool.not_eq_true,hi];exact h
 refine⟨λq=>q=ac↔in3 c=ab,aB (λh=>⟨λ_=>R (by omega),λ_=>rfl⟩) (λh=>aB (λU=>⟨λ_=>R (by omega),λ_=>rfl⟩) (λU=>⟨λh=>(by cases h),λh=> ?_⟩)),λh=>h1 (h.1 rfl),λh=>h2 ?_⟩
 ·rw[hi.2 (by omega)] at h;cases h
 ·cases hh:in3 c with
  |true=>rfl
  |false=>exact absurd (h.2 hh) (by simp)
theorem Z84(I:List (List Int)) (n:Int) (J:2<=I.length):PureC E 165 [.psl gD I ab,.pptr gJ n 0] (optV (cmb n (I.getD 0 []) (I.getD 1 []))):=by
 match I,J with
 |a::b::r,J=>
 refine Za E_ok (Z6h 2000) ?_;unfold optV;rw[Z83];delta qCQ1 qCQ2 qCQ3 qCQ4 qCQ5 qCQ6 qCQ7 qCQ8;unfold Zvh Zvg Zvf Zve Zfu Zpr Zd6 Y9 Zd5;have e:∀x y,wr af (x+wr af (n*y))=cmb1 n x y:=λ_ _=>rfl
 simp only[Yf,Z6,Wg,Wh,Wi,beq_iff_eq,bne_iff_ne,beq_eq_false_iff_ne,bne_eq_false_iff_eq,decide_eq_true_eq,decide_eq_false_iff_not,bd,bG,bi,cd,aq,cG,cx,bm,beq_self_eq_true,Yt,Yn,ne_eq,and_true,true_and,aS,aO,false_or,or_false,true_implies,imp_self,bX,not_true_eq_false,not_false_eq_true,bJ,cW,dz,cp,forall_eq',forall_eq,eG,eH,aD,bh,cS,cT,tn0,tn1,tn2,tn3,bV,aw,ga,gg,gC,ff,cn4,cn16,e]
 unfold cmb;generalize cmb1 n (a.getD 0 0) (b.getD 0 0)=R;generalize cmb1 n (a.getD 1 0) (b.getD 1 0)=U;generalize cmb1 n (a.getD 2 0) (b.getD 2 0)=c2;generalize cmb1 n (a.getD 3 0) (b.getD 3 0)=c3;simp only[aD] at J
 repeat' (first|omega|(refine q3 _ (λh=> ?_) (λh=> ?_))|(refine aB ?_ ?_))
 all_goals simp[*]
abbrev qCQb:=(0:Int)
abbrev qCQ9(I:List Int) (J:List Int):=(ah [ah I (0:Nat) qCQb,ah I (1:Nat) qCQb,ah I (2:Nat) qCQb,ah I (3:Nat) qCQb] (0:Nat) qCQb=ah J (0:Nat) qCQb/\ah [ah I (0:Nat) qCQb,ah I (1:Nat) qCQb,ah I (2:Nat) qCQb,ah I (3:Nat) qCQb] (1:Nat) qCQb=ah J (1:Nat) qCQb/\ah [ah I (0:Nat) qCQb,ah I (1:Nat) qCQb,ah I (2:Nat) qCQb,ah I (3:Nat) qCQb] (2:Nat) qCQb=ah J (2:Nat) qCQb/\ah [ah I (0:Nat) qCQb,ah I (1:Nat) qCQb,ah I (2:Nat) qCQb,ah I (3:Nat) qCQb] (3:Nat) qCQb=ah J (3:Nat) qCQb/\True)
abbrev qCQa(I:List Int) (J:List Int):=(ah I (0:Nat) qCQb==ah J (0:Nat) qCQb&&(ah I (1:Nat) qCQb==ah J (1:Nat) qCQb&&(ah I (2:Nat) qCQb==ah J (2:Nat) qCQb&&(ah I (3:Nat) qCQb==ah J (3:Nat) qCQb&&ac))))
theorem Zya(I:List (List Int)) (d:List Int) (b:Bool):Zk E F0 (vc E F0 400) 105 [.psl gD I ab] hp0 0 (λr=>ret E (patch hp0 0 r) r.v (.tup [dimV d,.bool ab b]))=(
 qCQb<=qCQb/\qCQb+(1:Int)<=(↑(aa I):Int)/\∀(x:List Int),I[ag qCQb]? =ae x->qCQb<=qCQb/\qCQb+(1:Int)<=(↑(aa I):Int)/\∀(J:List Int),I[ag qCQb]? =ae J->qCQb<=(1:Int)/\(1:Int)+(1:Int)<=(↑(aa I):Int)/\∀(R:List Int),I[ag (1:Int)]? =ae R->((qCQa J R)=ac->(4:Nat)=(4:Nat)/\(4:Nat)=(4:Nat)/\(qCQ9 x d)/\ac=b/\True)/\((qCQa J R)=ab->(4:Nat)=(4:Nat)/\(4:Nat)=(4:Nat)/\(qCQ9 x d)/\ab=b/\True)):=by kernel_rfl
def eq4(a b:List Int):Bool:=a.getD 0 0==b.getD 0 0&&(a.getD 1 0==b.getD 1 0&&(a.getD 2 0==b.getD 2 0&&a.getD 3 0==b.getD 3 0))
theorem Yej{a b:List Int} (h:a.getD 0 0=b.getD 0 0/\a.getD 1 0=b.getD 1 0/\a.getD 2 0=b.getD 2 0/\a.getD 3 0=b.getD 3 0):eq4 a b=true:=by
 unfold eq4;simp only[aq,beq_iff_eq];exact h
theorem Yek{a b:List Int} (h:¬a.getD 0 0=b.getD 0 0\/¬a.getD 1 0=b.getD 1 0\/¬a.getD 2 0=b.getD 2 0\/¬a.getD 3 0=b.getD 3 0):eq4 a b=false:=by
 rw[Bool.eq_false_iff];intro I;unfold eq4 at I;simp only[aq,beq_iff_eq] at I;omega
theorem Zss{a b:List Int} (I:Is4 a) (J:Is4 b):eq4 a b=decide (a=b):=by
 obtain⟨R,U,a2,a3,rfl⟩:=I;obtain⟨b0,b1,b2,b3,rfl⟩:=J;rw[Bool.eq_iff_iff,decide_eq_true_eq];unfold eq4;simp
theorem Zyb(I:List (List Int)) (J:2<=I.length):PureC E 105 [.psl gD I ab] (.tup [dimV (I.getD 0 []),.bool ab (eq4 (I.getD 0 []) (I.getD 1 []))]):=by
 match I,J with
 |a::b::r,J=>
 refine Za E_ok (Z6h 400) ?_;rw[Zya];delta qCQb qCQ9 qCQa
 simp only[Yf,Z6,Wg,Wh,Wi,beq_iff_eq,bne_iff_ne,beq_eq_false_iff_ne,bne_eq_false_iff_eq,decide_eq_true_eq,decide_eq_false_iff_not,bd,bG,bi,cd,aq,cG,cx,bm,beq_self_eq_true,Yt,Yn,ne_eq,and_true,true_and,aS,aO,false_or,or_false,true_implies,imp_self,bX,not_true_eq_false,not_false_eq_true,bJ,cW,dz,cp,forall_eq',forall_eq,eG,eH,aD,bh,cS,cT,tn0,tn1,tn2,tn3,bV,aw,ga,gg,gC,ff,cn4,cn16]
 simp only[aD] at J;refine⟨by omega,by omega,by omega,λh=> ?_,λh=> ?_⟩
 ·exact(Yej h).symm
 ·exact(Yek h).symm
abbrev Zgi(x:List Int) (d:List Int):Prop:=
 ah [ah x (0:Nat) (0:Int),ah x (1:Nat) (0:Int),ah x (2:Nat) (0:Int),ah x (3:Nat) (0:Int)] (0:Nat) (0:Int)=ah d
 (0:Nat) (0:Int)/\ah [ah x (0:Nat) (0:Int),ah x (1:Nat) (0:Int),ah x (2:Nat) (0:Int),ah x (3:Nat) (0:Int)] (1:Nat) (0
 :Int)=ah d (1:Nat) (0:Int)/\ah [ah x (0:Nat) (0:Int),ah x (1:Nat) (0:Int),ah x (2:Nat) (0:Int),ah x (3:Nat) (0
 :Int)] (2:Nat) (0:Int)=ah d (2:Nat) (0:Int)/\ah [ah x (0:Nat) (0:Int),ah x (1:Nat) (0:Int),ah x (2:Nat) (0:Int),
 ah x (3:Nat) (0:Int)] (3:Nat) (0:Int)=ah d (3:Nat) (0:Int)/\True
abbrev Zmo(I:List Int) (J:List Int):=
 (ah I (0:Nat) (0:Int)==ah J (0:Nat) (0:Int)&&(ah I (1:Nat) (0:Int)==ah J (1:Nat) (0:Int)&&(ah I (2:Nat) (0
 :Int)==ah J (2:Nat) (0:Int)&&(ah I (3:Nat) (0:Int)==ah J (3:Nat) (0:Int)&&ac))))
abbrev Zmp(I:List Int) (J:List Int):=
 (ah I (0:Nat) (0:Int)==ah J (0:Nat) (0:Int)&&(ah I (1:Nat) (0:Int)==ah J (1:Nat) (0:Int)&&(ah I (2:Nat) (0
 :Int)==ah J (2:Nat) (0:Int)&&(ah I (3:Nat) (0:Int)==ah J (3:Nat) (0:Int)&&ac))))
theorem Zyc(I:List (List Int)) (d:List Int) (b:Bool):Zk E F0 (vc E F0 400) 106 [.psl gD I ab] hp0 0 (λr=>ret E (patch hp0 0 r) r.v (.tup [dimV d,.bool ab b]))=(
(0:Int)<=(2:Int)/\(2:Int)+(1:Int)<=(↑(aa I):Int)/\∀(x:List Int),I[ag (2:Int)]? =ae x->(0:Int)<=(0:Int)/\(0:Int)+(1:Int)<=(↑(aa I):Int)/\∀(J:List Int),I[ag (0:Int)]? =ae J->(0:Int)<=(1:Int)/\(1:Int)+(1:Int)<=(↑(aa I):Int)/\∀(R:List Int),I[ag (1:Int)]? =ae R->((Zmo J R)=ac->(0:Int)<=(2:Int)/\(2:Int)+(1:Int)<=(↑(aa I):Int)/\∀(U:List Int),I[ag (2:Int)]? =ae U->(0:Int)<=(3:Int)/\(3:Int)+(1:Int)<=(↑(aa I):Int)/\∀(a0:List Int),I[ag (3:Int)]? =ae a0->((Zmp U a0)=ac->(4:Nat)=(4:Nat)/\(4:Nat)=(4:Nat)/\(Zgi x d)/\ac=b/\True)/\((Zmp U a0)=ab->(4:Nat)=(4:Nat)/\(4:Nat)=(4:Nat)/\(Zgi x d)/\ab=b/\True))/\((Zmo J R)=ab->(4:Nat)=(4:Nat)/\(4:Nat)=(4:Nat)/\(Zgi x d)/\ab=b/\True)):=by kernel_rfl
theorem Zyd(I:List (List Int)) (R:4<=I.length):PureC E 106 [.psl gD I ab] (.tup [dimV (I.getD 2 []),.bool ab (eq4 (I.getD 0 []) (I.getD 1 [])&&eq4 (I.getD 2 []) (I.getD 3 []))]):=by
 match I,R with
 |a::b::c::d::r,R=>
 refine Za E_ok (Z6h 400) ?_;rw[Zyc];unfold Zmp Zmo Zgi
 simp only[Yf,Z6,Wg,Wh,Wi,beq_iff_eq,bne_iff_ne,beq_eq_false_iff_ne,bne_eq_false_iff_eq,decide_eq_true_eq,decide_eq_false_iff_not,bd,bG,bi,cd,aq,cG,cx,bm,beq_self_eq_true,Yt,Yn,ne_eq,and_true,true_and,aS,aO,false_or,or_false,true_implies,imp_self,bX,not_true_eq_false,not_false_eq_true,bJ,cW,dz,cp,forall_eq',forall_eq,eG,eH,aD,bh,cS,cT,tn0,tn1,tn2,tn3,bV,aw,ga,gg,gC,ff,cn4,cn16]
 simp only[aD] at R;refine⟨by omega,by omega,by omega,λh=>⟨by omega,by omega,λJ=> ?_,λJ=> ?_⟩,λh=> ?_⟩
 ·rw[Yej h,Yej J];rfl
 ·rw[Yek J,Bool.and_false]
 ·rw[Yek h,Bool.false_and]
end
section
open Go
open Classical in
noncomputable def dRul:Dc E Unit where
  dec v:=if v=Wc then ae () else au
  enc _:=Wc
  ok v a h:=by
    split at h
    ·rename_i e;subst e;exact⟨rfl,rfl,λ_ _ _ h=>h⟩
    ·cases h
noncomputable def Zqm(m:Nat):Sum thy:=λargs h i k=>match args with
  | [r,I]=>r=Wc/\(match(dR .exprs).dec I with|some x=>((x:Ex).sz<m/\Zn x=ac)/\∀o,o=U8 x->k (quiet [] (optV o))|none=>False)
  |_=>False
theorem Zqn{m:Nat} (hp:∀x:Ex,x.sz<m->Zn x=ac->PureC E 59 [Wc,exA x] (optV (U8 x))):SumOk E 59 (Zqm m):=by
  refine⟨Zc (f:=59) rfl,λargs h i k hD I=> ?_⟩;unfold Zqm at I;split at I
  ·rename_i r U
   obtain⟨rfl,I⟩:=I;split at I
   ·rename_i x hx
    obtain⟨⟨h1,h2⟩,I⟩:=I;have hd:(DcL.cons dRul (dA1 (dR .exprs))).dec [Wc,U]=ae ((),x,()):=by
      have h0:(dRul).dec Wc=ae ():=by unfold dRul;simp
      simp only[DcL.cons,dA1,DcL.nil,h0,hx]
    have R:PureC E 59 [Wc,U] (optV (U8 x)):=PureC.of_dec hd (hp x h1 h2);have J:=(DcL.cons dRul (dA1 (dR .exprs))).ok _ _ hd;exact⟨_,I _ rfl,(R.tri E_ok J.1 h i).1,.inl (R.tri E_ok J.1 h i).2⟩
   ·exact I.elim
  ·exact I.elim
noncomputable def Spow:Sum thy:=Zca E (λ_=>au) 10 (dA2 Yei dPow) (λx=>2<=x.1.length) (λx=>cmb x.2.1 (x.1.getD 0 []) (x.1.getD 1 [])) optV
theorem Ygf:SumOk E 165 Spow:=Xa E_ok (Zc (f:=165) rfl) λx h=>Z84 _ _ h
def prV(p:List Int×Bool):SV thy:= .tup [dimV p.1,.bool ab p.2]
noncomputable def Yjw:Sum thy:=Zca E (λ_=>au) 10 (dA1 Yei) (λx=>2<=x.1.length) (λx=>(x.1.getD 0 [],eq4 (x.1.getD 0 []) (x.1.getD 1 []))) prV
theorem Yau:SumOk E 105 Yjw:=Xa E_ok (Zc (f:=105) rfl) λx h=>Zyb _ h
noncomputable def Yjx:Sum thy:=Zca E (λ_=>au) 10 (dA1 Yei) (λx=>4<=x.1.length) (λx=>(x.1.getD 2 [],eq4 (x.1.getD 0 []) (x.1.getD 1 [])&&eq4 (x.1.getD 2 []) (x.1.getD 3 []))) prV
theorem Yav:SumOk E 106 Yjx:=Xa E_ok (Zc (f:=106) rfl) λx h=>Zyd _ h
structure UnX where
  k:Nat
  r:Nat
  D:List (List Int)
noncomputable def Ylj:Fr thy->Hp thy->Nat->Ann2 thy:=λT h i=>{X:=UnX,fr:=λs x=> [(0,T 0),(3,T 3),(4,T 4),(6,match s with|false=> .val (.slice au 0 0)|true=> .sl i 0 x.D.length 4 au),(24,T 24),(25,T 25),(26,.int ab .i64 x.k)],bl:=λs x=>match s with|false=>blkP h (T 3)++blkP h (T 4)|true=>(i,.rows gD x.D 0)::(blkP h (T 3)++blkP h (T 4)),src:=λs=>match s with|false=> []|true=> [(i,6)],md:= [bOf (T 4)],ih:=i+1,M:=i+40,meas:=λs x=>x.r}
noncomputable def Zwq:Fns thy:=addS (addS (addS F0 165 Spow) 105 Yjw) 106 Yjx
theorem Zqo:FnsOk E Zwq:=Zb (Zb (Zb F0_ok Ygf) Yau) Yav
noncomputable def Ygg(m:Nat):Fns thy:=Yjv (addS Zwq 59 (Zqm m)) 59 8 Ylj E
abbrev Zer(o:Option (List Int)):Prop:=
  (0:Int)=ah (ct o [(0:Int),(0:Int),(0:Int),(0:Int)]) (0:Nat) (0:Int)/\(0:Int)=ah (ct o [(0:Int),(0:Int),(0:Int),(0
  :Int)]) (1:Nat) (0:Int)/\(0:Int)=ah (ct o [(0:Int),(0:Int),(0:Int),(0:Int)]) (2:Nat) (0:Int)/\(0:Int)=ah (ct o [(0:
  Int),(0:Int),(0:Int),(0:Int)]) (3:Nat) (0:Int)/\True
abbrev Vk(y:Option (List Int)) (o:Option (List Int)):Prop:=
  (!cI y)=ab->(4:Nat)=(4:Nat)/\(4:Nat)=(4:Nat)/\(4:Nat)=(4:Nat)/\(ah (ct y [(0:Int),(0:Int),(0:Int),(0:Int)]) (0:
  Nat) (0:Int)=ah (ct o [(0:Int),(0:Int),(0:Int),(0:Int)]) (0:Nat) (0:Int)/\ah (ct y [(0:Int),(0:Int),(0:Int),(0:
  Int)]) (1:Nat) (0:Int)=ah (ct o [(0:Int),(0:Int),(0:Int),(0:Int)]) (1:Nat) (0:Int)/\ah (ct y [(0:Int),(0:Int),(0:
  Int),(0:Int)]) (2:Nat) (0:Int)=ah (ct o [(0:Int),(0:Int),(0:Int),(0:Int)]) (2:Nat) (0:Int)/\ah (ct y [(0:Int),(0:
  Int),(0:Int),(0:Int)]) (3:Nat) (0:Int)=ah (ct o [(0:Int),(0:Int),(0:Int),(0:Int)]) (3:Nat) (0:Int)/\True)/\ac=cI o/\
  True
abbrev X9(y:List Int×Bool) (o:Option (List Int)):Prop:=
  (!aE y)=ab->(4:Nat)=(4:Nat)/\(4:Nat)=(4:Nat)/\(4:Nat)=(4:Nat)/\(ah (ao y) (0:Nat) (0:Int)=ah (ct o [(0:Int),
  (0:Int),(0:Int),(0:Int)]) (0:Nat) (0:Int)/\ah (ao y) (1:Nat) (0:Int)=ah (ct o [(0:Int),(0:Int),(0:Int),(0:Int)]) (1:
  Nat) (0:Int)/\ah (ao y) (2:Nat) (0:Int)=ah (ct o [(0:Int),(0:Int),(0:Int),(0:Int)]) (2:Nat) (0:Int)/\ah (ao y)
  (3:Nat) (0:Int)=ah (ct o [(0:Int),(0:Int),(0:Int),(0:Int)]) (3:Nat) (0:Int)/\True)/\ac=cI o/\True
abbrev Zq(I:UnX):=
  (av (aa (UnX.D I)) (cj (0:Nat) (UnX.D I)))
abbrev Wa(y:List Int×Bool) (o:Option (List Int)):Prop:=
  (!aE y)=ac->(4:Nat)=(4:Nat)/\(4:Nat)=(4:Nat)/\(Zer o)/\ab=cI o/\True
abbrev Vl(y:Option (List Int)) (o:Option (List Int)):Prop:=
  (!cI y)=ac->(4:Nat)=(4:Nat)/\(4:Nat)=(4:Nat)/\(Zer o)/\ab=cI o/\True
abbrev Zb2(x:Ex):Prop:=
  aJ x=aJ x/\bW x=bW x/\bx x=bx x/\bA x=bA x/\bB x=bB x/\bC x=bC x/\(bw x=bw x/\(ab=ac->ab=ac))/\True
abbrev Zb3:Prop:=
  [(0:Int),(0:Int),(0:Int),(0:Int)]= [(0:Int),(0:Int),(0:Int),(0:Int)]/\(0:Nat)=(0:Nat)
abbrev U4(I:Ex):=
  (bU (aJ I) (bW I) (bx I) (bA I) (bB I) (bC I) (bw I))
abbrev Vm(o:Option (List Int)):=
  (ct o [(0:Int),(0:Int),(0:Int),(0:Int)])
abbrev Wb(I:Option (List Int)):=
  (ct I [(0:Int),(0:Int),(0:Int),(0:Int)])
abbrev Zjg(x:Ex) (I:UnX) (x':UnX):Prop:=
  (Xo=Xo/\ac=ac)/\(0:Nat)=(0:Nat)/\(0:Nat)=(0:Nat)/\False/\(bw x=bw x/\(ab=ac->ab=ac))/\(↑(aa (bw x)):Int)=
  (↑(aa (bw x)):Int)/\wr af ((↑(UnX.k I):Int)+(1:Int))=(↑(UnX.k x'):Int)/\True
--@cond unitK | 59 | Zwq>(Ygg m) | 800 | (m : Nat) (x : Ex) | [Wc, exA x] | (o : Option (List Int)) | optV o
theorem Zzn(m:Nat) (x:Ex) (o:Option (List Int)):Zk E Zwq (vc E (Ygg m) 800) 59 [Wc,exA x] hp0 0 (λr=>ret E (patch hp0 0 r) r.v (optV o))=(
  ((aJ x==(1:Int))=ac->(4:Nat)=(4:Nat)/\(4:Nat)=(4:Nat)/\(bx x=ah (Vm o) (0:Nat) (0:Int)/\bA x=ah (Vm o) (1:
  Nat) (0:Int)/\bB x=ah (Vm o) (2:Nat) (0:Int)/\bC x=ah (Vm o) (3:Nat) (0:Int)/\True)/\ac=cI o/\True)/\((aJ x
  ==(1:Int))=ab->((aJ x==(2:Int))=ac->(0:Int)<=bW x/\bW x+(1:Int)<=(↑(16:Nat):Int)/\∀(I:List Int),[[(0:Int),(0:Int),(0:Int),(0
  :Int)],[(0:Int),(0:Int),(0:Int),(0:Int)],[(0:Int),(0:Int),(0:Int),(0:Int)],[(0:Int),(0:Int),(0:Int),(0:Int)],[(0:Int),(0:Int),(0:
  Int),(0:Int)],[(0:Int),(0:Int),(0:Int),(1:Int)],[(0:Int),(0:Int),(1:Int),(0:Int)],[(0:Int),(1:Int),(0:Int),(0:Int)],[(0:Int),(1:Int),
  (0:Int),(0:Int)],[(0:Int),(0:Int),(0:Int),(0:Int)],[(1:Int),(0:Int),(0:Int),(0:Int)],[(1:Int),(0:Int),(0:Int),(0:Int)],[(0:Int),(0:
  Int),(0:Int),(0:Int)],[(0:Int),(0:Int),(0:Int),(0:Int)],[(0:Int),(0:Int),(0:Int),(0:Int)],[(0:Int),(0:Int),(0:Int),(0:Int)]][ag
  (bW x)]? =ae I->(4:Nat)=(4:Nat)/\(4:Nat)=(4:Nat)/\(ah I (0:Nat) (0:Int)=ah (Vm o) (0:Nat) (0:Int)/\ah I (1:Nat)
  (0:Int)=ah (Vm o) (1:Nat) (0:Int)/\ah I (2:Nat) (0:Int)=ah (Vm o) (2:Nat) (0:Int)/\ah I (3:Nat) (0:Int)=
  ah (Vm o) (3:Nat) (0:Int)/\True)/\ac=cI o/\True)/\((aJ x==(2:Int))=ab->∃(R:Bool->UnX->Prop),((∃(x:UnX),R ac x/\ac
  =ac/\False)\/∃(I:UnX),R ab I/\ac=ac/\((Xo=Xo/\ac=ac)/\(0:Nat)=(0:Nat)/\(0:Nat)=(0:Nat)/\aG au (0:Nat) (0:
  Nat)=aG au (0:Nat) (0:Nat)/\(bw x=bw x/\(ab=ac->ab=ac))/\(↑(aa (bw x)):Int)=(↑(aa (bw x)):Int)/\(0:Int)=
  (↑(UnX.k I):Int)/\True)/\(Zb2 x)/\(Zb3)/\True)/\(∀(I:UnX),R ac I->(decide ((↑(UnX.k I):Int)<(↑(aa (bw x)):Int))=ac->(0:
  Int)<=(↑(UnX.k I):Int)/\(↑(UnX.k I):Int)+(1:Int)<=(↑(aa (bw x)):Int)/\∀(U:Ex),(bw x)[ag (↑(UnX.k I):Int)]? =ae U->SV.pmap
  Xo=Wc/\(Ex.sz (U4 U)+(1:Nat)<=m/\Zn (U4 U)=ac)/\∀(J:Option (List Int)),J=U8 (U4 U)->(4:Nat)=(4:Nat)/\
  ((!cI J)=ac->(4:Nat)=(4:Nat)/\(4:Nat)=(4:Nat)/\(Zer o)/\ab=cI o/\True)/\((!cI J)=ab->(4:Nat)=(4:
  Nat)/\(aa (UnX.D I)<=aa (UnX.D I)/\(0:Nat)<=aa (UnX.D I)/\(aa (UnX.D I)+(1:Nat))*(32:Nat)<=(140737488355328:Nat))/\
  ((∃(x':UnX),R ac x'/\x'.2+(1:Nat)<=I.2/\ac=ac/\((Xo=Xo/\ac=ac)/\(0:Nat)=(0:Nat)/\(0:Nat)=(0:Nat)/\((0:Nat)=(0:Nat)/\
  aa (UnX.D I)+(1:Nat)=aa (UnX.D x')/\True)/\(bw x=bw x/\(ab=ac->ab=ac))/\(↑(aa (bw x)):Int)=(↑(aa (bw
  x)):Int)/\wr af ((↑(UnX.k I):Int)+(1:Int))=(↑(UnX.k x'):Int)/\True)/\(av (aa (UnX.D I)) (UnX.D I)++ [[ah (Wb J) (0
  :Nat) (0:Int),ah (Wb J) (1:Nat) (0:Int),ah (Wb J) (2:Nat) (0:Int),ah (Wb J) (3:Nat) (0:Int)]]=UnX.D x'/\(0:
  Nat)=(0:Nat))/\(Zb2 x)/\(Zb3)/\True)\/∃(x':UnX),R ab x'/\x'.2+(1:Nat)<=I.2/\ac=ac/\(Zjg x I x')/\(Zb2 x)/\(Zb3)/\
  True)))/\(decide ((↑(UnX.k I):Int)<(↑(aa (bw x)):Int))=ab->((aJ x==(3:Int))=ac->(0:Nat)+aa (UnX.D I)<=aa (UnX.D
  I)/\(2:Nat)<=aa (Zq I)/\∀(y:List Int×Bool),y=(ah (Zq I) (0:Nat) [],eq4 (ah (Zq I) (0:Nat) []) (ah
  (Zq I) (1:Nat) []))->(4:Nat)=(4:Nat)/\(Wa y o)/\(X9 y o))/\((aJ x==(3:Int))=ab->((aJ x==(4:Int))=ac->(0:Nat)+
  aa (UnX.D I)<=aa (UnX.D I)/\(2:Nat)<=aa (Zq I)/\∀(y:List Int×Bool),y=(ah (Zq I) (0:Nat) [],eq4 (ah
  (Zq I) (0:Nat) []) (ah (Zq I) (1:Nat) []))->(4:Nat)=(4:Nat)/\(Wa y o)/\(X9 y o))/\((aJ x==(4:Int))=ab->((aJ x==
  (6:Int))=ac->(0:Nat)+aa (UnX.D I)<=aa (UnX.D I)/\(2:Nat)<=aa (Zq I)/\∀(y:List Int×Bool),y=(ah (Zq
  I) (0:Nat) [],eq4 (ah (Zq I) (0:Nat) []) (ah (Zq I) (1:Nat) []))->(4:Nat)=(4:Nat)/\(Wa y o)/\(X9 y o))/\((aJ x==
  (6:Int))=ab->((aJ x==(7:Int))=ac->(0:Nat)+aa (UnX.D I)<=aa (UnX.D I)/\(2:Nat)<=aa (Zq I)/\∀(y:List Int×
  Bool),y=(ah (Zq I) (0:Nat) [],eq4 (ah (Zq I) (0:Nat) []) (ah (Zq I) (1:Nat) []))->(4:Nat)=(4:Nat)/\(Wa y o)/\
  (X9 y o))/\((aJ x==(7:Int))=ab->((aJ x==(5:Int))=ac->(0:Nat)+aa (UnX.D I)<=aa (UnX.D I)/\(2:Nat)<=aa
  (Zq I)/\∀(y:Option (List Int)),y=cmb (1:Int) (ah (Zq I) (0:Nat) []) (ah (Zq I) (1:Nat) [])->(4:Nat)=(4:Nat)/\(Vl
  y o)/\(Vk y o))/\((aJ x==(5:Int))=ab->((aJ x==(8:Int))=ac->(0:Nat)+aa (UnX.D I)<=aa (UnX.D I)/\(2:Nat)<=
  aa (Zq I)/\∀(y:Option (List Int)),y=cmb (-1:Int) (ah (Zq I) (0:Nat) []) (ah (Zq I) (1:Nat) [])->(4:Nat)=(4:Nat)
  /\(Vl y o)/\(Vk y o))/\((aJ x==(8:Int))=ab->((aJ x==(9:Int))=ac->(0:Nat)+aa (UnX.D I)<=aa (UnX.D I)/\(2:Nat)
  <=aa (Zq I)/\∀(y:Option (List Int)),y=cmb (-1:Int) (ah (Zq I) (0:Nat) []) (ah (Zq I) (1:Nat) [])->(4:Nat)=(4:
  Nat)/\(Vl y o)/\(Vk y o))/\((aJ x==(9:Int))=ab->((aJ x==(10:Int))=ac->(0:Nat)+aa (UnX.D I)<=aa (UnX.D I)/\(2:
  Nat)<=aa (Zq I)/\∀(y:Option (List Int)),y=cmb (-1:Int) (ah (Zq I) (0:Nat) []) (ah (Zq I) (1:Nat) [])->(4:Nat)=(4
  :Nat)/\(Vl y o)/\(Vk y o))/\((aJ x==(10:Int))=ab->((aJ x==(11:Int))=ac->(0:Nat)+aa (UnX.D I)<=aa (UnX.D I)/\
  (4:Nat)<=aa (Zq I)/\∀(y:List Int×Bool),y=(ah (Zq I) (2:Nat) [],eq4 (ah (Zq I) (0:Nat) []) (ah (Zq
  I) (1:Nat) [])&&eq4 (ah (Zq I) (2:Nat) []) (ah (Zq I) (3:Nat) []))->(4:Nat)=(4:Nat)/\(Wa y o)/\(X9 y o))/\((aJ x
  ==(11:Int))=ab->False)))))))))))/\∀(I:UnX),R ab I->(decide ((↑(UnX.k I):Int)<(↑(aa (bw x)):Int))=ac->(0:Int)<=(↑(UnX.k I):
  Int)/\(↑(UnX.k I):Int)+(1:Int)<=(↑(aa (bw x)):Int)/\∀(U:Ex),(bw x)[ag (↑(UnX.k I):Int)]? =ae U->SV.pmap Xo=Wc/\(Ex.sz
  (U4 U)+(1:Nat)<=m/\Zn (U4 U)=ac)/\∀(J:Option (List Int)),J=U8 (U4 U)->(4:Nat)=(4:Nat)/\((!cI J)=ac->
  (4:Nat)=(4:Nat)/\(4:Nat)=(4:Nat)/\(Zer o)/\ab=cI o/\True)/\((!cI J)=ab->(4:Nat)=(4:Nat)/\((∃(x':UnX),R ac x'
  /\x'.2+(1:Nat)<=I.2/\ac=ac/\((Xo=Xo/\ac=ac)/\(0:Nat)=(0:Nat)/\(0:Nat)=(0:Nat)/\((0:Nat)=(0:Nat)/\(1:Nat)=aa
  (UnX.D x')/\True)/\(bw x=bw x/\(ab=ac->ab=ac))/\(↑(aa (bw x)):Int)=(↑(aa (bw x)):Int)/\wr af ((↑(UnX.k I):Int)
  +(1:Int))=(↑(UnX.k x'):Int)/\True)/\([[ah (Wb J) (0:Nat) (0:Int),ah (Wb J) (1:Nat) (0:Int),ah (Wb J) (2:Nat)
  (0:Int),ah (Wb J) (3:Nat) (0:Int)]]=UnX.D x'/\(0:Nat)=(0:Nat))/\(Zb2 x)/\(Zb3)/\True)\/∃(x':UnX),R ab x'/\x'.2+(1:Nat)<=
  I.2/\ac=ac/\(Zjg x I x')/\(Zb2 x)/\(Zb3)/\True)))/\(decide ((↑(UnX.k I):Int)<(↑(aa (bw x)):Int))=ab->((aJ x==(3:
  Int))=ac->(2:Nat)<=(0:Nat)/\∀(y:List Int×Bool),y=(ah [] (0:Nat) [],eq4 (ah [] (0:Nat) []) (ah [] (1:Nat) []))->(4:Nat)=(4:
  Nat)/\(Wa y o)/\(X9 y o))/\((aJ x==(3:Int))=ab->((aJ x==(4:Int))=ac->(2:Nat)<=(0:Nat)/\∀(y:List Int×Bool),y=(ah [] (0
  :Nat) [],eq4 (ah [] (0:Nat) []) (ah [] (1:Nat) []))->(4:Nat)=(4:Nat)/\(Wa y o)/\(X9 y o))/\((aJ x==(4:Int))=ab->((aJ x
  ==(6:Int))=ac->(2:Nat)<=(0:Nat)/\∀(y:List Int×Bool),y=(ah [] (0:Nat) [],eq4 (ah [] (0:Nat) []) (ah [] (1:Nat) []))->(4:Nat)=
  (4:Nat)/\(Wa y o)/\(X9 y o))/\((aJ x==(6:Int))=ab->((aJ x==(7:Int))=ac->(2:Nat)<=(0:Nat)/\∀(y:List Int×Bool),y=(ah
  [] (0:Nat) [],eq4 (ah [] (0:Nat) []) (ah [] (1:Nat) []))->(4:Nat)=(4:Nat)/\(Wa y o)/\(X9 y o))/\((aJ x==(7:Int))=ab->
  ((aJ x==(5:Int))=ac->(2:Nat)<=(0:Nat)/\∀(y:Option (List Int)),y=cmb (1:Int) (ah [] (0:Nat) []) (ah [] (1:Nat) [])->(4:Nat)=(4:
  Nat)/\(Vl y o)/\(Vk y o))/\((aJ x==(5:Int))=ab->((aJ x==(8:Int))=ac->(2:Nat)<=(0:Nat)/\∀(y:Option (List Int)),y=cmb (-1:Int)
  (ah [] (0:Nat) []) (ah [] (1:Nat) [])->(4:Nat)=(4:Nat)/\(Vl y o)/\(Vk y o))/\((aJ x==(8:Int))=ab->((aJ x==(9:Int))=
  ac->(2:Nat)<=(0:Nat)/\∀(y:Option (List Int)),y=cmb (-1:Int) (ah [] (0:Nat) []) (ah [] (1:Nat) [])->(4:Nat)=(4:Nat)/\(Vl y o)/\
  (Vk y o))/\((aJ x==(9:Int))=ab->((aJ x==(10:Int))=ac->(2:Nat)<=(0:Nat)/\∀(y:Option (List Int)),y=cmb (-1:Int) (ah [] (0:
  Nat) []) (ah [] (1:Nat) [])->(4:Nat)=(4:Nat)/\(Vl y o)/\(Vk y o))/\((aJ x==(10:Int))=ab->((aJ x==(11:Int))=ac->(4:Nat)<=
  (0:Nat)/\∀(y:List Int×Bool),y=(ah [] (2:Nat) [],eq4 (ah [] (0:Nat) []) (ah [] (1:Nat) [])&&eq4 (ah [] (2:Nat) []) (ah []
  (3:Nat) []))->(4:Nat)=(4:Nat)/\(Wa y o)/\(X9 y o))/\((aJ x==(11:Int))=ab->False))))))))))))
  ):=by kernel_rfl
--@end
theorem Yaw:∀k:Nat,k<16-> [[(0:Int),0,0,0],[0,0,0,0],[0,0,0,0],[0,0,0,0],[0,0,0,0],[0,0,0,1],[0,0,1,0],[0,1,0,0],[0,1,0,0],[0,0,0,0],[1,0,0,0],[1,0,0,0],[0,0,0,0],[0,0,0,0],[0,0,0,0],[0,0,0,0]][k]? =ae (Zqs (k:Int)):=by decide
theorem Z5u{d:List Int} (h:Is4 d): [d.getD 0 0,d.getD 1 0,d.getD 2 0,d.getD 3 0]=d:=by
  obtain⟨a,b,c,e,rfl⟩:=h;rfl
theorem Zqp{l:List Ex} {k:Nat} {y:Ex} (h:l[k]? =ae y):W7 (l.drop k)=(U8 y).bind λd=>(W7 (l.drop (k+1))).bind λI=>ae (d::I):=by rw[Z0 h,W7]
def EqB(o:Option (List Int)) (b:Bool) (d:List Int):Prop:=(b=ab->(0=(o.getD [0,0,0,0]).getD 0 0/\0=(o.getD [0,0,0,0]).getD 1 0/\0=(o.getD [0,0,0,0]).getD 2 0/\0=(o.getD [0,0,0,0]).getD 3 0)/\ab=o.isSome)/\
  (b=ac->(d.getD 0 0=(o.getD [0,0,0,0]).getD 0 0/\d.getD 1 0=(o.getD [0,0,0,0]).getD 1 0/\d.getD 2 0=(o.getD [0,0,0,0]).getD 2 0/\d.getD 3 0=(o.getD [0,0,0,0]).getD 3 0)/\ac=o.isSome)
theorem Yax{o:Option (List Int)} (h:o=au):(0=(o.getD [0,0,0,0]).getD 0 0/\0=(o.getD [0,0,0,0]).getD 1 0/\0=(o.getD [0,0,0,0]).getD 2 0/\0=(o.getD [0,0,0,0]).getD 3 0)/\ab=o.isSome:=by subst h;exact⟨⟨rfl,rfl,rfl,rfl⟩,rfl⟩
theorem Z5v{o:Option (List Int)} {b:Bool} {d:List Int} (I:b=ab->o=au) (J:b=ac->o=ae d):EqB o b d:=by
  refine⟨λh=>Yax (I h),λh=> ?_⟩;rw[J h];exact⟨⟨rfl,rfl,rfl,rfl⟩,rfl⟩
theorem Yjy{P:Prop} [Decidable P] {d:List Int}:EqB (if P then ae d else au) (decide P) d:=
  Z5v (λh=>by rw[if_neg (by simpa using h)]) (λh=>by rw[if_pos (by simpa using h)])
theorem powB(o:Option (List Int)):EqB o o.isSome (o.getD [0,0,0,0]):=by
  cases o with
  |none=>exact Z5v (λ_=>rfl) (λh=>by simp at h)
  |some d=>exact Z5v (λh=>by simp at h) (λ_=>rfl)
theorem Yay:∀(m:Nat),m<=1000000000->∀(x:Ex),x.sz<m->Zn x=ac->PureC E 59 [Wc,exA x] (optV (U8 x)):=by
  intro m
  induction m with
  |zero=>intro _ x h;omega
  |succ m ih=>
    intro hb x hm hf;have hF:FnsOk E (Ygg m):=Yat E_ok (Zb Zqo (Zqn λx h=>ih (by omega) x h)) _ _ _;refine Za E_ok (Xk E_ok Zqo λf N c=>(Zf4 E_ok hF 800 f N c).1) ?_;rw[Zzn];unfold Zjg Wb Vm U4 Zb3 Zb2 Vl Wa Zq X9 Vk Zer;have b9:=x.sz_eq;have b8:=Ex.szL_len x.l;obtain⟨⟨f1,f2,f3,f4,f5,f6,f7,f8,f9,b5⟩,b6,b0⟩:=(Zeb x).1 hf
    simp only[Yf,Z6,Wg,Wh,Wi,beq_iff_eq,bne_iff_ne,beq_eq_false_iff_ne,bne_eq_false_iff_eq,decide_eq_true_eq,decide_eq_false_iff_not,bd,bG,bi,cd,aq,cG,cx,bm,beq_self_eq_true,Yt,Yn,ne_eq,and_true,true_and,aS,aO,false_or,or_false,true_implies,imp_self,bX,not_true_eq_false,not_false_eq_true,bJ,cW,dz,cp,forall_eq',forall_eq,eG,eH,aD,bh,cS,cT,tn0,tn1,tn2,tn3,bV,aw,ga,gg,gC,ff,cn4,cn16,Ex.eta,dh,aW]
    rw[Z6g];refine aB (λh1=> ?_) (λh1=>aB (λh2=>⟨by omega,by omega,λy hy=> ?_⟩) (λh2=> ?_))
    ·rw[if_pos h1]
     simp only[cO,jh,Ex.u,cS,cT,and_self]
    ·rw[if_neg h1,if_pos h2]
     obtain⟨k,hk⟩:∃k:Nat,x.n=k:=⟨x.n.toNat,by omega⟩;rw[hk] at hy⊢;rw[bt,Yaw k (by omega)] at hy;cases hy;simp only[cO,jh,and_self]
    ·rw[if_neg h1,if_neg h2]
     refine⟨λs y=>(s=ac↔0<y.k)/\y.k<=x.l.length/\y.D.length=y.k/\W7 x.l=(W7 (x.l.drop y.k)).bind (λR=>ae (y.D++R))/\(∀d∈y.D,Is4 d)/\y.r=x.l.length-y.k,.inr ⟨⟨0,x.l.length,[]⟩,⟨by simp,(by dsimp only;omega),rfl,by simp,by simp,rfl⟩,rfl⟩,?_,?_⟩
     ·rintro y ⟨hs,hk,hD,I,h4,hr⟩
      have a2:=hs.1 rfl;refine aB (λhq=>⟨by omega,by omega,λz J=> ?_⟩) (λhq=> ?_)
      ·have J:x.l[y.k]? =ae z:=J
       rw[Zqp J] at I;have b2:=Ex.sz_mem (aI J);have a1:=formL_iff.1 b0 z (aI J);refine⟨rfl,⟨by omega,a1⟩,λho=> ?_,λho=> ?_⟩
       ·have:W7 x.l=none:=by rw[I,fH.1 ho|>fO.1];rfl
        rw[this];exact Yax rfl
       ·obtain⟨d,hd⟩:=fR.1 ho
        have a0:=Zqt z a1 hd;rw[hd] at I⊢;simp only[cO,Z5u a0];refine⟨⟨by omega,by omega⟩,.inl ⟨⟨y.k+1,x.l.length-(y.k+1),y.D++ [d]⟩,⟨by simp,(by dsimp only;omega),by simp[hD],?_,?_,rfl⟩,(by dsimp only;omega),⟨by simp,wr64 (by omega) (by omega)⟩,rfl⟩⟩
        ·rw[I]
         simp only[eT];cases W7 (x.l.drop (y.k+1)) with
         |none=>rfl
         |some R=>simp
        ·intro e U
         rcases bS.1 U with U|U
         ·exact h4 e U
         ·rw[bZ.1 U];exact a0
      ·rw[Ut (by omega)] at I
       have I:W7 x.l=ae y.D:=by rw[I,W7];simp
       rw[I,eT];have hg:∀i,i<y.D.length->Is4 (y.D.getD i []):=λi hi=>by
         rw[bu,ai hi];exact h4 _ (gn hi)
       have b7:y.D.length=x.l.length:=by omega
       have eqB:V1 x.op y.D=(if y.D.getD 0 []=y.D.getD 1 [] then ae (y.D.getD 0 []) else au)->2<=y.D.length->EqB (V1 x.op y.D) (eq4 (y.D.getD 0 []) (y.D.getD 1 [])) (y.D.getD 0 []):=by
         intro h1 h2;rw[h1,Zss (hg 0 (by omega)) (hg 1 (by omega))];exact Yjy
       refine aB (λa=>⟨by omega,by omega,eqB ?_ (by omega)⟩) (λa3=>aB (λa=>⟨by omega,by omega,eqB ?_ (by omega)⟩) (λa4=>aB (λa=>⟨by omega,by omega,eqB ?_ (by omega)⟩) (λa6=>aB (λa=>⟨by omega,by omega,eqB ?_ (by omega)⟩) (λa7=>aB (λa=>⟨by omega,by omega,?_⟩) (λa5=>aB (λa=>⟨by omega,by omega,?_⟩) (λa8=>aB (λa=>⟨by omega,by omega,?_⟩) (λa9=>aB (λa=>⟨by omega,by omega,?_⟩) (λb3=>aB (λa=>⟨by omega,by omega,?_⟩) (λb4=> ?_)))))))))
       ·unfold V1;rw[if_neg (by omega),if_neg (by omega),if_neg (by omega)]
       ·unfold V1;rw[if_neg (by omega),if_neg (by omega),if_neg (by omega)]
       ·unfold V1;rw[if_neg (by omega),if_neg (by omega),if_neg (by omega)]
       ·unfold V1;rw[if_neg (by omega),if_neg (by omega),if_neg (by omega)]
       ·have:V1 x.op y.D=cmb 1 (y.D.getD 0 []) (y.D.getD 1 []):=by unfold V1;rw[if_pos a]
        rw[this];exact powB _
       ·have:V1 x.op y.D=cmb (-1) (y.D.getD 0 []) (y.D.getD 1 []):=by unfold V1;rw[if_neg (by omega),if_pos (by omega)]
        rw[this];exact powB _
       ·have:V1 x.op y.D=cmb (-1) (y.D.getD 0 []) (y.D.getD 1 []):=by unfold V1;rw[if_neg (by omega),if_pos (by omega)]
        rw[this];exact powB _
       ·have:V1 x.op y.D=cmb (-1) (y.D.getD 0 []) (y.D.getD 1 []):=by unfold V1;rw[if_neg (by omega),if_pos (by omega)]
        rw[this];exact powB _
       ·have:V1 x.op y.D=(if y.D.getD 0 []=y.D.getD 1 []/\y.D.getD 2 []=y.D.getD 3 [] then ae (y.D.getD 2 []) else au):=by unfold V1;rw[if_neg (by omega),if_neg (by omega),if_pos a]
        rw[this];rw[Zss (hg 0 (by omega)) (hg 1 (by omega)),Zss (hg 2 (by omega)) (hg 3 (by omega))];refine aB (λh=> ?_) (λh=> ?_)
        ·rw[if_neg (by
           rintro⟨p,q⟩;rcases h with h|h
           ·exact of_decide_eq_false h p
           ·exact of_decide_eq_false h q)]
         exact Yax rfl
        ·rw[if_pos ⟨of_decide_eq_true h.1,of_decide_eq_true h.2⟩]
         exact⟨⟨rfl,rfl,rfl,rfl⟩,rfl⟩
       ·omega
     ·rintro y ⟨hs,hk,hD,I,h4,hr⟩
      have a2:y.k=0:=by
        rcases ie y.k with h|h
        ·exact h
        ·have:=hs.2 h;simp at this
      have b1:y.D= []:=List.eq_nil_of_length_eq_zero (by omega);refine aB (λhq=>⟨by omega,by omega,λz J=> ?_⟩) (λhq=> ?_)
      ·have J:x.l[y.k]? =ae z:=J
       rw[Zqp J] at I;have b2:=Ex.sz_mem (aI J);have a1:=formL_iff.1 b0 z (aI J);refine⟨rfl,⟨by omega,a1⟩,λho=> ?_,λho=> ?_⟩
       ·have:W7 x.l=none:=by rw[I,fH.1 ho|>fO.1];rfl
        rw[this];exact Yax rfl
       ·obtain⟨d,hd⟩:=fR.1 ho
        have a0:=Zqt z a1 hd;rw[hd] at I⊢;simp only[cO,Z5u a0];rw[a2,b1] at I;refine .inl ⟨⟨1,x.l.length-1,[d]⟩,⟨by simp,(by dsimp only;omega),rfl,?_,?_,rfl⟩,(by dsimp only;omega),⟨rfl,by rw[a2];rfl⟩,rfl⟩
        ·rw[I]
         simp only[eT];show((W7 (x.l.drop (0+1))).bind λR=>ae (d::R)).bind (λR=>ae ([]++R))=(W7 (x.l.drop 1)).bind λR=>ae ([d]++R);cases W7 (x.l.drop (0+1)) with
         |none=>rfl
         |some R=>rfl
        ·intro e U
         rw[bZ.1 U];exact a0
      ·omega
end
section
open Go
theorem Z5l:SumOk E 58 (sumO Zni):=Zro E_ok (Zc (f:=58) rfl) λargs v h=>by
 unfold Zni at h;split at h
 ·cases h;exact Zzr
 ·cases h
theorem Z5m:SumOk E 59 (Zqm 1000000000):=Zqn λx h=>Yay _ (aw _) x h
end
section
open Go
theorem q2{a b:Option (List Int)} {J I:Prop} (R:(a=au\/b=au)->J) (U:∀c d,a=ae c->b=ae d->I):∃Q:Bool->Prop,((a.isSome=ab->Q ac)/\(a.isSome=ac->Q (!b.isSome)))/\(Q ac->J)/\(Q ab->I):=by
 cases a with
 |none=>exact⟨λq=>q=ac,⟨λ_=>rfl,λh=>by simp at h⟩,λ_=>R (.inl rfl),λh=>(by cases h)⟩
 |some c=>
  cases b with
  |none=>exact⟨λq=>q=ac,⟨λh=>by simp at h,λ_=>rfl⟩,λ_=>R (.inr rfl),λh=>(by cases h)⟩
  |some d=>exact⟨λq=>q=ab,⟨λh=>by simp at h,λ_=>rfl⟩,λh=>(by cases h),λ_=>U c d rfl rfl⟩
end
section
open Go
def R3(d:List Int):Prop:=∃a b c e:Int,d= [a,b,c,e]/\(-3<=a/\a<=3)/\(-3<=b/\b<=3)/\(-3<=c/\c<=3)/\(-3<=e/\e<=3)
theorem Yjc{s:Int} {a b d:List Int} (h:cmb s a b=ae d):R3 d:=by
 unfold cmb at h;split at h
 ·rename_i I
  cases h;simp only[aq] at I;exact⟨_,_,_,_,rfl,(Ziq _).1 I.1.1.1,(Ziq _).1 I.1.1.2,(Ziq _).1 I.1.2,(Ziq _).1 I.2⟩
 ·cases h
theorem Yfd(n:Int):R3 (Zqs n):=by
 unfold Zqs;split
 ·exact⟨_,_,_,_,rfl,by decide,by decide,by decide,by decide⟩
 split
 ·exact⟨_,_,_,_,rfl,by decide,by decide,by decide,by decide⟩
 split
 ·exact⟨_,_,_,_,rfl,by decide,by decide,by decide,by decide⟩
 split<;>exact⟨_,_,_,_,rfl,by decide,by decide,by decide,by decide⟩
theorem Yjd{a b c d:Int} (h:Zcg [a,b,c,d]=ac):R3 [a,b,c,d]:=by
 rw[Zp3] at h;simp only[aq,List.all_cons,in1,decide_eq_true_eq] at h;exact⟨a,b,c,d,rfl,by omega,by omega,by omega,by omega⟩
theorem Yfe{op:Int} {J:List (List Int)} {d:List Int} (h:V1 op J=ae d) (R:∀i,i<(if op=11 then 4 else 2)->R3 (J.getD i [])):R3 d:=by
 unfold V1 at h;split at h
 ·exact Yjc h
 ·split at h
  ·exact Yjc h
  ·split at h
   ·rename_i I
    split at h
    ·cases h
     exact R 2 (by rw[if_pos I];omega)
    ·cases h
   ·rename_i I
    split at h
    ·cases h
     exact R 0 (by rw[if_neg I];omega)
    ·cases h
mutual
theorem Z4c:∀(x:Ex) {d:List Int},Zn x=ac->U8 x=ae d->R3 d
 | .mk op n d0 d1 d2 d3 l,d,I,h=>by
  have a0:=(Zeb _).1 I
  rw[U8] at h
  split at h
  ·cases h;exact Yjd a0.2.1
  ·split at h
   ·cases h;exact Yfd n
   ·rename_i h1 h2
    obtain⟨U,R,h⟩:=Option.bind_eq_some_iff.1 h
    refine Yfe h λi hi=> ?_
    simp only[Zn,aq] at I
    have hl:=Z4d l I.2 R
    have a1:=Zgt R
    have J:l.length=Zk8 op:=by
     have:=I.1
     simp only[Zdd,aq,decide_eq_true_eq] at this
     exact this.1.1.2
    unfold Zk8 at J
    rw[if_neg (by omega)] at J
    have:i<U.length:=by rw[a1,J];exact hi
    rw[bu,ai this]
    exact hl _ (gn this)
theorem Z4d:∀(l:List Ex) {I:List (List Int)},Ud l=ac->W7 l=ae I->∀d∈I,R3 d
 | [],I,_,h=>by simp only[W7] at h;cases h;simp
 |x::r,I,R,h=>by
  simp only[Ud,aq] at R
  obtain⟨d,a0,U,h2,rfl⟩:=unitL_cons.1 h
  intro e J
  rcases aL.1 J with rfl|J
  ·exact Z4c x R.1 U
  ·exact Z4d r R.2 h2 e J
end
end
section
open Go
end
section
open Go
end
section
open Go
end
section
open Go
end
section
open Go
noncomputable def dTar:DcL E (Tar×Unit):= .cons (dR .tariffs) .nil
structure KX where
 k:Nat
 r:Nat
def Yb1(t:Tar):Prop:=(∀c∈t.clauses,c.pay.sz<1000000000/\c.when_.length<1000000000000)/\t.clauses.length<1000000000000
noncomputable def Schk:Sum thy:=sumP dTar (λx=>Yb1 x.1) λx=> .int ab .i64 (Z9 x.1)
theorem Yf0:SumOk E 53 Schk:=Yg E_ok (Zc (f:=53) rfl) λx h=>Zk7 _ (λc I=>⟨by have:=(h.1 c I).1;omega,(h.1 c I).2⟩) h.2
def intV(p:Int×Int):SV thy:= .tup [.int ab .i64 p.1,.int ab .i64 p.2]
noncomputable def Atck:Fr thy->Hp thy->Nat->Ann thy:=λT h i=>{X:=KX,fr:=λx=> [(4,T 4),(16,T 16),(17,T 17),(18,.int ab .i64 x.k)],bl:=λx=> [],src:=λ_=> [],md:= [],ih:=i,M:=i+40,meas:=λx=>x.r}
noncomputable def Ftck:Fns thy:=addL (addS (addS (addS F0 53 Schk) 58 (sumO Zni)) 59 (Zqm 1000000000)) 24 6 Atck E
theorem Yf1:FnsOk E Ftck:=Zm E_ok (Zb (Zb (Zb F0_ok Yf0) Z5l) Z5m) _ _ _
abbrev qCZ4:=(0:Int)
abbrev qCZ6(I:Option (List Int)):=(ct I [qCZ4,qCZ4,qCZ4,qCZ4])
abbrev qCZ1(I:Option (List Int)):=(!(ah (qCZ6 I) (0:Nat) qCZ4==(1:Int)&&(ah (qCZ6 I) (1:Nat) qCZ4==qCZ4&&(ah (qCZ6 I) (2:Nat) qCZ4==qCZ4&&(ah (qCZ6 I) (3:Nat) qCZ4==qCZ4&&ac)))))
abbrev qCZ2(I:Cls):=(bU (aJ (aA I)) (bW (aA I)) (bx (aA I)) (bA (aA I)) (bB (aA I)) (bC (aA I)) (bw (aA I)))
abbrev qCZ3(I:Tar):=(↑(aa (ar I)):Int)
abbrev qCZ5(I:KX):=(↑(KX.k I):Int)
theorem Yag(t:Tar) (p:Int×Int):Zk E Ftck (vc E Ftck 400) 24 [tarA t] hp0 0 (λr=>ret E (patch hp0 0 r) r.v (intV p))=(
 ((∀(c:Cls),c∈ar t->Ex.sz (aA c)+(1:Nat)<=(1000000000:Nat)/\aa (aV c)+(1:Nat)<=(1000000000000:Nat))/\aa (ar t)+(1:Nat)<=(1000000000000:Nat))/\((Z9 t !=qCZ4)=ac->qCZ4=ao p/\Z9 t=aE p/\True)/\((Z9 t !=qCZ4)=ab->∃(R:KX->Prop),(∃(x:KX),R x/\ac=ac/\((Xo=Xo/\ac=ac)/\(ar t=ar t/\(ab=ac->ab=ac))/\(qCZ3 t)=(qCZ3 t)/\qCZ4=(qCZ5 x)/\True)/\True)/\∀(x:KX),R x->(decide ((qCZ5 x)<(qCZ3 t))=ac->qCZ4<=(qCZ5 x)/\(qCZ5 x)+(1:Int)<=(qCZ3 t)/\∀(I:Cls),(ar t)[ag (qCZ5 x)]? =ae I->SV.pmap Xo=Wc/\(Ex.sz (qCZ2 I)+(1:Nat)<=(1000000000:Nat)/\Zn (qCZ2 I)=ac)/\∀(o:Option (List Int)),o=U8 (qCZ2 I)->(4:Nat)=(4:Nat)/\((!cI o)=ac->(qCZ5 x)=ao p/\(170:Int)=aE p/\True)/\((!cI o)=ab->(4:Nat)=(4:Nat)/\((qCZ1 o)=ac->(qCZ5 x)=ao p/\(170:Int)=aE p/\True)/\((qCZ1 o)=ab->∃(J:KX),R J/\J.2+(1:Nat)<=x.2/\ac=ac/\((Xo=Xo/\ac=ac)/\(ar t=ar t/\(ab=ac->ab=ac))/\(qCZ3 t)=(qCZ3 t)/\wr af ((qCZ5 x)+(1:Int))=(qCZ5 J)/\True)/\True)))/\(decide ((qCZ5 x)<(qCZ3 t))=ab->qCZ4=ao p/\qCZ4=aE p/\True))):=by kernel_rfl
def goU:Nat->List Cls->Int×Int
 |_,[]=>(0,0)
 |k,c::r=>if U8 c.pay=ae [1,0,0,0] then goU (k+1) r else(k,170)
noncomputable def chkP(t:Tar):Int×Int:=if Z9 t=0 then goU 0 t.clauses else(0,Z9 t)
theorem Z5h:∀(l:List Cls) (a b:Bool) (m:List (List Nat×Bool)),goC a b m l=0->∀c∈l,W5 c=ac
 | [],_,_,_,_,c,I=>by cases I
 |d::r,a,b,m,h,c,I=>by
  rw[Zen] at h
  split at h
  ·rename_i hd
   rcases aL.1 I with rfl|I
   ·exact hd
   ·exact Z5h r _ _ _ h c I
  ·cases h
theorem Z5i{t:Tar} (h:Z9 t=0):∀c∈t.clauses,Zn c.pay=true:=λc I=>by
 unfold Z9 at h;split at h
 ·have:=Z5h _ _ _ _ h c I
  simp only[W5,aq] at this;exact this.1.2
 ·cases h
theorem Yah{l:List Cls} {k:Nat} {c:Cls} (h:l[k]? =ae c):goU k (l.drop k)=if U8 c.pay=ae [1,0,0,0] then goU (k+1) (l.drop (k+1)) else((k:Int),170):=by rw[Z0 h,goU]
theorem Znb{p:Int×Int} {a b:Int} (h:p=(a,b)):a=p.1/\b=p.2:=by rw[h];exact⟨rfl,rfl⟩
theorem Yai(t:Tar) (hs:Yb1 t):PureC E 24 [tarA t] (intV (chkP t)):=by
 refine Za E_ok (Zd E_ok Yf1 400) ?_;rw[Yag];delta qCZ4 qCZ6 qCZ1 qCZ2 qCZ3 qCZ5
 simp only[Yf,Z6,Wg,Wh,Wi,beq_iff_eq,bne_iff_ne,beq_eq_false_iff_ne,bne_eq_false_iff_eq,decide_eq_true_eq,decide_eq_false_iff_not,bd,bG,bi,cd,aq,cG,cx,bm,beq_self_eq_true,Yt,Yn,ne_eq,and_true,true_and,aS,aO,false_or,or_false,true_implies,imp_self,bX,not_true_eq_false,not_false_eq_true,bJ,cW,dz,cp,forall_eq',forall_eq,eG,eH,aD,bh,cS,cT,tn0,tn1,tn2,tn3,bV,aw,ga,gg,gC,ff,cn4,cn16,Ex.eta]
 have a7:=hs;obtain⟨a4,a9⟩:=a7;refine⟨⟨λc I=>aB (by have:=(a4 c I).1;omega) (by have:=(a4 c I).2;omega),by omega⟩,λh=>Znb (by unfold chkP;rw[if_neg h]),λh=> ?_⟩;have e:chkP t=goU 0 t.clauses:=by unfold chkP;rw[if_pos h]
 refine⟨λx=>x.k+x.r=t.clauses.length/\chkP t=goU x.k (t.clauses.drop x.k),⟨⟨0,t.clauses.length⟩,⟨Nat.zero_add _,by rw[e];rfl⟩,rfl⟩,λx J=>⟨λhk=>⟨by omega,by omega,λc I=> ?_⟩,λhk=> ?_⟩⟩
 ·rw[bt] at I
  have hm:=aI I;have hf:=Z5i h c hm;have hd:=Yah I;have a8:=a4 c hm;refine⟨rfl,⟨by omega,hf⟩,λU=> ?_,λU=> ?_⟩
  ·have hn:=fO.1 (fH.1 U)
   exact Znb (by rw[J.2,hd,hn,if_neg (by simp)])
  ·obtain⟨d,a5⟩:=fR.1 U
   obtain⟨a0,a1,a2,a3,rfl,_⟩:=Z4c c.pay hf a5;rw[a5] at hd⊢;simp only[cO,cS,cT]
   refine⟨λhn=>Znb (by
    have a6:¬ae [a0,a1,a2,a3]=ae [(1:Int),0,0,0]:=λhe=>by
     simp only[cp,cR,and_true] at he;omega
    rw[J.2,hd,if_neg a6]),λR=>⟨⟨x.k+1,x.r-1⟩,⟨by dsimp only;omega,?_⟩,by dsimp only;omega,?_⟩⟩
   ·rw[J.2,hd,if_pos (by rw[R.1,R.2.1,R.2.2.1,R.2.2.2])]
   ·dsimp only
    exact(wr64 (by omega) (by omega)).trans (by omega)
 ·exact Znb (by rw[J.2,List.drop_of_length_le (by omega)];rfl)
end
end Go.Proofs.YtpmhbnameoklkaaGreatDoor
