/- Merged texts: TpL, EngZL, TpM, TpI, TpPa, TpIz, EngZM, TpQ, TpPb, TpPc, TpR, TpP0, TpPd, TpPe, TpPf, TpPg, TpS, TpJ0, TpJ, TpT. -/
import Derived.Lib.ItoaNum
import Derived.Test.YtbkgpcknakidkaaGreatDoorMd
open And renaming intro->aC
open Bool renaming and_eq_true->aq,false->ab,false_ne_true->bK,or_eq_false_iff->bI,true->ac
open Except renaming error->aB,ok->aX
open Go.Fn renaming func->cF
open Go.IntKind renaming i64->ag
open Go.Lib renaming bitLen->fY,bitLenAux->kU,decDigits->fa,itoa->gW,join_cons->kX,l10->kc,nDigits->eJ,nDigits_small->ke
open Go.Proofs.YtbkgpcknakidkaaGreatDoor.Cls renaming mk->eF,name->aK,pay->ay,when_->aT
open Go.Proofs.YtbkgpcknakidkaaGreatDoor.Ex renaming d0->bD,d1->bE,d2->bF,d3->bG,eta->gF,l->bw,mk->bV,n->bX,op->aM,sz->cW,szL->kW
open Go.Proofs.YtbkgpcknakidkaaGreatDoor.Tar renaming clauses->ar,for_->aZ,name->ba
open Go.Proofs.YtbkgpcknakidkaaGreatDoor.Th renaming clauses->bA,dimc->kB,strs->du,toks->dm
open Go.Proofs.YtbkgpcknakidkaaGreatDoor.Tok renaming at_->dp,kind->cC,n->fI,text->cP
open Go.Proofs.YtbkgpcknakidkaaGreatDoor.Tst renaming attr->eo,high->fB,low->fA
open Go.Proofs.YtbkgpcknakidkaaGreatDoor.WK renaming at_->dK,ca->gJ,ki->gw,un->eR,words->dL
open Go.Value renaming slice->aG
open Int renaming le_of_lt->lc,le_refl->cj,mul_le_mul_of_nonneg_right->fK,pow_pos->lf,tdiv->dq,tdiv_eq_ediv_of_nonneg->cD,tmod->fb,tmod_eq_emod_of_nonneg->di,toNat->af,toNat_natCast->bk
open List renaming all_eq_true->fL,append_assoc->be,append_nil->cG,cons_append->cd,drop->cx,drop_drop->eS,drop_eq_getElem_cons->cy,drop_eq_nil_of_le->bL,drop_zero->dW,eq_nil_of_length_eq_zero->cH,getD->ah,getD_eq_getElem?_getD->bN,getElem?_cons_zero->dw,getElem?_eq_getElem->ao,getElem?_eq_some_iff->ai,getElem_mem->iJ,length->aa,length_append->az,length_cons->aE,length_drop->cU,length_map->cK,length_nil->bn,length_tail->dP,length_take->bi,map_append->eC,map_congr_left->jA,map_cons->bQ,map_drop->ic,map_eq_nil_iff->jB,map_map->kV,map_nil->dM,mem_append->cf,mem_append_left->eX,mem_append_right->dE,mem_cons->aH,mem_cons_of_mem->aI,mem_of_getElem?->aL,mem_singleton->ct,nil_append->dX,not_mem_nil->kf,range->dk,sum_cons->kI,tail->bC,tail_cons->cw,take->aw,take_add_one->cA,take_left->iO,take_length->aV,take_of_length_le->bh,take_succ_cons->jz
open List.cons renaming inj->eN,injEq->ej
open List.range renaming loop->fk
open Nat renaming add_zero->ei,beq->aO,beq_refl->fP,eq_of_beq_eq_true->ax,le_refl->av,le_trans->bS,lt_of_lt_of_le->ck,lt_or_ge->fH,lt_succ_self->dC,min_eq_left->iX,mul_add->lg,mul_one->jC,pow_add->ld,pow_le_pow_right->gX,reducePow->cV,reduceSub->ie,strongRecOn->iM,zero_le->aW
open Option renaming ne_none_iff_exists'->aY,none->au,some->ae
open Or renaming inl->jt,inr->iY
open Prod renaming fst->ak,snd->aD
open UInt8 renaming ofNat->gq,toNat->db,toNat_ofNat'->ib
namespace Go.Proofs.YtbkgpcknakidkaaGreatDoor
set_option linter.unusedVariables false
set_option linter.unusedSimpArgs false
set_option linter.unnecessarySimpa false
set_option maxRecDepth 100000
section
open Go
def isL(n:Int):Bool:=decide (97<=n)&&decide (n<=122)
def isD(n:Int):Bool:=decide (48<=n)&&decide (n<=57)
def isLD(n:Int):Bool:=isL n||isD n
noncomputable def dU8:Dc E Int:=dInt .u8
theorem Zup(n:Int) (v:Bool):Zk E F0 (vc E F0 400) 96 [.int ab .u8 n] hp0 0 (λr=>ret E (patch hp0 0 r) r.v (.bool ab v))=(
(decide (97<=n)=ac->(decide (n<=122)=ac->ac=v)/\(decide (n<=122)=ab->ab=v))/\(decide (97<=n)=ab->ab=v)):=by kernel_rfl
theorem Zuq(n:Int):PureC E 96 [.int ab .u8 n] (.bool ab (isL n)):=by
 refine Za E_ok (Zd E_ok F0_ok 400) ?_;rw[Zup];unfold isL;refine⟨λh=>⟨λI=> ?_,λI=> ?_⟩,λh=> ?_⟩
 ·rw[h,I];rfl
 ·rw[h,I];rfl
 ·rw[h];rfl
theorem Z0t(n:Int) (v:Bool):Zk E F0 (vc E F0 400) 99 [.int ab .u8 n] hp0 0 (λr=>ret E (patch hp0 0 r) r.v (.bool ab v))=(
(decide (48<=n)=ac->(decide (n<=57)=ac->ac=v)/\(decide (n<=57)=ab->ab=v))/\(decide (48<=n)=ab->ab=v)):=by kernel_rfl
theorem Z0u(n:Int):PureC E 99 [.int ab .u8 n] (.bool ab (isD n)):=by
 refine Za E_ok (Zd E_ok F0_ok 400) ?_;rw[Z0t];unfold isD;refine⟨λh=>⟨λI=> ?_,λI=> ?_⟩,λh=> ?_⟩
 ·rw[h,I];rfl
 ·rw[h,I];rfl
 ·rw[h];rfl
noncomputable def Z7x:Sum thy:=sumP (dA1 dU8) (λ_=>True) λx=> .bool ab (isL x.1)
noncomputable def Yeu:Sum thy:=sumP (dA1 dU8) (λ_=>True) λx=> .bool ab (isD x.1)
theorem Z0v:SumOk E 96 Z7x:=Yo E_ok (Zc (f:=96) rfl) λx _=>Zuq x.1
theorem Z7y:SumOk E 99 Yeu:=Yo E_ok (Zc (f:=99) rfl) λx _=>Z0u x.1
noncomputable def Flx:Fns thy:=addS (addS F0 96 Z7x) 99 Yeu
theorem Z7z:FnsOk E Flx:=Zb (Zb F0_ok Z0v) Z7y
theorem Z70(n:Int) (v:Bool):Zk E Flx (vc E Flx 400) 98 [.int ab .u8 n] hp0 0 (λr=>ret E (patch hp0 0 r) r.v (.bool ab v))=(
True/\(isL n=ac->ac=v)/\(isL n=ab->True/\isD n=v)):=by kernel_rfl
theorem Z71(n:Int):PureC E 98 [.int ab .u8 n] (.bool ab (isLD n)):=by
 refine Za E_ok (Zd E_ok Z7z 400) ?_;rw[Z70];unfold isLD;refine⟨jX,λh=> ?_,λh=>⟨jX,?_⟩⟩
 ·rw[h];rfl
 ·rw[h];rfl
noncomputable def Yn0:Sum thy:=sumP (dA1 dU8) (λ_=>True) λx=> .bool ab (isLD x.1)
theorem Yc4:SumOk E 98 Yn0:=Yo E_ok (Zc (f:=98) rfl) λx _=>Z71 x.1
def Asp:Fr thy->Hp thy->Nat->Ann thy:=λT h i=>{X:=LX,fr:=λx=> [(0,T 0),(1,T 1),(7,T 7),(8,.int ab .i64 x.k)],bl:=λx=> [],src:=λ_=> [],md:= [],ih:=i,M:=i+30,meas:=λx=>x.r}
noncomputable def Z72:Fns thy:=addL (addS Flx 98 Yn0) 97 2 Asp E
theorem Zxq:FnsOk E Z72:=Zm E_ok (Zb Z7z Yc4) _ _ _
def spn(f:Int->Bool):List Nat->Nat
 | []=>0
 |c::r=>if f c then spn f r+1 else 0
theorem Zhl{f:Int->Bool} {s:List Nat} {k c:Nat} (h:s[k]? =ae c):spn f (s.drop k)=if f c then spn f (s.drop (k+1))+1 else 0:=by
 have J:=(ai.1 h).1;have I:s[k]=c:=(ai.1 h).2;rw[cy J,I];rfl
theorem Zrk{f:Int->Bool}:∀{s:List Nat},spn f s<=s.length
 | []=>av _
 |c::r=>by
  unfold spn
  have:=Zrk (f:=f) (s:=r)
  split
  ·simp;omega
  ·exact aW _
theorem Z0w(s:List Nat) (v:Int):Zk E Z72 (vc E Z72 400) 97 [.str ab s,.fn (.func 98) [] []] hp0 0 (λr=>ret E (patch hp0 0 r) r.v (.int ab .i64 v))=(
∃(R:LX->Prop),(∃(x:LX),R x/\ac=ac/\(s=s/\(cF (98:FuncId)=cF (98:FuncId)/\True/\True)/\(↑(aa s):Int)=(↑(aa s):Int)/\0=(↑(LX.k x):Int)/\True)/\True)/\∀(x:LX),R x->(decide ((↑(LX.k x):Int)<(↑(aa s):Int))=ac->0<=(↑(LX.k x):Int)/\(↑(LX.k x):Int)+1<=(↑(aa s):Int)/\∀(I:Nat),s[af (↑(LX.k x):Int)]? =ae I->True/\((!isLD (↑I:Int))=ac->(↑(LX.k x):Int)=v)/\((!isLD (↑I:Int))=ab->∃(J:LX),R J/\J.2+1<=x.2/\ac=ac/\(s=s/\(cF (98:FuncId)=cF (98:FuncId)/\True/\True)/\(↑(aa s):Int)=(↑(aa s):Int)/\wr ag ((↑(LX.k x):Int)+1)=(↑(LX.k J):Int)/\True)/\True))/\(decide ((↑(LX.k x):Int)<(↑(aa s):Int))=ab->(↑(aa s):Int)=v)):=by kernel_rfl
theorem Z0x(s:List Nat) (hs:s.length<=1000000000):PureC E 97 [.str ab s,.fn (.func 98) [] []] (.int ab .i64 (spn isLD s)):=by
 refine Za E_ok (Zd E_ok Zxq 400) ?_;rw[Z0w];refine⟨λx=>x.k<=s.length/\x.k+spn isLD (s.drop x.k)=spn isLD s/\x.r=s.length-x.k,⟨⟨0,s.length,[],0⟩,⟨(by dsimp only;omega),by simp,rfl⟩,by simp⟩,?_⟩;rintro x ⟨hk,I,hr⟩;refine⟨λU=> ?_,λU=> ?_⟩
 ·have U:(x.k:Int)<s.length:=by simpa using U
  refine⟨by omega,by omega,λc R=>⟨jX,λJ=> ?_,λJ=> ?_⟩⟩
  ·have R:s[x.k]? =ae c:=R
   rw[Zhl R] at I;have J:isLD c=false:=by simpa using J
   rw[J] at I;simp at I;rw[<-I]
  ·have R:s[x.k]? =ae c:=R
   rw[Zhl R] at I;have J:isLD c=true:=by simpa using J
   rw[J,jM rfl] at I;exact⟨⟨x.k+1,s.length-(x.k+1),[],0⟩,⟨(by dsimp only;omega),(by dsimp only;omega),rfl⟩,(by show s.length-(x.k+1)+1<=x.r;omega),rfl,⟨rfl,⟨rfl,jX,jX⟩,rfl,wr64 (by omega) (by omega),jX⟩,jX⟩
 ·have U:¬(x.k:Int)<s.length:=by simpa using U
  rw[bL (by omega)] at I;have:x.k=spn isLD s:=by simpa[spn] using I
  omega
theorem Z0y(s:List Nat) (v:Int):Zk E Z72 (vc E Z72 400) 97 [.str ab s,.fn (.func 99) [] []] hp0 0 (λr=>ret E (patch hp0 0 r) r.v (.int ab .i64 v))=(
∃(R:LX->Prop),(∃(x:LX),R x/\ac=ac/\(s=s/\(cF (99:FuncId)=cF (99:FuncId)/\True/\True)/\(↑(aa s):Int)=(↑(aa s):Int)/\0=(↑(LX.k x):Int)/\True)/\True)/\∀(x:LX),R x->(decide ((↑(LX.k x):Int)<(↑(aa s):Int))=ac->0<=(↑(LX.k x):Int)/\(↑(LX.k x):Int)+1<=(↑(aa s):Int)/\∀(I:Nat),s[af (↑(LX.k x):Int)]? =ae I->True/\((!isD (↑I:Int))=ac->(↑(LX.k x):Int)=v)/\((!isD (↑I:Int))=ab->∃(J:LX),R J/\J.2+1<=x.2/\ac=ac/\(s=s/\(cF (99:FuncId)=cF (99:FuncId)/\True/\True)/\(↑(aa s):Int)=(↑(aa s):Int)/\wr ag ((↑(LX.k x):Int)+1)=(↑(LX.k J):Int)/\True)/\True))/\(decide ((↑(LX.k x):Int)<(↑(aa s):Int))=ab->(↑(aa s):Int)=v)):=by kernel_rfl
theorem Z0z(s:List Nat) (hs:s.length<=1000000000):PureC E 97 [.str ab s,.fn (.func 99) [] []] (.int ab .i64 (spn isD s)):=by
 refine Za E_ok (Zd E_ok Zxq 400) ?_;rw[Z0y];refine⟨λx=>x.k<=s.length/\x.k+spn isD (s.drop x.k)=spn isD s/\x.r=s.length-x.k,⟨⟨0,s.length,[],0⟩,⟨(by dsimp only;omega),by simp,rfl⟩,by simp⟩,?_⟩;rintro x ⟨hk,I,hr⟩;refine⟨λU=> ?_,λU=> ?_⟩
 ·have U:(x.k:Int)<s.length:=by simpa using U
  refine⟨by omega,by omega,λc R=>⟨jX,λJ=> ?_,λJ=> ?_⟩⟩
  ·have R:s[x.k]? =ae c:=R
   rw[Zhl R] at I;have J:isD c=false:=by simpa using J
   rw[J] at I;simp at I;rw[<-I]
  ·have R:s[x.k]? =ae c:=R
   rw[Zhl R] at I;have J:isD c=true:=by simpa using J
   rw[J,jM rfl] at I;exact⟨⟨x.k+1,s.length-(x.k+1),[],0⟩,⟨(by dsimp only;omega),(by dsimp only;omega),rfl⟩,(by show s.length-(x.k+1)+1<=x.r;omega),rfl,⟨rfl,⟨rfl,jX,jX⟩,rfl,wr64 (by omega) (by omega),jX⟩,jX⟩
 ·have U:¬(x.k:Int)<s.length:=by simpa using U
  rw[bL (by omega)] at I;have:x.k=spn isD s:=by simpa[spn] using I
  omega
def Anu:Fr thy->Hp thy->Nat->Ann thy:=λT h i=>{X:=LX,fr:=λx=> [(0,T 0),(4,.int ab .i64 x.m),(15,T 15),(16,.int ab .i64 x.k)],bl:=λx=> [],src:=λ_=> [],md:= [],ih:=i,M:=i+30,meas:=λx=>x.r}
noncomputable def Fnum:Fns thy:=addL F0 100 5 Anu E
theorem Yj3:FnsOk E Fnum:=Zm E_ok F0_ok _ _ _
def numL(n:Int):List Nat->Int×Int
 | []=>(n,0)
 |c::r=>if 10*n+(c-48)>1099511627776 then(0,2) else numL (10*n+(c-48)) r
def numb(s:List Nat):Int×Int:=if 1<s.length/\s.head? =ae 48 then(0,150) else numL 0 s
theorem Z73{n:Int} {s:List Nat} {k c:Nat} (h:s[k]? =ae c):numL n (s.drop k)=if 10*n+(c-48)>1099511627776 then(0,2) else numL (10*n+(c-48)) (s.drop (k+1)):=by
 have J:=(ai.1 h).1;have I:s[k]=c:=(ai.1 h).2;rw[cy J,I];rfl
abbrev qCD1(I:LX) (J:Nat):=(wr ag ((10:Int)*LX.m I)+wr ag (wr IntKind.u8 ((↑J:Int)-(48:Int))))
abbrev qCD2(I:List Nat):=(↑(aa I):Int)
abbrev qCD3(I:LX):=(↑(LX.k I):Int)
abbrev qCD4:=(0:Int)
theorem Zur(s:List Nat) (v e:Int):Zk E Fnum (vc E Fnum 400) 100 [.str ab s] hp0 0 (λr => ret E (patch hp0 0 r) r.v (.tup [.int ab .i64 v,.int ab .i64 e])) = (
 ∃ (Q:Bool->Prop),((decide ((qCD2 s) > 1) = ac->qCD4<=qCD4/\qCD4 + 1<=(qCD2 s)/\∀ (x:Nat),s[af qCD4]? = ae x->(((↑x:Int) == 48) = ac->Q ac)/\(((↑x:Int) == 48) = ab->Q ab))/\(decide ((qCD2 s) > 1) = ab->Q ab))/\(Q ac->qCD4 = v/\150 = e/\True)/\(Q ab->∃ (R:LX->Prop),(∃ (x:LX),R x/\ac = ac/\(s = s/\qCD4 = LX.m x/\(qCD2 s) = (qCD2 s)/\qCD4 = (qCD3 x)/\True)/\True)/\∀ (x:LX),R x->(decide ((qCD3 x) < (qCD2 s)) = ac->qCD4<=(qCD3 x)/\(qCD3 x) + 1<=(qCD2 s)/\∀ (I:Nat),s[af (qCD3 x)]? = ae I->(decide (wr ag (qCD1 x I) > 1099511627776) = ac->qCD4 = v/\2 = e/\True)/\(decide (wr ag (qCD1 x I) > 1099511627776) = ab->∃ (J:LX),R J/\J.2 + 1<=x.2/\ac = ac/\(s = s/\wr ag (qCD1 x I) = LX.m J/\(qCD2 s) = (qCD2 s)/\wr ag ((qCD3 x) + 1) = (qCD3 J)/\True)/\True))/\(decide ((qCD3 x) < (qCD2 s)) = ab->LX.m x = v/\qCD4 = e/\True))):=by kernel_rfl
theorem Zus(s : List Nat) (hs : s.length ≤ 1000000000) (hd : ∀ c ∈ s, 48 ≤ c ∧ c ≤ 57) : PureC E 100 [.str ab s] (.tup [.int ab .i64 (numb s).1, .int ab .i64 (numb s).2]) := by
  refine Za E_ok (Zd E_ok Yj3 400) ?_;rw[Zur]; delta qCD1 qCD2 qCD3 qCD4;refine⟨λb => b = decide (1 < s.length ∧ s.head? = ae 48), ⟨λh => ?_, λh => ?_⟩, λh => ?_, λh => ?_⟩
  ·have h : (1 : Int) < s.length := by simpa using h
   refine⟨cj 0, by omega, λx hx => ?_⟩;have hx : s[0]? = ae x := hx;rw[List.head?_eq_getElem?, hx];refine⟨λh2 => ?_, λh2 => ?_⟩
   ·have h2 : x = 48 := by have : (x : Int) = 48 := by simpa using h2
                           omega
    simp[h2]; omega
   ·have h2 : x ≠ 48 := by
      intro e;subst e;simp at h2
    simp[h2]
  ·have h : ¬ (1 : Int) < s.length := by simpa using h
   have : ¬ 1 < s.length := by omega
   simp[this]
  ·have h := (decide_eq_true_iff.1 h.symm)
   unfold numb;rw[jM h];exact⟨rfl, rfl, jX⟩
  ·have h := (fG.1 h.symm)
   have hn : numb s = numL 0 s := by unfold numb; rw[jJ h]
   rw[hn];refine⟨λx => x.k ≤ s.length ∧ numL x.m (s.drop x.k) = numL 0 s ∧ 0 ≤ x.m ∧ x.m ≤ 1099511627776 ∧ x.r = s.length - x.k, ⟨⟨0, s.length, [], 0⟩, ⟨(by dsimp only; omega), rfl, cj 0, (by show(0:Int) ≤ 1099511627776; omega), rfl⟩, by simp⟩, ?_⟩;rintro x ⟨hk, hv, hm0, hm1, hr⟩;refine⟨λhq => ?_, λhq => ?_⟩
   ·have hq : (x.k : Int) < s.length := by simpa using hq
    refine⟨by omega, by omega, λc hc => ?_⟩;have hc : s[x.k]? = ae c := hc;have hcd := hd c (aL hc);have w0 : wr .u8 ((c : Int) - 48) = c - 48 := by simp only[wr, IntKind.wrap_u8]; omega
    have w1 : wr .i64 (10 * x.m) = 10 * x.m := wr64 (by omega) (by omega);have w2 : wr .i64 ((c : Int) - 48) = c - 48 := wr64 (by omega) (by omega);have w3 : wr .i64 (10 * x.m + ((c : Int) - 48)) = 10 * x.m + (c - 48) := wr64 (by omega) (by omega);rw[w0, w1, w2, w3];rw[Z73 hc] at hv;refine⟨λh2 => ?_, λh2 => ?_⟩
    ·have h2 : 10 * x.m + ((c : Int) - 48) > 1099511627776 := by simpa using h2
     rw[jM h2] at hv;rw[← hv];exact⟨rfl, rfl, jX⟩
    ·have h2 : ¬ 10 * x.m + ((c : Int) - 48) > 1099511627776 := by simpa using h2
     rw[jJ h2] at hv;exact⟨⟨x.k + 1, s.length - (x.k + 1), [], 10 * x.m + (c - 48)⟩, ⟨(by dsimp only; omega), hv, (by dsimp only; omega), (by dsimp only; omega), rfl⟩, (by show s.length - (x.k + 1) + 1 ≤ x.r; omega), rfl, ⟨rfl, rfl, rfl, wr64 (by omega) (by omega), jX⟩, jX⟩
   ·have hq : ¬ (x.k : Int) < s.length := by simpa using hq
    rw[bL (by omega)] at hv;rw[← hv];exact⟨rfl, rfl, jX⟩
noncomputable def dSF:Dc E Bool where
 dec v:=match v with| .fn (.func f) [] []=>(match aO f 98 with|true=>ae ac|false=>(match aO f 99 with|true=>ae ab|false=>au))|_=>au
 enc b:= .fn (.func (bif b then 98 else 99)) [] []
 ok v a h:=by
  split at h
  ·rename_i f
   split at h
   ·rename_i e
    cases h
    have e:=ax e
    cases e
    exact⟨rfl,rfl,λσ g u hd=>hd⟩
   ·split at h
    ·rename_i e
     cases h
     have e:=ax e
     cases e
     exact⟨rfl,rfl,λσ g u hd=>hd⟩
    ·cases h
  ·cases h
def spF(b:Bool) (s:List Nat):Nat:=bif b then spn isLD s else spn isD s
noncomputable def Yn1:Sum thy:=Ws (DcL.cons dS (DcL.cons dSF DcL.nil)) (λx=>x.1.length<=1000000000) (λx=>spF x.2.1 x.1) λ(y:Nat)=> .int ab .i64 y
theorem Yc5:SumOk E 97 Yn1:=Z1 E_ok (Zc (f:=97) rfl) λx h=>by
 obtain⟨s,b,_⟩:=x;cases b with
 |true=>exact Z0x s h
 |false=>exact Z0z s h
noncomputable def Z74:Sum thy:=Ws (dA1 dS) (λx=>x.1.length<=1000000000/\∀c∈x.1,48<=c/\c<=57) (λx=>numb x.1) λy=> .tup [.int ab .i64 y.1,.int ab .i64 y.2]
theorem Z00:SumOk E 100 Z74:=Z1 E_ok (Zc (f:=100) rfl) λx h=>Zus x.1 h.1 h.2
noncomputable def Ftok:Fns thy:=addS (addS Flx 97 Yn1) 100 Z74
theorem Yj4:FnsOk E Ftok:=Zb (Zb Z7z Yc5) Z00
def tokV(t:Tok):SV thy:= .agg [.int ab .i64 t.kind,.str ab t.text,.int ab .i64 t.n,.int ab .i64 t.at_]
abbrev Yt(t:Tok):Prop:=
 (0:Int)=cC t/\ []=cP t/\(0:Int)=fI t/\(0:Int)=dp t/\True
abbrev Wl(s:List Nat) (t:Tok) (e:Int):Prop:=
 decide ((↑(aa s):Int)>=(1:Int))=ab->(Yt t)/\(150:Int)=e/\True
abbrev Wm(s:List Nat):Prop:=
 (0:Int)<=(1:Int)/\(1:Int)<=(↑(aa s):Int)
abbrev qCD5:=(af (1:Int))
abbrev qCD8(I:List Nat):=(↑(aa I):Int)
abbrev qCD6(I:List Nat):=((qCD8 I)>=(1:Int))
abbrev qCD7:=(0:Int)
abbrev qCD9:=(150:Int)
abbrev qCDc(I:Nat):=(↑I:Int)
abbrev qCDa(I:Nat):=(af (qCDc I))
abbrev qCDb:=(3:Int)
theorem Z01(s:List Nat) (t:Tok) (e:Int):Zk E Ftok (vc E Ftok 400) 56 [.str ab s] hp0 0 (λr=>ret E (patch hp0 0 r) r.v (.tup [tokV t,.int ab .i64 e]))=(
 qCD7<=qCD7/\qCD7+1<=(qCD8 s)/\∀(x:Nat),s[af qCD7]? =ae x->True/\(isL (qCDc x)=ac->aa s<=1000000000/\∀(y:Nat),y=spF ac s->(qCD7<=(qCDc y)/\(qCDc y)<=(qCD8 s))/\(decide ((↑(aa (aw (qCDa y) s)):Int)>32)=ac->(Yt t)/\2=e/\True)/\(decide ((↑(aa (aw (qCDa y) s)):Int)>32)=ab->(1=cC t/\aw (qCDa y) s=cP t/\qCD7=fI t/\qCD7=dp t/\True)/\qCD7=e/\True))/\(isL (qCDc x)=ab->True/\(isD (qCDc x)=ac->aa s<=1000000000/\∀(y:Nat),y=spF ab s->(qCD7<=(qCDc y)/\(qCDc y)<=(qCD8 s))/\(aa (aw (qCDa y) s)<=1000000000/\∀(c:Nat),c∈aw (qCDa y) s->48<=c/\c<=57)/\∀(I:Int×Int),I=numb (aw (qCDa y) s)->(2=cC t/\aw (qCDa y) s=cP t/\ak I=fI t/\qCD7=dp t/\True)/\aD I=e/\True)/\(isD (qCDc x)=ab->qCD7<=qCD7/\qCD7+1<=(qCD8 s)/\∀(x:Nat),s[af qCD7]? =ae x->(((qCDc x)==(↑123:Int))=ac->(decide (qCD6 s)=ac->(Wm s)/\((aw qCD5 s== [123])=ac->(qCDb=cC t/\ [123]=cP t/\qCD7=fI t/\qCD7=dp t/\True)/\qCD7=e/\True)/\((aw qCD5 s== [123])=ab->(Yt t)/\qCD9=e/\True))/\(Wl s t e))/\(((qCDc x)==(↑123:Int))=ab->(((qCDc x)==(↑125:Int))=ac->(decide (qCD6 s)=ac->(Wm s)/\((aw qCD5 s== [125])=ac->(qCDb=cC t/\ [125]=cP t/\qCD7=fI t/\qCD7=dp t/\True)/\qCD7=e/\True)/\((aw qCD5 s== [125])=ab->(Yt t)/\qCD9=e/\True))/\(Wl s t e))/\(((qCDc x)==(↑125:Int))=ab->(((qCDc x)==(↑40:Int))=ac->(decide (qCD6 s)=ac->(Wm s)/\((aw qCD5 s== [40])=ac->(qCDb=cC t/\ [40]=cP t/\qCD7=fI t/\qCD7=dp t/\True)/\qCD7=e/\True)/\((aw qCD5 s== [40])=ab->(Yt t)/\qCD9=e/\True))/\(Wl s t e))/\(((qCDc x)==(↑40:Int))=ab->(((qCDc x)==(↑41:Int))=ac->(decide (qCD6 s)=ac->(Wm s)/\((aw qCD5 s== [41])=ac->(qCDb=cC t/\ [41]=cP t/\qCD7=fI t/\qCD7=dp t/\True)/\qCD7=e/\True)/\((aw qCD5 s== [41])=ab->(Yt t)/\qCD9=e/\True))/\(Wl s t e))/\(((qCDc x)==(↑41:Int))=ab->(((qCDc x)==(↑59:Int))=ac->(decide (qCD6 s)=ac->(Wm s)/\((aw qCD5 s== [59])=ac->(qCDb=cC t/\ [59]=cP t/\qCD7=fI t/\qCD7=dp t/\True)/\qCD7=e/\True)/\((aw qCD5 s== [59])=ab->(Yt t)/\qCD9=e/\True))/\(Wl s t e))/\(((qCDc x)==(↑59:Int))=ab->(((qCDc x)==(↑44:Int))=ac->(decide (qCD6 s)=ac->(Wm s)/\((aw qCD5 s== [44])=ac->(qCDb=cC t/\ [44]=cP t/\qCD7=fI t/\qCD7=dp t/\True)/\qCD7=e/\True)/\((aw qCD5 s== [44])=ab->(Yt t)/\qCD9=e/\True))/\(Wl s t e))/\(((qCDc x)==(↑44:Int))=ab->(((qCDc x)==(↑43:Int))=ac->(decide (qCD6 s)=ac->(Wm s)/\((aw qCD5 s== [43])=ac->(qCDb=cC t/\ [43]=cP t/\qCD7=fI t/\qCD7=dp t/\True)/\qCD7=e/\True)/\((aw qCD5 s== [43])=ab->(Yt t)/\qCD9=e/\True))/\(Wl s t e))/\(((qCDc x)==(↑43:Int))=ab->(((qCDc x)==(↑45:Int))=ac->(decide (qCD6 s)=ac->(Wm s)/\((aw qCD5 s== [(45:
Nat)])=ac->(qCDb=cC t/\ [45]=cP t/\qCD7=fI t/\qCD7=dp t/\True)/\qCD7=e/\True)/\((aw qCD5 s== [45])=ab->(Yt t)/\qCD9=e/\True))/\(Wl s t e))/\(((qCDc x)==(↑45:Int))=ab->(((qCDc x)==(↑42:Int))=ac->(decide (qCD6 s)=ac->(Wm s)/\((aw qCD5 s== [42])=ac->(qCDb=cC t/\ [42]=cP t/\qCD7=fI t/\qCD7=dp t/\True)/\qCD7=e/\True)/\((aw qCD5 s== [42])=ab->(Yt t)/\qCD9=e/\True))/\(Wl s t e))/\(((qCDc x)==(↑42:Int))=ab->(((qCDc x)==(↑60:Int))=ac->(decide (qCD6 s)=ac->(Wm s)/\((aw qCD5 s== [60])=ac->(qCDb=cC t/\ [60]=cP t/\qCD7=fI t/\qCD7=dp t/\True)/\qCD7=e/\True)/\((aw qCD5 s== [60])=ab->(Yt t)/\qCD9=e/\True))/\(Wl s t e))/\(((qCDc x)==(↑60:Int))=ab->(((qCDc x)==(↑46:Int))=ac->(decide ((qCD8 s)>=2)=ac->(qCD7<=2/\2<=(qCD8 s))/\((aw (af 2) s== [46,46])=ac->(qCDb=cC t/\ [46,46]=cP t/\qCD7=fI t/\qCD7=dp t/\True)/\qCD7=e/\True)/\((aw (af 2) s== [46,46])=ab->(Yt t)/\qCD9=e/\True))/\(decide ((qCD8 s)>=2)=ab->(Yt t)/\qCD9=e/\True))/\(((qCDc x)==(↑46:Int))=ab->(Yt t)/\qCD9=e/\True)))))))))))))):=by kernel_rfl
def sgnW(c:Nat):Option (List Nat):=
 if c=123 then ae [123] else if c=125 then ae [125] else if c=40 then ae [40] else if c=41 then ae [41] else if c=59 then ae [59] else if c=44 then ae [44]
 else if c=43 then ae [43] else if c=45 then ae [45] else if c=42 then ae [42] else if c=60 then ae [60] else if c=46 then ae [46,46] else au
def z0:Tok:=⟨0,[],0,0⟩
def tokS(s w:List Nat):Tok×Int:=if s.take w.length=w then(⟨3,w,0,0⟩,0) else(z0,150)
def tokP:List Nat->Tok×Int
 | []=>(z0,150)
 |c::r=>if isL c then(if 32<spn isLD (c::r) then(z0,2) else(⟨1,(c::r).take (spn isLD (c::r)),0,0⟩,0))
  else if isD c then(⟨2,(c::r).take (spn isD (c::r)),(numb ((c::r).take (spn isD (c::r)))).1,0⟩,(numb ((c::r).take (spn isD (c::r)))).2)
  else match sgnW c with|some w=>tokS (c::r) w|none=>(z0,150)
theorem Xa(c:Nat) (r:List Nat):tokP (c::r)=if isL c then(if 32<spn isLD (c::r) then(z0,2) else(⟨1,(c::r).take (spn isLD (c::r)),0,0⟩,0))
 else if isD c then(⟨2,(c::r).take (spn isD (c::r)),(numb ((c::r).take (spn isD (c::r)))).1,0⟩,(numb ((c::r).take (spn isD (c::r)))).2)
 else match sgnW c with|some w=>tokS (c::r) w|none=>(z0,150):=rfl
theorem Zn5{f:Int->Bool}:∀{s:List Nat} {c:Nat},c∈s.take (spn f s)->f c=ac
 | [],c,h=>by simp at h
 |x::r,c,h=>by
  unfold spn at h
  split at h
  ·rename_i I
   rw[jz,aH] at h
   rcases h with rfl|h
   ·exact I
   ·exact Zn5 h
  ·simp at h
theorem Zbt(s w:List Nat) (k:Int) (J:k=w.length):
 (decide ((↑(aa s):Int)>=k)=ac->(0<=k/\k<=(↑(aa s):Int))/\((aw (af k) s==w)=ac->(3=cC (tokS s w).1/\w=cP (tokS s w).1/\0=fI (tokS s w).1/\0=dp (tokS s w).1/\True)/\0=(tokS s w).2/\True)/\
  ((aw (af k) s==w)=ab->(0=cC (tokS s w).1/\ []=cP (tokS s w).1/\0=fI (tokS s w).1/\0=dp (tokS s w).1/\True)/\150=(tokS s w).2/\True))/\
 (decide ((↑(aa s):Int)>=k)=ab->(0=cC (tokS s w).1/\ []=cP (tokS s w).1/\0=fI (tokS s w).1/\0=dp (tokS s w).1/\True)/\150=(tokS s w).2/\True):=by
 have e:af k=w.length:=by omega
 rw[e]
 unfold tokS
 refine⟨λh=> ?_,λh=> ?_⟩
 ·have h:(s.length:Int)>=k:=by simpa using h
  refine⟨⟨by omega,by omega⟩,λI=> ?_,λI=> ?_⟩
  ·have I:aw w.length s=w:=by simpa using I
   rw[jM I]
   exact⟨⟨rfl,rfl,rfl,rfl,jX⟩,rfl,jX⟩
  ·have I:aw w.length s≠w:=by simpa using I
   rw[jJ I]
   exact⟨⟨rfl,rfl,rfl,rfl,jX⟩,rfl,jX⟩
 ·have h:¬(s.length:Int)>=k:=by simpa using h
  have I:aw w.length s≠w:=λe=>by
   have:=kk aa e
   rw[bi] at this
   omega
  rw[jJ I]
  exact⟨⟨rfl,rfl,rfl,rfl,jX⟩,rfl,jX⟩
theorem Z02(s : List Nat) (h0 : 0 < s.length) (hs : s.length ≤ 1000000000) : PureC E 56 [.str ab s] (.tup [tokV (tokP s).1, .int ab .i64 (tokP s).2]) := by
  refine Za E_ok (Zd E_ok Yj4 400) ?_;rw[Z01]; delta qCD5 qCD8 qCD6 qCD7 qCD9 qCDc qCDa qCDb;unfold Wm Wl Yt;cases s with
  | nil => exact ka h0 (by simp)
  | cons c r =>
  refine⟨cj 0, by simp only[aE]; omega, λx R => ?_⟩;have R : (c :: r)[0]? = ae x := R;rw[dw] at R;cases R;refine⟨jX, λU => ?_, λU => ?_⟩
  ·refine⟨hs, λy J => ?_⟩
   have J : y = spn isLD (c :: r) := J;have a0 : y ≤ (c :: r).length := J ▸ Zrk;have hm : min y (c :: r).length = y := iX a0;have e1 : af (y : Int) = y := by omega
   rw[e1, bi, hm];rw[Xa, jM U, ← J];refine⟨⟨by omega, by omega⟩, λh => ?_, λh => ?_⟩
   ·have h : (32 : Int) < y := by simpa using h
    rw[jM (by omega)];exact⟨⟨rfl, rfl, rfl, rfl, jX⟩, rfl, jX⟩
   ·have h : ¬ (32 : Int) < y := by simpa using h
    rw[jJ (by omega)];exact⟨⟨rfl, rfl, rfl, rfl, jX⟩, rfl, jX⟩
  refine⟨jX, λhd => ?_, λhd => ?_⟩
  ·refine⟨hs, λy J => ?_⟩
   have J : y = spn isD (c :: r) := J;have a0 : y ≤ (c :: r).length := J ▸ Zrk;have hm : min y (c :: r).length = y := iX a0;have e1 : af (y : Int) = y := by omega
   rw[e1, bi, hm];rw[Xa, jJ (by rw[U]; decide), jM hd, ← J];refine⟨⟨by omega, by omega⟩, ⟨by omega, λc' a1 => ?_⟩, λq hq => ?_⟩
   ·rw[J] at a1
    have := Zn5 a1;unfold isD at this;simp at this;omega
   ·subst hq
    exact⟨⟨rfl, rfl, rfl, rfl, jX⟩, rfl, jX⟩
  refine⟨cj 0, by simp only[aE]; omega, λx R => ?_⟩;have R : (c :: r)[0]? = ae x := R;rw[dw] at R;cases R;have hp : ∀ w, sgnW c = ae w → tokP (c :: r) = tokS (c :: r) w := λw hw => by
    rw[Xa, jJ (by rw[U]; decide), jJ (by rw[hd]; decide), hw]
  have I : ∀ (n : Nat) (w : List Nat), sgnW n = ae w → ((c : Int) == (n : Int)) = ac → tokP (c :: r) = tokS (c :: r) w := λn w hw h => by
    have : c = n := by have : (c : Int) = n := by simpa using h
                       omega
    subst this;exact hp w hw
  refine⟨λh => by rw[I _ _ rfl h]; exact Zbt _ _ _ rfl, λh1 => ?_⟩;refine⟨λh => by rw[I _ _ rfl h]; exact Zbt _ _ _ rfl, λh2 => ?_⟩;refine⟨λh => by rw[I _ _ rfl h]; exact Zbt _ _ _ rfl, λh3 => ?_⟩;refine⟨λh => by rw[I _ _ rfl h]; exact Zbt _ _ _ rfl, λh4 => ?_⟩;refine⟨λh => by rw[I _ _ rfl h]; exact Zbt _ _ _ rfl, λh5 => ?_⟩;refine⟨λh => by rw[I _ _ rfl h]; exact Zbt _ _ _ rfl, λh6 => ?_⟩;refine⟨λh => by rw[I _ _ rfl h]; exact Zbt _ _ _ rfl, λh7 => ?_⟩;refine⟨λh => by rw[I _ _ rfl h]; exact Zbt _ _ _ rfl, λh8 => ?_⟩
  refine⟨λh => by rw[I _ _ rfl h]; exact Zbt _ _ _ rfl, λh9 => ?_⟩;refine⟨λh => by rw[I _ _ rfl h]; exact Zbt _ _ _ rfl, λa2 => ?_⟩;refine⟨λh => by rw[I _ _ rfl h]; exact Zbt _ _ _ rfl, λa3 => ?_⟩;have hn : sgnW c = none := by
    have f : ∀ n : Nat, ((c : Int) == (n : Int)) = ab → c ≠ n := λn h e => by subst e; simp at h
    unfold sgnW;rw[jJ (f _ h1), jJ (f _ h2), jJ (f _ h3), jJ (f _ h4), jJ (f _ h5), jJ (f _ h6), jJ (f _ h7), jJ (f _ h8), jJ (f _ h9), jJ (f _ a2), jJ (f _ a3)]
  have : tokP (c :: r) = (z0, 150) := by
    rw[Xa, jJ (by rw[U]; decide), jJ (by rw[hd]; decide), hn]
  rw[this];exact⟨⟨rfl, rfl, rfl, rfl, jX⟩, rfl, jX⟩
noncomputable def Yev:Sum thy:=Ws (dA1 dS) (λx=>0<x.1.length/\x.1.length<=1000000000) (λx=>tokP x.1) λy=> .tup [tokV y.1,.int ab .i64 y.2]
theorem Z75:SumOk E 56 Yev:=Z1 E_ok (Zc (f:=56) rfl) λx h=>Z02 x.1 h.1 h.2
structure TkX where
 at_:Nat
 ts:List Tok
 r:Nat
def Atk:Fr thy->Hp thy->Nat->Ann thy:=λT h i=>{X:=Bool×TkX,fr:=λx=> [(0,T 0),(5,match x.1 with|true=> .sl i 0 x.2.ts.length 4 au|false=> .val (.slice au 0 0)),(6,.int ab .i64 x.2.at_)],bl:=λx=>(match x.1 with|true=> [(i,.rows dm x.2.ts 0)]|false=> []),src:=λx=>(match x.1 with|true=> [(i,5)]|false=> []),md:= [],ih:=i+1,M:=i+60,meas:=λx=>x.2.r,ex:=ex2,al:=al2,exOk:=Zgg,alOk:=Zgh}
noncomputable def Ftk:Fns thy:=addL (addS F0 56 Yev) 24 5 Atk E
theorem Yn2:FnsOk E Ftk:=Zm E_ok (Zb F0_ok Z75) _ _ _
abbrev Zbu(R:Bool×TkX->Prop) (y:TkX) (s:List Nat):Prop:=
 ∃(I:TkX),R (ab,I)/\I.3+(1:Nat)<=y.3/\ac=ac/\(s=s/\aG au (0:Nat) (0:Nat)=aG au (0:Nat) (0:Nat)/\wr ag
 ((↑(TkX.at_ y):Int)+(1:Int))=(↑(TkX.at_ I):Int)/\True)/\True
abbrev Zbv(R:Bool×TkX->Prop) (y:TkX) (s:List Nat):Prop:=
 ∃(I:TkX),R (ab,I)/\I.3+(1:Nat)<=y.3/\ac=ac/\(s=s/\False/\wr ag ((↑(TkX.at_ y):Int)+(1:Int))=(↑(TkX.at_ I):Int)/\True)/\True
abbrev Zbw(s:List Nat) (y:TkX) (I:TkX):Prop:=
 s=s/\((0:Nat)=(0:Nat)/\aa (TkX.ts y)=aa (TkX.ts I)/\True)/\wr ag ((↑(TkX.at_ y):Int)+(1:Int))=(↑(TkX.at_ I):Int)/\True
abbrev Zbx(y:TkX) (s:List Nat):Prop:=
 idxL (af (10:Int)%(256:Nat)) (0:Nat) (cx (af (↑(TkX.at_ y):Int)) s)<(0:Int)
abbrev Zfb(y:TkX) (s:List Nat):=
 ((↑(TkX.at_ y):Int)+wr ag (idxL (af (10:Int)%(256:Nat)) (0:Nat) (cx (af (↑(TkX.at_ y):Int)) s)+(1:Int)))
abbrev Zby(y:TkX) (s:List Nat):Prop:=
 (0:Int)<=(↑(TkX.at_ y):Int)/\(↑(TkX.at_ y):Int)<=(↑(aa s):Int)
abbrev Zbz(y:TkX) (I:Tok×Int):=
 ((↑(TkX.at_ y):Int)+(↑(aa (cP (ak I))):Int))
abbrev Zj6(y:TkX) (s:List Nat):Prop:=
 (0:Nat)+(1:Nat)<=aa (cx (af (↑(TkX.at_ y):Int)) s)/\aa (cx (af (↑(TkX.at_ y):Int)) s)<=(1000000000:Nat)
abbrev qCDd(I:TkX):=(↑(TkX.at_ I):Int)
abbrev qCDe:=(0:Nat)
abbrev qCDf(I:List Nat):=(↑(aa I):Int)
abbrev qCDg:=(1:Nat)
abbrev qCDh:=(0:Int)
abbrev qCDi(I:TkX) (J:TkX):=(TkX.ts I=TkX.ts J/\qCDe=qCDe)
abbrev qCDj(I:TkX) (J:List Tok):=(qCDe+aa (TkX.ts I)<=aa (TkX.ts I)/\aw (aa (TkX.ts I)) (TkX.ts I)=J)
theorem Zut(s:List Nat) (l:List Tok) (a e:Int):Zk E Ftk (vc E Ftk 400) 24 [.str ab s] hp0 0 (λr=>ret E (patch hp0 0 r) r.v (.tup [.psl dm l ab,.int ab .i64 a,.int ab .i64 e]))=(
 (decide ((qCDf s)>2000)=ac->l= []/\qCDh=a/\2=e/\True)/\(decide ((qCDf s)>2000)=ab->∃(R:Bool×TkX->Prop),((∃(y:TkX),R (ab,y)/\ac=ac/\(s=s/\aG au qCDe qCDe=aG au qCDe qCDe/\qCDh=(qCDd y)/\True)/\True)\/∃(y:TkX),R (ac,y)/\ac=ac/\False)/\(∀(y:TkX),R (ab,y)->(decide ((qCDd y)<(qCDf s))=ac->qCDh<=(qCDd y)/\(qCDd y)+1<=(qCDf s)/\∀(x:Nat),s[af (qCDd y)]? =ae x->(((↑x:Int)==32)=ac->(Zbu R y s)\/∃(I:TkX),R (ac,I)/\I.3+qCDg<=y.3/\ac=ac/\False)/\(((↑x:Int)==32)=ab->(((↑x:Int)==9)=ac->(Zbu R y s)\/∃(I:TkX),R (ac,I)/\I.3+qCDg<=y.3/\ac=ac/\False)/\(((↑x:Int)==9)=ab->(((↑x:Int)==13)=ac->(Zbu R y s)\/∃(I:TkX),R (ac,I)/\I.3+qCDg<=y.3/\ac=ac/\False)/\(((↑x:Int)==13)=ab->(((↑x:Int)==10)=ac->(Zbu R y s)\/∃(I:TkX),R (ac,I)/\I.3+qCDg<=y.3/\ac=ac/\False)/\(((↑x:Int)==10)=ab->(((↑x:Int)==35)=ac->(Zby y s)/\(decide (Zbx y s)=ac->l= []/\qCDh=a/\qCDh=e/\True)/\(decide (Zbx y s)=ab->(∃(I:TkX),R (ab,I)/\I.3+qCDg<=y.3/\ac=ac/\(s=s/\aG au qCDe qCDe=aG au qCDe qCDe/\wr ag (Zfb y s)=(qCDd I)/\True)/\True)\/∃(I:TkX),R (ac,I)/\I.3+qCDg<=y.3/\ac=ac/\False))/\(((↑x:Int)==35)=ab->(Zby y s)/\(Zj6 y s)/\∀(I:Tok×Int),I=tokP (cx (af (qCDd y)) s)->((aD I !=qCDh)=ac->l= []/\(qCDd y)=a/\aD I=e/\True)/\((aD I !=qCDh)=ab->(∃(J:TkX),R (ab,J)/\J.3+qCDg<=y.3/\ac=ac/\(s=s/\False/\wr ag (Zbz y I)=(qCDd J)/\True)/\True)\/∃(J:TkX),R (ac,J)/\J.3+qCDg<=y.3/\ac=ac/\(s=s/\(qCDe=qCDe/\qCDg=aa (TkX.ts J)/\True)/\wr ag (Zbz y I)=(qCDd J)/\True)/\([Tok.mk (cC (ak I)) (cP (ak I)) (fI (ak I)) (qCDd y)]=TkX.ts J/\qCDe=qCDe)/\True)))))))/\(decide ((qCDd y)<(qCDf s))=ab->l= []/\qCDh=a/\qCDh=e/\True))/\∀(y:TkX),R (ac,y)->(decide ((qCDd y)<(qCDf s))=ac->qCDh<=(qCDd y)/\(qCDd y)+1<=(qCDf s)/\∀(x:Nat),s[af (qCDd y)]? =ae x->(((↑x:Int)==32)=ac->(Zbv R y s)\/∃(I:TkX),R (ac,I)/\I.3+qCDg<=y.3/\ac=ac/\(Zbw s y I)/\(qCDi y I)/\True)/\(((↑x:Int)==32)=ab->(((↑x:Int)==9)=ac->(Zbv R y s)\/∃(I:TkX),R (ac,I)/\I.3+qCDg<=y.3/\ac=ac/\(Zbw s y I)/\(qCDi y I)/\True)/\(((↑x:Int)==9)=ab->(((↑x:Int)==13)=ac->(Zbv R y s)\/∃(I:TkX),R (ac,I)/\I.3+qCDg<=y.3/\ac=ac/\(Zbw s y I)/\(qCDi y I)/\True)/\(((↑x:Int)==13)=ab->(((↑x:Int)==10)=ac->(Zbv R y s)\/∃(I:TkX),R (ac,I)/\I.3+qCDg<=y.3/\ac=ac/\(Zbw s y I)/\(qCDi y I)/\True)/\(((↑x:Int)==10)=ab->(((↑x:Int)==35)=ac->(Zby y s)/\(decide (Zbx y s)=ac->(qCDj y l)/\qCDh=a/\qCDh=e/\True)/\(decide (Zbx y s)=ab->(∃(I:TkX),R (ab,I)/\I.3+qCDg<=y.3/\ac=ac/\(s=s/\False/\wr ag (Zfb y s)=(qCDd I)/\True)/\True)\/∃(I:TkX),R (ac,I)/\I.3+qCDg<=y.3/\ac=ac/\(s=s/\(qCDe=qCDe/\aa (TkX.ts y)=aa (TkX.ts I)/\True)/\wr ag (Zfb y s)=(qCDd I)/\True)/\(qCDi y I)/\True))/\(((↑x:Int)==(35:
Int))=ab->(Zby y s)/\(Zj6 y s)/\∀(I:Tok×Int),I=tokP (cx (af (qCDd y)) s)->((aD I !=qCDh)=ac->l= []/\(qCDd y)=a/\aD I=e/\True)/\((aD I !=qCDh)=ab->(aa (TkX.ts y)<=aa (TkX.ts y)/\qCDe<=aa (TkX.ts y)/\(aa (TkX.ts y)+qCDg)*40<=140737488355328)/\((∃(J:TkX),R (ab,J)/\J.3+qCDg<=y.3/\ac=ac/\(s=s/\False/\wr ag (Zbz y I)=(qCDd J)/\True)/\True)\/∃(J:TkX),R (ac,J)/\J.3+qCDg<=y.3/\ac=ac/\(s=s/\(qCDe=qCDe/\aa (TkX.ts y)+qCDg=aa (TkX.ts J)/\True)/\wr ag (Zbz y I)=(qCDd J)/\True)/\(aw (aa (TkX.ts y)) (TkX.ts y)++ [Tok.mk (cC (ak I)) (cP (ak I)) (fI (ak I)) (qCDd y)]=TkX.ts J/\qCDe=qCDe)/\True))))))))/\(decide ((qCDd y)<(qCDf s))=ab->(qCDj y l)/\qCDh=a/\qCDh=e/\True))):=by kernel_rfl
def blk(c:Nat):Bool:=c=32||c=9||c=13||c=10
def tksL:Nat->List Nat->Nat->List Tok->List Tok×Int×Int
 |0,_,_,ts=>(ts,0,0)
 |k+1,s,p,ts=>match s[p]? with
  |none=>(ts,0,0)
  |some c=>if blk c then tksL k s (p+1) ts
   else if c=35 then(if idxL 10 0 (s.drop p)<0 then(ts,0,0) else tksL k s (p+(idxL 10 0 (s.drop p)).toNat+1) ts)
   else if(tokP (s.drop p)).2≠0 then([],p,(tokP (s.drop p)).2)
   else tksL k s (p+(tokP (s.drop p)).1.text.length) (ts++ [⟨(tokP (s.drop p)).1.kind,(tokP (s.drop p)).1.text,(tokP (s.drop p)).1.n,p⟩])
def Xf(s:List Nat):List Tok×Int×Int:=if 2000<s.length then([],0,2) else tksL s.length s 0 []
theorem Zuu(c:Nat):∀(l:List Nat) (j:Nat),idxL c j l<j+l.length/\ -1<=idxL c j l
 | [],j=>by unfold idxL;simp;try omega
 |x::r,j=>by
  unfold idxL
  split
  ·simp;try omega
  ·have:=Zuu c r (j+1)
   simp only[aE]
   omega
theorem Yc6{c:Nat} {w:List Nat} (h:sgnW c=ae w):1<=w.length:=by
 unfold sgnW at h
 repeat' split at h
 all_goals(cases h<;>simp)
theorem Zxr{s:List Nat} (h:(tokP s).2=0):1<=(tokP s).1.text.length/\(tokP s).1.text.length<=s.length/\(tokP s).1.text=s.take (tokP s).1.text.length:=by
 cases s with
 |nil=>cases h
 |cons c r=>
  rw[Xa] at h⊢;have go:∀n,1<=n->n<=(c::r).length->1<=((c::r).take n).length/\((c::r).take n).length<=(c::r).length/\(c::r).take n=(c::r).take ((c::r).take n).length:=λn R U=>by
   have e:((c::r).take n).length=n:=by rw[bi];omega
   rw[e];exact⟨R,U,rfl⟩
  split at h
  ·rename_i J
   rw[jM J];split at h
   ·cases h
   ·rename_i hn
    rw[jJ hn];refine go _ ?_ Zrk;have:isLD c=true:=by unfold isLD;rw[J];rfl
    unfold spn;rw[jM this];omega
  ·rename_i J
   rw[jJ J];split at h
   ·rename_i hd
    rw[jM hd];refine go _ ?_ Zrk;unfold spn;rw[jM hd];omega
   ·rename_i hd
    rw[jJ hd];split at h
    ·rename_i w hw
     unfold tokS at h⊢;split at h
     ·rename_i I
      have e:=kk aa I;rw[bi] at e;refine⟨?_,?_,?_⟩
      ·simp only[jM I]
       exact Yc6 hw
      ·simp only[jM I]
       omega
      ·simp only[jM I]
       exact I.symm
     ·cases h
    ·cases h
def TkI(s:List Nat) (I:List Tok×Int×Int) (y:TkX):Prop:=y.at_<=s.length/\s.length<=y.at_+y.r/\y.ts.length<=y.at_/\tksL y.r s y.at_ y.ts=I
theorem Yew{s:List Nat} {I} {y:TkX} (h:TkI s I y) (hq:¬y.at_<s.length):I=(y.ts,0,0):=by
 obtain⟨R,U,h3,J⟩:=h;rw[<-J];cases hr:y.r with
 |zero=>rfl
 |succ k=>
  unfold tksL;rw[List.getElem?_eq_none (by omega)]
theorem Zj7{s:List Nat} {res} {y:TkX} {c:Nat} (h:TkI s res y) (J:s[y.at_]? =ae c):∃k,y.r=k+1/\s.length<=y.at_+(k+1)/\y.at_<s.length/\(if blk c then tksL k s (y.at_+1) y.ts
 else if c=35 then(if idxL 10 0 (s.drop y.at_)<0 then(y.ts,0,0) else tksL k s (y.at_+(idxL 10 0 (s.drop y.at_)).toNat+1) y.ts)
 else if(tokP (s.drop y.at_)).2≠0 then([],y.at_,(tokP (s.drop y.at_)).2)
 else tksL k s (y.at_+(tokP (s.drop y.at_)).1.text.length) (y.ts++ [⟨(tokP (s.drop y.at_)).1.kind,(tokP (s.drop y.at_)).1.text,(tokP (s.drop y.at_)).1.n,y.at_⟩]))=res:=by
 obtain⟨h1,h2,h3,I⟩:=h
 have R:=(ai.1 J).1
 cases U:y.r with
 |zero=>omega
 |succ k=>
  refine⟨k,rfl,by omega,R,?_⟩
  rw[U] at I
  unfold tksL at I
  rw[J] at I
  exact I
theorem Zxs{s:List Nat} {R} {y:TkX} {c:Nat} (h:TkI s R y) (hc:s[y.at_]? =ae c) (U:blk c=ac):TkI s R ⟨y.at_+1,y.ts,y.r-1⟩/\y.r-1+1<=y.r/\y.at_<s.length:=by
 obtain⟨k,hr,hk,J,I⟩:=Zj7 h hc;rw[jM U] at I;have h3:=h.2.2.1;refine⟨⟨J,?_,?_,?_⟩,by omega,J⟩
 ·show s.length<=y.at_+1+(y.r-1)
  omega
 ·show y.ts.length<=y.at_+1
  omega
 ·rw[hr]
  exact I
theorem Yex{s:List Nat} {R} {y:TkX} {c:Nat} (h:TkI s R y) (hc:s[y.at_]? =ae c) (I:blk c=ab) (U:c=35) (hi:¬idxL 10 0 (s.drop y.at_)<0):TkI s R ⟨y.at_+(idxL 10 0 (s.drop y.at_)).toNat+1,y.ts,y.r-1⟩/\y.r-1+1<=y.r/\y.at_+(idxL 10 0 (s.drop y.at_)).toNat+1<=s.length:=by
 obtain⟨k,hr,hk,hl,J⟩:=Zj7 h hc;rw[jJ (by rw[I];decide),jM U,jJ hi] at J;have h3:=h.2.2.1;have I:=(Zuu 10 (s.drop y.at_) 0).1;rw[cU] at I;refine⟨⟨?_,?_,?_,?_⟩,by omega,by omega⟩
 ·show y.at_+(idxL 10 0 (s.drop y.at_)).toNat+1<=s.length
  omega
 ·show s.length<=y.at_+(idxL 10 0 (s.drop y.at_)).toNat+1+(y.r-1)
  omega
 ·show y.ts.length<=y.at_+(idxL 10 0 (s.drop y.at_)).toNat+1
  omega
 ·rw[hr]
  exact J
theorem Z76{s:List Nat} {J} {y:TkX} {c:Nat} (h:TkI s J y) (hc:s[y.at_]? =ae c) (U:blk c=ab) (R:c=35) (hi:idxL 10 0 (s.drop y.at_)<0):J=(y.ts,0,0):=by
 obtain⟨k,hr,hk,hl,I⟩:=Zj7 h hc;rw[jJ (by rw[U];decide),jM R,jM hi] at I;exact I.symm
theorem Yey{s:List Nat} {J} {y:TkX} {c:Nat} (h:TkI s J y) (hc:s[y.at_]? =ae c) (U:blk c=ab) (R:c≠35) (hi:(tokP (s.drop y.at_)).2≠0):J=([],(y.at_:Int),(tokP (s.drop y.at_)).2):=by
 obtain⟨k,hr,hk,hl,I⟩:=Zj7 h hc;rw[jJ (by rw[U];decide),jJ R,jM hi] at I;exact I.symm
theorem Yez{s:List Nat} {J} {y:TkX} {c:Nat} (h:TkI s J y) (hc:s[y.at_]? =ae c) (U:blk c=ab) (R:c≠35) (hi:(tokP (s.drop y.at_)).2=0):TkI s J ⟨y.at_+(tokP (s.drop y.at_)).1.text.length,y.ts++ [⟨(tokP (s.drop y.at_)).1.kind,(tokP (s.drop y.at_)).1.text,(tokP (s.drop y.at_)).1.n,y.at_⟩],y.r-1⟩/\y.r-1+1<=y.r/\y.at_+(tokP (s.drop y.at_)).1.text.length<=s.length:=by
 obtain⟨k,hr,hk,hl,I⟩:=Zj7 h hc;rw[jJ (by rw[U];decide),jJ R,jJ (by rw[hi];decide)] at I;have h3:=h.2.2.1;obtain⟨n1,n2,_⟩:=Zxr hi;rw[cU] at n2;refine⟨⟨?_,?_,?_,?_⟩,by omega,by omega⟩
 ·show y.at_+(tokP (s.drop y.at_)).1.text.length<=s.length
  omega
 ·show s.length<=y.at_+(tokP (s.drop y.at_)).1.text.length+(y.r-1)
  omega
 ·show(y.ts++ [_]).length<=y.at_+(tokP (s.drop y.at_)).1.text.length
  rw[az];simp;omega
 ·rw[hr]
  exact I
theorem Zuv(s:List Nat):PureC E 24 [.str ab s] (.tup [.psl dm (Xf s).1 ab,.int ab .i64 (Xf s).2.1,.int ab .i64 (Xf s).2.2]):=by
 refine Za E_ok (Zd E_ok Yn2 400) ?_;rw[Zut];delta qCDd qCDe qCDf qCDg qCDh qCDi qCDj;unfold Zj6 Zbz Zby Zfb Zbx Zbw Zbv Zbu;refine⟨λh=> ?_,λh=> ?_⟩
 ·have h:(s.length:Int)>2000:=by simpa using h
  unfold Xf;rw[jM (by omega)];exact⟨rfl,rfl,rfl,jX⟩
 have h:¬(s.length:Int)>2000:=by simpa using h
 have hp:Xf s=tksL s.length s 0 []:=by unfold Xf;rw[jJ (by omega)]
 generalize Xf s=a2 at hp;refine⟨λx=>(x.1=ab->x.2.ts= [])/\TkI s a2 x.2,jt ⟨⟨0,[],s.length⟩,⟨λ_=>rfl,aW _,by show s.length<=0+s.length;omega,av _,hp.symm⟩,rfl,⟨rfl,rfl,rfl,jX⟩,jX⟩,?_,?_⟩
 all_goals
  rintro y ⟨h0,R⟩
  replace R:TkI s a2 y:=R
  refine⟨λhq=> ?_,λhq=> ?_⟩
 ·have h0:y.ts= []:=h0 rfl
  have hq:(y.at_:Int)<s.length:=by simpa using hq
  refine⟨by omega,by omega,λc J=> ?_⟩;have J:s[y.at_]? =ae c:=J;have bl:∀n:Nat,((c:Int)==(n:Int))=ac->c=n:=λn h=>by
   have:(c:Int)=n:=by simpa using h
   omega
  have nb:∀n:Nat,((c:Int)==(n:Int))=ab->c≠n:=λn h e=>by subst e;simp at h
  have gb:blk c=ac->(∃(a1:TkX),((ab=ab->a1.ts= [])/\TkI s a2 a1)/\a1.3+1<=y.3/\ac=ac/\(s=s/\aG au 0 0=aG au 0 0/\wr ag ((↑(TkX.at_ y):Int)+1)=(↑(TkX.at_ a1):Int)/\True)/\True):=λU=>
   ⟨⟨y.at_+1,y.ts,y.r-1⟩,⟨λ_=>h0,(Zxs R J U).1⟩,(Zxs R J U).2.1,rfl,⟨rfl,rfl,wr64 (by omega) (by omega),jX⟩,jX⟩
  refine⟨λh1=>jt (gb (by rw[bl 32 h1];rfl)),λh1=>⟨λh2=>jt (gb (by rw[bl 9 h2];rfl)),λh2=>⟨λh3=>jt (gb (by rw[bl 13 h3];rfl)),λh3=>⟨λh4=>jt (gb (by rw[bl 10 h4];rfl)),λh4=> ?_⟩⟩⟩⟩;have U:blk c=false:=by
   unfold blk;simp[nb 32 h1,nb 9 h2,nb 13 h3,nb 10 h4]
  have ea:af (y.at_:Int)=y.at_:=by omega
  rw[ea];refine⟨λh5=> ?_,λh5=> ?_⟩
  ·have a0:c=35:=bl 35 h5
   refine⟨⟨by omega,by omega⟩,λI=> ?_,λI=> ?_⟩
   ·have I:idxL 10 0 (s.drop y.at_)<0:=by simpa using I
    have:=Z76 R J U a0 I;rw[this,h0];exact⟨rfl,rfl,rfl,jX⟩
   ·have I:¬idxL 10 0 (s.drop y.at_)<0:=by simpa using I
    obtain⟨g1,g2,g3⟩:=Yex R J U a0 I;refine jt ⟨⟨y.at_+(idxL 10 0 (s.drop y.at_)).toNat+1,y.ts,y.r-1⟩,⟨λ_=>h0,g1⟩,g2,rfl,⟨rfl,rfl,?_,jX⟩,jX⟩;show wr ag ((y.at_:Int)+wr ag (idxL 10 0 (s.drop y.at_)+1))=((y.at_+(idxL 10 0 (s.drop y.at_)).toNat+1:Nat):Int);rw[show wr ag (idxL 10 0 (s.drop y.at_)+1)=idxL 10 0 (s.drop y.at_)+1 from wr64 (by omega) (by omega)];rw[wr64 (by omega) (by omega)];omega
  ·have a0:c≠35:=nb 35 h5
   refine⟨⟨by omega,by omega⟩,⟨by rw[cU];omega,by rw[cU];omega⟩,λz hz=> ?_⟩;subst hz;refine⟨λI=> ?_,λI=> ?_⟩
   ·have I:(tokP (s.drop y.at_)).2≠0:=by simpa using I
    rw[Yey R J U a0 I];exact⟨rfl,rfl,rfl,jX⟩
   ·have I:(tokP (s.drop y.at_)).2=0:=by simpa using I
    obtain⟨g1,g2,g3⟩:=Yez R J U a0 I;rw[h0] at g1;refine iY ⟨_,⟨(λh=>by cases h),g1⟩,g2,rfl,⟨rfl,⟨rfl,rfl,jX⟩,?_,jX⟩,⟨rfl,rfl⟩,jX⟩;show wr ag ((y.at_:Int)+((tokP (s.drop y.at_)).1.text.length:Int))=((y.at_+(tokP (s.drop y.at_)).1.text.length:Nat):Int);rw[wr64 (by omega) (by omega)];omega
 ·have hq:¬(y.at_:Int)<s.length:=by simpa using hq
  rw[Yew R (by omega),h0 rfl];exact⟨rfl,rfl,rfl,jX⟩
 ·have hq:(y.at_:Int)<s.length:=by simpa using hq
  refine⟨by omega,by omega,λc J=> ?_⟩;have J:s[y.at_]? =ae c:=J;have bl:∀n:Nat,((c:Int)==(n:Int))=ac->c=n:=λn h=>by
   have:(c:Int)=n:=by simpa using h
   omega
  have nb:∀n:Nat,((c:Int)==(n:Int))=ab->c≠n:=λn h e=>by subst e;simp at h
  have gb:blk c=ac->∃(a1:TkX),((ac=ab->a1.ts= [])/\TkI s a2 a1)/\a1.3+1<=y.3/\ac=ac/\(s=s/\(0=0/\aa (TkX.ts y)=aa (TkX.ts a1)/\True)/\wr ag ((↑(TkX.at_ y):Int)+1)=(↑(TkX.at_ a1):Int)/\True)/\(TkX.ts y=TkX.ts a1/\0=0)/\True:=λU=>
   ⟨⟨y.at_+1,y.ts,y.r-1⟩,⟨(λh=>by cases h),(Zxs R J U).1⟩,(Zxs R J U).2.1,rfl,⟨rfl,⟨rfl,rfl,jX⟩,wr64 (by omega) (by omega),jX⟩,⟨rfl,rfl⟩,jX⟩
  refine⟨λh1=>iY (gb (by rw[bl 32 h1];rfl)),λh1=>⟨λh2=>iY (gb (by rw[bl 9 h2];rfl)),λh2=>⟨λh3=>iY (gb (by rw[bl 13 h3];rfl)),λh3=>⟨λh4=>iY (gb (by rw[bl 10 h4];rfl)),λh4=> ?_⟩⟩⟩⟩;have U:blk c=false:=by
   unfold blk;simp[nb 32 h1,nb 9 h2,nb 13 h3,nb 10 h4]
  have ea:af (y.at_:Int)=y.at_:=by omega
  have h3:=R.2.2.1;rw[ea];refine⟨λh5=> ?_,λh5=> ?_⟩
  ·have a0:c=35:=bl 35 h5
   refine⟨⟨by omega,by omega⟩,λI=> ?_,λI=> ?_⟩
   ·have I:idxL 10 0 (s.drop y.at_)<0:=by simpa using I
    have:=Z76 R J U a0 I;rw[this];exact⟨⟨by omega,aV⟩,rfl,rfl,jX⟩
   ·have I:¬idxL 10 0 (s.drop y.at_)<0:=by simpa using I
    obtain⟨g1,g2,g3⟩:=Yex R J U a0 I;refine iY ⟨_,⟨(λh=>by cases h),g1⟩,g2,rfl,⟨rfl,⟨rfl,rfl,jX⟩,?_,jX⟩,⟨rfl,rfl⟩,jX⟩;show wr ag ((y.at_:Int)+wr ag (idxL 10 0 (s.drop y.at_)+1))=((y.at_+(idxL 10 0 (s.drop y.at_)).toNat+1:Nat):Int);rw[show wr ag (idxL 10 0 (s.drop y.at_)+1)=idxL 10 0 (s.drop y.at_)+1 from wr64 (by omega) (by omega)];rw[wr64 (by omega) (by omega)];omega
  ·have a0:c≠35:=nb 35 h5
   refine⟨⟨by omega,by omega⟩,⟨by rw[cU];omega,by rw[cU];omega⟩,λz hz=> ?_⟩;subst hz;refine⟨λI=> ?_,λI=> ?_⟩
   ·have I:(tokP (s.drop y.at_)).2≠0:=by simpa using I
    rw[Yey R J U a0 I];exact⟨rfl,rfl,rfl,jX⟩
   ·have I:(tokP (s.drop y.at_)).2=0:=by simpa using I
    obtain⟨g1,g2,g3⟩:=Yez R J U a0 I;refine⟨⟨av _,aW _,by omega⟩,iY ⟨_,⟨(λh=>by cases h),g1⟩,g2,rfl,⟨rfl,⟨rfl,?_,jX⟩,?_,jX⟩,⟨?_,rfl⟩,jX⟩⟩
    ·show y.ts.length+1=(y.ts++ [_]).length
     rw[az];rfl
    ·show wr ag ((y.at_:Int)+((tokP (s.drop y.at_)).1.text.length:Int))=((y.at_+(tokP (s.drop y.at_)).1.text.length:Nat):Int)
     rw[wr64 (by omega) (by omega)];omega
    ·show aw y.ts.length y.ts++_=y.ts++_
     rw[aV]
 ·have hq:¬(y.at_:Int)<s.length:=by simpa using hq
  rw[Yew R (by omega)];exact⟨⟨by omega,aV⟩,rfl,rfl,jX⟩
end
section
open Go.RowKit
section
variable {Y:Thy} {E:Eng Y}
def frzH(h:Hp Y) (bs:List Nat):Hp Y:=λb=>match memB b bs with|true=>frzB (h b)|false=>h b
noncomputable def frzA(E:Eng Y) (gth:List (SV Y)->Option Y.Th) (n:Nat) (S:Sum Y):Sum Y:=λargs h i k=>
 match args with
 |a::rest=>frzL (frzK E gth h n) rest λI bs=>S (a::I) (frzH h bs) i λr=>Uq (bs++r.mods) λm=>k ⟨r.v,r.n,m,patch (frzH h bs) i r,au⟩
 | []=>False
theorem Ze5{h:Hp Y} {bs:List Nat} {b:Nat} (I:frzH h bs b≠au):h b≠none:=by
 intro e;apply I;unfold frzH;rw[e];cases memB b bs<;>rfl
theorem Ycd{h:Hp Y} {bs:List Nat} {b:Nat} (I:b∉bs):frzH h bs b=h b:=by
 unfold frzH;cases J:memB b bs with
 |true=>exact ka (memB_iff.1 J) I
 |false=>rfl
theorem Zcl(h:Hp Y) (bs:List Nat) (i:Nat) (r:Res Y):patch h i ⟨r.v,r.n,bs++r.mods,patch (frzH h bs) i r,au⟩=patch (frzH h bs) i r:=by
 funext b;rw[Zp];by_cases c:b∈bs++r.mods\/(i<=b/\b<i+r.n)
 ·rw[jM c]
 ·rw[jJ c,Zp]
  have I:b∉bs:=λh=>c (.inl (eX _ h));rw[jJ (λh=>c (h.elim (λh=> .inl (dE _ h)) .inr)),Ycd I]
theorem Znu{h:Hp Y} {bs:List Nat} {i n:Nat} {a0:List Nat} {σ σ':Pl} {g g':GH} {w w':World} {B:Nat} (hI:Inv E B σ h g w) (I:Stp i n a0 σ (frzG E h σ bs g w) w σ' g' w'):Stp i n (bs++a0) σ g w σ' g' w':=by
 refine⟨I.sig,I.snew,(Zal hI).trans I.gle,λr o v hv=> ?_,I.gmnew,λr hr hx=>I.heap r hr λb U=>hx b (dE _ U),I.size,I.os,I.tape,I.output,λb r z J R=> ?_⟩
 ·rcases I.gcnew r o v hv with J|J|⟨b,U,J⟩
  ·rcases Zbq J with⟨_,b,U,z,x,R,_⟩|R
   ·exact .inr (.inr ⟨b,eX _ U,z,R⟩)
   ·exact .inl R
  ·exact .inr (.inl J)
  ·exact .inr (.inr ⟨b,dE _ U,J⟩)
 ·rcases I.blk b r z J R with h3|⟨b',a1,h3⟩
  ·exact .inl h3
  ·exact .inr ⟨b',dE _ a1,h3⟩
theorem Yi1(hE:EngOk E) {gth:List (SV Y)->Option Y.Th} {n:Nat} {f:Nat} {S:Sum Y} (hS:SumOk E f S):SumOk E f (frzA E gth n S):=by
 refine⟨hS.good,λargs h i k hD R=> ?_⟩;unfold frzA at R;split at R
 case h_2=>exact R.elim
 rename_i a rest;obtain⟨a3,bs,R,o⟩:=Uw (Zbp hE n) R;obtain⟨r,R,hR,a8⟩:=hS.ok (a::a3) (frzH h bs) i _ (λb U=>hD b (Ze5 U)) R;rw[X5] at R;have a4:∀(B:Nat) (σ:Pl) (g:GH) (w:World) (vals:List Value),Inv E B σ h g w->DenL E σ g (a::rest) vals->DenL E σ (frzG E h σ bs g w) (a::a3) vals:=by
  intro B σ g w vals J hd;have a6:=Zal (bs:=bs) J;refine⟨by rw[<-hd.1];simp[o.len],λj sv' u I h2=> ?_⟩;cases j with
  |zero=>
   simp at I;subst I;exact(hd.2 0 _ u rfl h2).mono (.refl _) a6
  |succ j=>
   have I:a3[j]? =ae sv':=by simpa using I
   have a5:j<rest.length:=by rw[<-o.len];exact(ai.1 I).1
   exact(o.den h σ g w B _ (λ_ _=>rfl) J a6 Ze8 j _ sv' u (ao a5) I (hd.2 (j+1) _ u (by simpa using ao a5) h2)).mono (λb p h=>by cases h) (.refl _)
 refine⟨_,R,λb U=> ?_,?_⟩
 ·have U:b∈bs++r.mods:=U
  rcases cf.1 U with I|I
  ·obtain⟨y,hy,_⟩:=o.blk b I
   rw[hy];simp
  ·exact Ze5 (hR b I)
 rcases a8 with ht|⟨p,hp,ht⟩
 ·refine .inl ?_
  intro B σ g w vals hh a7 J hB a1 hd;obtain rfl:hh=h:=funext λb=>a7 b jX;refine(ht B σ _ w vals (frzH hh bs) (λ_ _=>rfl) (Zjz hE o.blk J) hB a1 (a4 B σ g w _ J hd)).mono ?_;rintro en w' ⟨u,he,σ',g',a2,a0,hv⟩;refine⟨u,he,σ',g',Znu J a2,?_,hv⟩;rw[Zcl];exact a0
 ·refine .inr ⟨p,hp,λB σ g w vals J hB a1 hd=> ?_⟩
  refine(ht B σ _ w vals (Zjz hE o.blk J) hB a1 (a4 B σ g w _ J hd)).mono ?_;rintro en w' ⟨he,σ',g',a2,a0⟩;refine⟨he,σ',g',Znu J a2,?_⟩;rw[Zcl];exact a0
noncomputable def Zq4(E:Eng Y) (gth:List (SV Y)->Option Y.Th) (n:Nat) (S:Sum Y):Sum Y:=λargs h i k=>
 frzL (frzK E gth h n) args λI bs=>S I (frzH h bs) i λr=>Uq (bs++r.mods) λm=>k ⟨r.v,r.n,m,patch (frzH h bs) i r,au⟩
theorem Zjv(hE:EngOk E) {gth:List (SV Y)->Option Y.Th} {n:Nat} {f:Nat} {S:Sum Y} (hS:SumOk E f S):SumOk E f (Zq4 E gth n S):=by
 refine⟨hS.good,λargs h i k hD J=> ?_⟩;unfold Zq4 at J;obtain⟨a5,bs,J,o⟩:=Uw (Zbp hE n) J;obtain⟨r,J,hR,a8⟩:=hS.ok a5 (frzH h bs) i _ (λb U=>hD b (Ze5 U)) J;rw[X5] at J;have a3:∀(B:Nat) (σ:Pl) (g:GH) (w:World) (vals:List Value),Inv E B σ h g w->DenL E σ g args vals->DenL E σ (frzG E h σ bs g w) a5 vals:=by
  intro B σ g w vals I hd;have a6:=Zal (bs:=bs) I;refine⟨by rw[<-hd.1];exact o.len,λj a9 u R h2=> ?_⟩;have a4:j<args.length:=by rw[<-o.len];exact(ai.1 R).1
  exact(o.den h σ g w B _ (λ_ _=>rfl) I a6 Ze8 j _ a9 u (ao a4) R (hd.2 j _ u (ao a4) h2)).mono (λb p h=>by cases h) (.refl _)
 refine⟨_,J,λb U=> ?_,?_⟩
 ·have U:b∈bs++r.mods:=U
  rcases cf.1 U with R|R
  ·obtain⟨y,hy,_⟩:=o.blk b R
   rw[hy];simp
  ·exact Ze5 (hR b R)
 rcases a8 with ht|⟨p,hp,ht⟩
 ·refine .inl ?_
  intro B σ g w vals hh a7 I hB a1 hd;obtain rfl:hh=h:=funext λb=>a7 b jX;refine(ht B σ _ w vals (frzH hh bs) (λ_ _=>rfl) (Zjz hE o.blk I) hB a1 (a3 B σ g w _ I hd)).mono ?_;rintro en w' ⟨u,he,σ',g',a2,a0,hv⟩;refine⟨u,he,σ',g',Znu I a2,?_,hv⟩;rw[Zcl];exact a0
 ·refine .inr ⟨p,hp,λB σ g w vals I hB a1 hd=> ?_⟩
  refine(ht B σ _ w vals (Zjz hE o.blk I) hB a1 (a3 B σ g w _ I hd)).mono ?_;rintro en w' ⟨he,σ',g',a2,a0⟩;refine⟨he,σ',g',Znu I a2,?_⟩;rw[Zcl];exact a0
end
end
section
open Go
noncomputable def Z4m:Sum thy:=Ws (dA1 dS) (λ_=>True) (λx=>Xf x.1) λy=> .tup [.psl dm y.1 ab,.int ab .i64 y.2.1,.int ab .i64 y.2.2]
theorem Zzo:SumOk E 24 Z4m:=Z1 E_ok (Zc (f:=24) rfl) λx _=>Zuv x.1
noncomputable def Z4n:Sum thy:=frzA E (λ_=>au) 2 (sumM (mI (dA1 dCls) (n1 λ_=>rfl) dCl (λ_=>rfl)) (λx a=>x.1.length<1000000000/\a.1.length<=1000000000) λx a=>Yj a.1 x.1 x.2.1)
theorem Zzp:SumOk E 31 Z4n:=Yi1 E_ok (Wd E_ok (Zc rfl) λx a h=>Zzn a.1 x.1 x.2.1 h.1 h.2)
structure QX where
 cs:List Cls
 fz:Nat
 l:List Tok
 ed:Int
 p:Int
 k:Nat
def Apa:Fr thy->Hp thy->Nat->Ann thy:=λT h i=>{X:=Bool×QX,fr:=λx=> [(0,T 0),(2,T 2),(3,T 3),(4,T 4),(6,T 6),(7,.int ab .i64 x.2.p)],bl:=λx=>(bOf (T 6),.raw [.psl dm x.2.l ab,.int ab .i64 x.2.ed] 0 au)::(bOf (T 2),.raw ((cellsOf h (T 2)).take 2++ [match x.1 with|true=> .sl i 0 x.2.cs.length 9 au|false=> .val (.slice au 0 0)]) 0 au)::((match x.1 with|true=> [(i,.rows bA x.2.cs x.2.fz)]|false=> [])++(blkP h (T 3)++blkP h (T 4))),src:=λx=>(match x.1 with|true=> [(i,3002)]|false=> []),md:= [bOf (T 6),bOf (T 2)],ih:=i+1,M:=i+60,meas:=λx=>x.2.k,ex:=ex2,al:=al2,exOk:=Zgg,alOk:=Zgh}
noncomputable def Fpa:Fns thy:=addL (addS (addS (addS Fme 29 Z9n) 24 Z4m) 31 Z4n) 7 12 Apa E
theorem Yly:FnsOk E Fpa:=Zm E_ok (Zb (Zb (Zb Zig Zvy) Zzo) Zzp) _ _ _
abbrev Xr(t:Tar):Prop:=
 []=ba t/\0=aZ t/\ar t= []/\True
abbrev Znb(R:Bool×QX->Prop) (a0:QX) (s:List Nat) (a1:Int) (x':PX) (J:List Nat) (U:Int) (y:List Tok×Int×Int):Prop:=
 ∃(I:QX),R (ab,I)/\I.6+1<=a0.6/\ac=ac/\(s=s/\0=0/\0=0/\0=0/\0=0/\
 a1=QX.p I/\True)/\((ak x'=QX.l I/\(ab=ac->ab=ac))/\ak (aD x')=QX.ed I/\True)/\(J=J/\wr ag (1+U)=
 wr ag (1+U)/\False/\True)/\(ak (aD y)=ak (aD y)/\True)/\(aD (aD y)=aD (aD y)/\True)/\True
abbrev Znc(I:Cls):=
 (bV (aM (ay I)) (bX (ay I)) (bD (ay I)) (bE (ay I)) (bF (ay I)) (bG (ay I)) (bw (ay I)))
abbrev Znd(I:QX) (t:Tar) (a:Int) (e:Int):Prop:=
 decide ((↑(aa (bC (QX.l I))):Int)>0)=ac->∀(y:Int),y=hdT (QX.ed I) (bC (QX.l I))->(Xr t)/\y=a/\160=e/\
 True
abbrev Zhb(I:QX):=
 (aw (aa (QX.cs I)) (cx 0 (QX.cs I)))
abbrev qCF1:=0
abbrev qCF2(I:List Nat) (J:Int) (R:QX):=(I=I/\qCF1=qCF1/\qCF1=qCF1/\qCF1=qCF1/\qCF1=qCF1/\J=QX.p R/\True)
abbrev qCF3(I:PX):=(ak (aD I))
abbrev qCF4(I:QX):=(bC (QX.l I))
abbrev qCF5(I:QX):=(aa (QX.cs I))
abbrev qCF6(I:PX) (J:QX):=((ak I=QX.l J/\(ab=ac->ab=ac))/\ak (aD I)=QX.ed J/\True)
abbrev qCF7(I:List Tok×Int×Int):=(ak (aD I)=ak (aD I)/\True)
abbrev qCF8(I:List Tok×Int×Int):=(aD (aD I)=aD (aD I)/\True)
theorem Zzq(s:List Nat) (t:Tar) (a e:Int):Zk E Fpa (vc E Fpa 400) 7 [.str ab s] hp0 0 (λr=>ret E (patch hp0 0 r) r.v (.tup [.agg [.str ab t.name,.int ab .i64 t.for_,.psl bA t.clauses ab],.int ab .i64 a,.int ab .i64 e]))=(
 True/\∀(y:List Tok×Int×Int),y=Xf s->((aD (aD y) !=0)=ac->(Xr t)/\ak (aD y)=a/\aD (aD y)=e/\True)/\((aD (aD y) !=0)=ab->(isW [116,97,114,105,102,102] (ak y)=ac->True/\(∀(a0:List Nat) (x':PX),Zav (bC (ak y)) (↑(aa s):Int)=aX (a0,x')->(isW [102,111,114] (ak x')=ac->(gw=dK\/gw=gw\/gw=eR)/\(∀(a1:Int) (a2:PX),Yy (dL gw) (bC (ak x')) (qCF3 x')=aX (a1,a2)->(isW [123] (ak a2)=ac->∀(a5:Int),a5=hdT (qCF3 a2) (bC (ak a2))->∃(R:Bool×QX->Prop),((∃(I:QX),R (ab,I)/\ac=ac/\(qCF2 s a5 I)/\((bC (ak a2)=QX.l I/\(ab=ac->ab=ac))/\ak (aD a2)=QX.ed I/\True)/\(a0=a0/\wr ag (1+a1)=wr ag (1+a1)/\aG au qCF1 qCF1=aG au qCF1 qCF1/\True)/\(qCF7 y)/\(qCF8 y)/\True)\/∃(y:QX),R (ac,y)/\ac=ac/\False)/\(∀(I:QX),R (ab,I)->(isW [99,108,97,117,115,101] (QX.l I)=ac->(aa (qCF4 I)+1<=1000000000/\qCF1<=1000000000)/\(∀(a3:Cls) (x':PX),Yj [] (qCF4 I) (QX.ed I)=aX (a3,x')->∀(a4:Int),a4=hdT (qCF3 x') (ak x')->(Znb R I s a4 x' a0 a1 y)\/∃(U:QX),R (ac,U)/\U.6+1<=I.6/\ac=ac/\(qCF2 s a4 U)/\(qCF6 x' U)/\(a0=a0/\wr ag (1+a1)=wr ag (1+a1)/\(qCF1=qCF1/\1=aa (QX.cs U)/\True)/\True)/\([eF (aK a3) (aT a3) (Znc a3)]=QX.cs U/\qCF1=QX.fz U)/\(qCF7 y)/\(qCF8 y)/\True)/\∀(J:Int×Int),Yj [] (qCF4 I) (QX.ed I)=aB J->(Xr t)/\ak J=a/\aD J=e/\True)/\(isW [99,108,97,117,115,101] (QX.l I)=ab->(isW [125] (QX.l I)=ac->(Znd I t a e)/\(decide ((↑(aa (qCF4 I)):Int)>0)=ab->(a0=ba t/\wr ag (1+a1)=aZ t/\ar t= []/\True)/\0=a/\0=e/\True))/\(isW [125] (QX.l I)=ab->(Xr t)/\hdT (QX.ed I) (QX.l I)=a/\160=e/\True)))/\∀(I:QX),R (ac,I)->(isW [99,108,97,117,115,101] (QX.l I)=ac->(((↑(qCF5 I):Int)==64)=ac->(Xr t)/\QX.p I=a/\2=e/\True)/\(((↑(qCF5 I):Int)==64)=ab->qCF1+aa (QX.cs I)<=aa (QX.cs I)/\(aa (qCF4 I)+1<=1000000000/\aa (Zhb I)<=1000000000)/\(∀(a3:Cls) (x':PX),Yj (Zhb I) (qCF4 I) (QX.ed I)=aX (a3,x')->(aa (QX.cs I)<=aa (QX.cs I)/\mx2 (QX.fz I) (qCF5 I)<=aa (QX.cs I)/\(aa (QX.cs I)+1)*112<=140737488355328)/\∀(a4:Int),a4=hdT (qCF3 x') (ak x')->(Znb R I s a4 x' a0 a1 y)\/∃(U:QX),R (ac,U)/\U.6+1<=I.6/\ac=ac/\(qCF2 s a4 U)/\(qCF6 x' U)/\(a0=a0/\wr ag (1+a1)=wr ag (1+a1)/\(qCF1=qCF1/\aa (QX.cs I)+1=aa (QX.cs U)/\True)/\True)/\(aw (qCF5 I) (QX.cs I)++ [eF (aK a3) (aT a3) (Znc a3)]=QX.cs U/\mx2 (QX.fz I) (qCF5 I)=QX.fz U)/\(qCF7 y)/\(qCF8 y)/\True)/\∀(J:Int×Int),Yj (Zhb I) (qCF4 I) (QX.ed I)=aB
J->(Xr t)/\ak J=a/\aD J=e/\True))/\(isW [99,108,97,117,115,101] (QX.l I)=ab->(isW [125] (QX.l I)=ac->(Znd I t a e)/\(decide ((↑(aa (qCF4 I)):Int)>0)=ab->(a0=ba t/\wr ag (1+a1)=aZ t/\(qCF1+aa (QX.cs I)<=aa (QX.cs I)/\aw (qCF5 I) (QX.cs I)=ar t)/\True)/\0=a/\0=e/\True))/\(isW [125] (QX.l I)=ab->(Xr t)/\hdT (QX.ed I) (QX.l I)=a/\160=e/\True)))/\(isW [123] (ak a2)=ab->(Xr t)/\hdT (qCF3 a2) (ak a2)=a/\160=e/\True))/\∀(J:Int×Int),Yy (dL gw) (bC (ak x')) (qCF3 x')=aB J->(Xr t)/\ak J=a/\aD J=e/\True)/\(isW [102,111,114] (ak x')=ab->(Xr t)/\hdT (qCF3 x') (ak x')=a/\160=e/\True))/\∀(J:Int×Int),Zav (bC (ak y)) (↑(aa s):Int)=aB J->(Xr t)/\ak J=a/\aD J=e/\True)/\(isW [116,97,114,105,102,102] (ak y)=ab->(Xr t)/\hdT (↑(aa s):Int) (ak y)=a/\160=e/\True))):=by kernel_rfl
theorem Ztq:∀{k:Nat} {more:Bool} {ts:List Tst} {l:List Tok} {e:Int} {I:List Tst} {x:PX},pTs k more ts l e= .ok (I,x)->x.1.length<=l.length
 |0,more,ts,l,e,I,x,h=>by
  unfold pTs at h
  injection h with h
  injection h with _ h
  subst h
  exact av _
 |k+1,more,ts,l,e,I,x,h=>by
  unfold pTs at h
  split at h
  ·split at h
   ·cases h
   ·rename_i t z R
    have U:=(Ziy R).1
    have J:=Ztq h
    split at J
    ·rw[dP] at J
     omega
    ·omega
  ·injection h with h
   injection h with _ h
   subst h
   exact av _
theorem Ylz{l:List Tok} {e:Int} {y:Ex} {x:PX} (h:pX l e= .ok (y,x)):x.1.length<=l.length:=by
 have:=Zpk l e y x h;omega
theorem Yap{nm:List Nat} {ts:List Tst} {l:List Tok} {e:Int} {c:Cls} {x:PX} (h:pPay nm ts l e= .ok (c,x)):x.1.length<=l.length:=by
 unfold pPay at h;split at h
 ·split at h
  ·cases h
  ·rename_i y z J
   have I:=Ylz J;rw[dP] at I;split at h
   ·cases h
   ·split at h
    ·injection h with h
     injection h with _ h
     subst h;show z.1.tail.length<=l.length;rw[dP];omega
    ·cases h
 ·cases h
theorem Zad{bs:List Cls} {l:List Tok} {e:Int} {c:Cls} {x:PX} (h:Yj bs l e= .ok (c,x)):x.1.length<=l.length:=by
 unfold Yj at h;split at h
 ·cases h
 ·rename_i nm z R
  have U:=U3 R;split at h
  ·cases h
  ·unfold pAft at h
   split at h
   ·cases h
   ·rename_i ts y J
    have I:=Ztq J;have h3:=Yap h;split at I
    ·rw[dP] at I
     omega
    ·omega
def W2:List Nat:= [99,108,97,117,115,101]
def pCls:Nat->List Cls->List Tok->Int->PR (List Cls)
 |0,cs,l,e=> .ok (cs,l,e,())
 |k+1,cs,l,e=>if isW [99,108,97,117,115,101] l then(if cs.length=64 then .error (hdT e l,2) else match Yj cs l.tail e with
  | .error I=> .error I
  | .ok (c,x)=>pCls k (cs++ [c]) x.1 x.2.1) else .ok (cs,l,e,())
def pEnd(nm:List Nat) (J:Int):PR (List Cls)->PR Tar
 | .error I=> .error I
 | .ok (cs,x)=>if isW [125] x.1 then(if 0<x.1.tail.length then .error (hdT x.2.1 x.1.tail,160) else .ok (⟨nm,J,cs⟩,x.1.tail,x.2.1,())) else .error (hdT x.2.1 x.1,160)
def pTar(l:List Tok) (e:Int):PR Tar:=
 if isW [116,97,114,105,102,102] l then
  match Zav l.tail e with
  | .error I=> .error I
  | .ok (nm,x)=>
   if isW [102,111,114] x.1 then
    match Yy gw.words x.1.tail x.2.1 with
    | .error I=> .error I
    | .ok (k,z)=>if isW [123] z.1 then pEnd nm (wr .i64 (1+k)) (pCls (z.1.tail.length+1) [] z.1.tail z.2.1) else .error (hdT z.2.1 z.1,160)
   else .error (hdT x.2.1 x.1,160)
 else .error (hdT e l,160)
def zT:Tar:=⟨[],0,[]⟩
def outT:PR Tar->Tar×Int×Int
 | .ok y=>(y.1,0,0)
 | .error I=>(zT,I.1,I.2)
def Xk(s:List Nat):Tar×Int×Int:=if(Xf s).2.2≠0 then(zT,(Xf s).2.1,(Xf s).2.2) else outT (pTar (Xf s).1 s.length)
theorem Zhc:∀{k:Nat} {s:List Nat} {p:Nat} {ts:List Tok},ts.length<=p->p<=s.length->(tksL k s p ts).1.length<=s.length
 |0,s,p,ts,I,J=>by unfold tksL;exact bS I J
 |k+1,s,p,ts,I,J=>by
  unfold tksL
  split
  ·exact bS I J
  ·rename_i c U
   have a0:=(ai.1 U).1
   split
   ·exact Zhc (by omega) a0
   ·split
    ·split
     ·exact bS I J
     ·have:=(Zuu 10 (s.drop p) 0).1
      rw[cU] at this
      exact Zhc (by omega) (by omega)
    ·split
     ·exact aW _
     ·rename_i R
      have R:(tokP (s.drop p)).2=0:=by simpa using R
      obtain⟨n1,n2,_⟩:=Zxr R
      rw[cU] at n2
      exact Zhc (by rw[az];simp;omega) (by omega)
theorem Zi2(s:List Nat):(Xf s).1.length<=2000:=by
 unfold Xf;split
 ·exact aW _
 ·have:=Zhc (k:=s.length) (s:=s) (p:=0) (ts:= []) (av _) (aW _)
  omega
theorem Zdq(c:Cls):eF (aK c) (aT c) (bV (aM (ay c)) (bX (ay c)) (bD (ay c)) (bE (ay c)) (bF (ay c)) (bG (ay c)) (bw (ay c)))=c:=by
 obtain⟨a,b,p⟩:=c;cases p;rfl
theorem Zzr(s:List Nat):PureC E 7 [.str ab s] (.tup [.agg [.str ab (Xk s).1.name,.int ab .i64 (Xk s).1.for_,.psl bA (Xk s).1.clauses ab],.int ab .i64 (Xk s).2.1,.int ab .i64 (Xk s).2.2]):=by
 refine Za E_ok (Zd E_ok Yly 400) ?_;rw[Zzq];delta qCF1 qCF2 qCF3 qCF4 qCF5 qCF6 qCF7 qCF8;unfold Zhb Znd Znc Znb Xr;refine⟨jX,λy hy=> ?_⟩;have a0:y.1.length<=2000:=hy▸Zi2 s;have I:Xk s=if y.2.2≠0 then(zT,y.2.1,y.2.2) else outT (pTar y.1 s.length):=by subst hy;rfl
 generalize Xk s=res at I;refine⟨λh=> ?_,λh=> ?_⟩
 ·have h:y.2.2≠0:=by simpa using h
  rw[jM h] at I;subst I;exact⟨⟨rfl,rfl,rfl,jX⟩,rfl,rfl,jX⟩
 have h:y.2.2=0:=by simpa using h
 rw[jJ (by rw[h];decide)] at I;unfold pTar at I;refine⟨λh1=>⟨jX,λnm x hx=>⟨λh2=>⟨.inr (.inl rfl),λfo z hz=>⟨λh3=> ?_,λh3=> ?_⟩,λer he=> ?_⟩,λh2=> ?_⟩,λer he=> ?_⟩,λh1=> ?_⟩
 rotate_left
 ·rw[jM h1,hx] at I
  simp only[jM h2,hz,h3] at I;subst I;exact⟨⟨rfl,rfl,rfl,jX⟩,rfl,rfl,jX⟩
 ·rw[jM h1,hx] at I
  simp only[jM h2,he] at I;subst I;exact⟨⟨rfl,rfl,rfl,jX⟩,rfl,rfl,jX⟩
 ·rw[jM h1,hx] at I
  simp only[h2] at I;subst I;exact⟨⟨rfl,rfl,rfl,jX⟩,rfl,rfl,jX⟩
 ·rw[jM h1,he] at I
  subst I;exact⟨⟨rfl,rfl,rfl,jX⟩,rfl,rfl,jX⟩
 ·rw[h1] at I
  subst I;exact⟨⟨rfl,rfl,rfl,jX⟩,rfl,rfl,jX⟩
 rw[jM h1,hx] at I;simp only[jM h2,hz,jM h3] at I;have l1:=Zw h1;have l2:=U3 hx;have l3:=Zw h2;have l4:z.1.length<=x.1.tail.length:=by
  unfold Yy at hz;split at hz
  ·injection hz with hz
   injection hz with _ hz
   subst hz;show x.1.tail.tail.length<=_;rw[dP (l:=x.1.tail)];omega
  ·cases hz
 have l5:=Zw h3;intro q hq;subst hq
 refine⟨λv=>(v.1=ab->v.2.cs= [])/\outT (pEnd nm (wr .i64 (1+fo)) (pCls v.2.k v.2.cs v.2.l v.2.ed))=res/\v.2.p=hdT v.2.ed v.2.l/\v.2.l.length<v.2.k/\v.2.l.length<=2000/\v.2.fz<=v.2.cs.length/\v.2.cs.length<=64,
  .inl ⟨⟨[],0,z.1.tail,z.2.1,hdT z.2.1 z.1.tail,z.1.tail.length+1⟩,⟨λ_=>rfl,I.symm,rfl,dC _,?_,av _,aW _⟩,rfl,⟨rfl,rfl,rfl,rfl,rfl,rfl,jX⟩,⟨⟨rfl,λh=>h⟩,rfl,jX⟩,⟨rfl,rfl,rfl,jX⟩,⟨rfl,jX⟩,⟨rfl,jX⟩,jX⟩,?_,?_⟩
 ·show z.1.tail.length<=2000
  omega
 all_goals
  rintro v ⟨v0,v1,v2,v3,v4,v5,v6⟩
  replace v1:outT (pEnd nm (wr .i64 (1+fo)) (pCls v.k v.cs v.l v.ed))=res:=v1
  replace v2:v.p=hdT v.ed v.l:=v2
  replace v3:v.l.length<v.k:=v3
  replace v4:v.l.length<=2000:=v4
  replace v5:v.fz<=v.cs.length:=v5
  replace v6:v.cs.length<=64:=v6
  obtain⟨k,hk⟩:∃k,v.k=k+1:=⟨v.k-1,by omega⟩;rw[hk] at v1;unfold pCls at v1;refine⟨λU=> ?_,λU=>⟨λw2=>⟨λJ=> ?_,λJ=> ?_⟩,λw2=> ?_⟩⟩
 ·have v0:v.cs= []:=v0 rfl
  rw[jM U,v0,jJ (by simp)] at v1;have l6:=Zw U;refine⟨⟨by omega,by omega⟩,λc x' hc a ha=> ?_,λer he=> ?_⟩
  ·subst ha
   rw[hc] at v1;have l7:=Zad hc;refine .inr ⟨⟨[c],0,x'.1,x'.2.1,hdT x'.2.1 x'.1,k⟩,⟨λh=>(by cases h),v1,rfl,(by show x'.1.length<k;omega),(by show x'.1.length<=2000;omega),aW _,(by show 1<=64;decide)⟩,(by show k+1<=v.k;omega),rfl,⟨rfl,rfl,rfl,rfl,rfl,rfl,jX⟩,⟨⟨rfl,λh=>h⟩,rfl,jX⟩,⟨rfl,rfl,⟨rfl,rfl,jX⟩,jX⟩,⟨?_,rfl⟩,⟨rfl,jX⟩,⟨rfl,jX⟩,jX⟩;rw[Zdq]
  ·rw[he] at v1
   subst v1;exact⟨⟨rfl,rfl,rfl,jX⟩,rfl,rfl,jX⟩
 ·rw[jJ (by rw[U];decide)] at v1
  simp only[pEnd,jM w2] at v1;have J:0<v.l.tail.length:=by
   have:(0:Int)<v.l.tail.length:=by simpa only[fO] using J
   omega
  rw[jM J] at v1;intro a ha;subst ha;subst v1;exact⟨⟨rfl,rfl,rfl,jX⟩,rfl,rfl,jX⟩
 ·have v0:v.cs= []:=v0 rfl
  rw[jJ (by rw[U];decide)] at v1;simp only[pEnd,jM w2] at v1;have J:¬0<v.l.tail.length:=by
   have:¬(0:Int)<v.l.tail.length:=by simpa only[fG] using J
   omega
  rw[jJ J,v0] at v1;subst v1;exact⟨⟨rfl,rfl,rfl,jX⟩,rfl,rfl,jX⟩
 ·rw[jJ (by rw[U];decide)] at v1
  simp only[pEnd,w2] at v1;subst v1;exact⟨⟨rfl,rfl,rfl,jX⟩,rfl,rfl,jX⟩
 ·have l6:=Zw U
  rw[jM U] at v1;rw[dW,aV];refine⟨λR=> ?_,λR=>⟨by omega,⟨by omega,by omega⟩,λc x' hc=>⟨⟨av _,by rw[Zlw];omega,by omega⟩,λa ha=> ?_⟩,λer he=> ?_⟩⟩
  ·have R:v.cs.length=64:=by
    have w5:(v.cs.length:Int)=64:=eq_of_beq R;omega
   rw[jM R] at v1;subst v1;exact⟨⟨rfl,rfl,rfl,jX⟩,v2,rfl,jX⟩
  ·subst ha
   have R:v.cs.length≠64:=λe=>by rw[e] at R;simp at R
   rw[jJ R,hc] at v1;have l7:=Zad hc;refine .inr ⟨⟨v.cs++ [c],mx2 v.fz v.cs.length,x'.1,x'.2.1,hdT x'.2.1 x'.1,k⟩,⟨λh=>(by cases h),v1,rfl,(by show x'.1.length<k;omega),(by show x'.1.length<=2000;omega),?_,?_⟩,(by show k+1<=v.k;omega),rfl,⟨rfl,rfl,rfl,rfl,rfl,rfl,jX⟩,⟨⟨rfl,λh=>h⟩,rfl,jX⟩,⟨rfl,rfl,⟨rfl,?_,jX⟩,jX⟩,⟨?_,rfl⟩,⟨rfl,jX⟩,⟨rfl,jX⟩,jX⟩
   ·show mx2 v.fz v.cs.length<=(v.cs++ [c]).length
    rw[Zlw,az];omega
   ·show(v.cs++ [c]).length<=64
    rw[az];simp;omega
   ·show v.cs.length+1=(v.cs++ [c]).length
    rw[az];rfl
   ·rw[Zdq]
  ·have R:v.cs.length≠64:=λe=>by rw[e] at R;simp at R
   rw[jJ R,he] at v1;subst v1;exact⟨⟨rfl,rfl,rfl,jX⟩,rfl,rfl,jX⟩
 ·rw[jJ (by rw[U];decide)] at v1
  simp only[pEnd,jM w2] at v1;have J:0<v.l.tail.length:=by
   have:(0:Int)<v.l.tail.length:=by simpa only[fO] using J
   omega
  rw[jM J] at v1;intro a ha;subst ha;subst v1;exact⟨⟨rfl,rfl,rfl,jX⟩,rfl,rfl,jX⟩
 ·rw[jJ (by rw[U];decide)] at v1
  simp only[pEnd,jM w2] at v1;have J:¬0<v.l.tail.length:=by
   have:¬(0:Int)<v.l.tail.length:=by simpa only[fG] using J
   omega
  rw[jJ J] at v1;subst v1;exact⟨⟨rfl,rfl,⟨by omega,aV⟩,jX⟩,rfl,rfl,jX⟩
 ·rw[jJ (by rw[U];decide)] at v1
  simp only[pEnd,w2] at v1;subst v1;exact⟨⟨rfl,rfl,rfl,jX⟩,rfl,rfl,jX⟩
end
section
open Go
def decN(n:Int):List Nat:=(gW n).map db
theorem Zuc(w:World):Ext w w:=⟨rfl,rfl,rfl,av _,λ_ _=>rfl⟩
theorem Z0e(x:Int) (I:0<=x) (J:x<=18446744073709551615):PureC E 168 [.int ab .u64 x] (.int ab .i64 (fY x.toNat)):=by
 refine U7 λg w U hd=> ?_;obtain⟨u,rfl,R⟩:=Ygc hd;cases R;refine(Any.bits_Len64 Tryz.lays129 x w I J).mono ?_;rintro e w' ⟨rfl,rfl⟩;exact⟨_,rfl,.int _ _ _,Zuc _⟩
theorem Yce(x:Nat) (h:x<=64):PureC E 167 [.int ab .i64 x] (.int ab .i64 (kc x)):=by
 refine U7 λg w J hd=> ?_;obtain⟨u,rfl,I⟩:=Ygc hd;cases I;refine(Any.internal_strconv_log10Pow2 Tryz.lays317 x h w).mono ?_;rintro e R ⟨rfl,rfl⟩;exact⟨_,rfl,.int _ _ _,Zuc _⟩
theorem Ynf(l:List UInt8):toL ⟨l.toArray⟩=l.map db:=rfl
theorem Z0f(x:Nat) (h:x<100):PureC E 159 [.int ab .i64 x] (.str ab ((fa x).map db)):=by
 refine U7 λg w J hd=> ?_;obtain⟨u,rfl,I⟩:=Ygc hd;cases I;refine(Any.internal_strconv_small Tryz.lays283 x h w).mono ?_;rintro e R ⟨rfl,rfl⟩;exact⟨_,rfl,.str _ (Ynf _),Zuc _⟩
noncomputable def dU64:Dc E Int:=dInt .u64
noncomputable def Yep:Sum thy:=Ws (dA1 dU64) (λx=>0<=x.1/\x.1<=18446744073709551615) (λx=>fY x.1.toNat) λ(y:Nat)=> .int ab .i64 y
theorem Z62:SumOk E 168 Yep:=Z1 E_ok (Zc rfl) λx h=>Z0e x.1 h.1 h.2
noncomputable def Sl10:Sum thy:=Ws (dA1 dN) (λx=>0<=x.1/\x.1<=64) (λx=>kc x.1.toNat) λ(y:Nat)=> .int ab .i64 y
theorem Yi2:SumOk E 167 Sl10:=Z1 E_ok (Zc rfl) λx h=>by
 have:=Yce x.1.toNat (by omega);rw[show((x.1.toNat:Nat):Int)=x.1 by omega] at this;exact this
noncomputable def Fnd:Fns thy:=addS (addS F0 168 Yep) 167 Sl10
abbrev Yi3(I:Nat):=
 ((↑I:Int)==(↑(0+1+1+1+1+1+1+1+1+1+1+1+1+(1
 :Nat)+1+1+1+1+1+1):Int))
abbrev Yi4(I:Nat):=
 ((↑I:Int)==(↑(0+1+1+1+1+1+1+1+1+1+1+1+1+(1
 :Nat)+1+1+1+1+1):Int))
abbrev Yi5(I:Nat):=
 ((↑I:Int)==(↑(0+1+1+1+1+1+1+1+1+1+1+1+1+(1
 :Nat)+1+1+1+1):Int))
abbrev Yi6(I:Nat):=
 ((↑I:Int)==(↑(0+1+1+1+1+1+1+1+1+1+1+1+1+(1
 :Nat)+1+1+1):Int))
abbrev Yi7(I:Nat):=
 ((↑I:Int)==(↑(0+1+1+1+1+1+1+1+1+1+1+1+1+(1
 :Nat)+1+1):Int))
abbrev Yi8(I:Nat):=
 ((↑I:Int)==(↑(0+1+1+1+1+1+1+1+1+1+1+1+1+(1
 :Nat)+1):Int))
abbrev Yi9(I:Nat):=
 ((↑I:Int)==(↑(0+1+1+1+1+1+1+1+1+1+1+1+1+(1
 :Nat)):Int))
abbrev Yja(I:Nat):=
 ((↑I:Int)==(↑(0+1+1+1+1+1+1+1+1+1+1+1+1):
 Int))
abbrev Yjb(I:Nat):=
 ((↑I:Int)==(↑(0+1+1+1+1+1+1+1+1+1+1+1):Int))
abbrev Yjc(I:Nat):=
 ((↑I:Int)==(↑(0+1+1+1+1+1+1+1+1+1+1):Int))
abbrev Z63(I:Nat):=
 ((↑I:Int)==(↑(0+1+1+1+1+1+1+1+1+1):Int))
abbrev Z64(I:Nat):=
 ((↑I:Int)==(↑(0+1+1+1+1+1+1+1+1):Int))
abbrev Z65(I:Nat):=
 ((↑I:Int)==(↑(0+1+1+1+1+1+1+1):Int))
abbrev Z66(I:Nat):=
 ((↑I:Int)==(↑(0+1+1+1+1+1+1):Int))
abbrev qCG1(I:Nat):=((↑I:Int)+1)
abbrev qCG2(I:Nat):=((↑I:Int)+0)
abbrev qCG3:=1
abbrev qCG4:=0
abbrev qCG5:=(↑(qCG4+qCG3+qCG3+qCG3+qCG3+qCG3):Int)
theorem Yjd(u:Int) (v:Int):Zk E Fnd (vc E Fnd 400) 160 [.int ab .u64 u] hp0 0 (λr=>ret E (patch hp0 0 r) r.v (.int ab .i64 v))=(
 (0<=u/\u<=18446744073709551615)/\∀(y:Nat),y=fY (af u)->(0<=(↑y:Int)/\(↑y:Int)<=64)/\∀(I:Nat),I=kc (af (↑y:Int))->0<=(↑I:Int)/\(↑I:Int)+1<=(↑20:Int)/\(((↑I:Int)==(↑qCG4:Int))=ac->(decide (u>=1)=ac->wr ag (qCG1 I)=v)/\(decide (u>=1)=ab->wr ag (qCG2 I)=v))/\(((↑I:Int)==(↑qCG4:Int))=ab->(((↑I:Int)==(↑(qCG4+qCG3):Int))=ac->(decide (u>=10)=ac->wr ag (qCG1 I)=v)/\(decide (u>=10)=ab->wr ag (qCG2 I)=v))/\(((↑I:Int)==(↑(qCG4+qCG3):Int))=ab->(((↑I:Int)==(↑(qCG4+qCG3+qCG3):Int))=ac->(decide (u>=100)=ac->wr ag (qCG1 I)=v)/\(decide (u>=100)=ab->wr ag (qCG2 I)=v))/\(((↑I:Int)==(↑(qCG4+qCG3+qCG3):Int))=ab->(((↑I:Int)==(↑(qCG4+qCG3+qCG3+qCG3):Int))=ac->(decide (u>=1000)=ac->wr ag (qCG1 I)=v)/\(decide (u>=1000)=ab->wr ag (qCG2 I)=v))/\(((↑I:Int)==(↑(qCG4+qCG3+qCG3+qCG3):Int))=ab->(((↑I:Int)==(↑(qCG4+qCG3+qCG3+qCG3+qCG3):Int))=ac->(decide (u>=10000)=ac->wr ag (qCG1 I)=v)/\(decide (u>=10000)=ab->wr ag (qCG2 I)=v))/\(((↑I:Int)==(↑(qCG4+qCG3+qCG3+qCG3+qCG3):Int))=ab->(((↑I:Int)==qCG5)=ac->(decide (u>=100000)=ac->wr ag (qCG1 I)=v)/\(decide (u>=100000)=ab->wr ag (qCG2 I)=v))/\(((↑I:Int)==qCG5)=ab->((Z66 I)=ac->(decide (u>=1000000)=ac->wr ag (qCG1 I)=v)/\(decide (u>=1000000)=ab->wr ag (qCG2 I)=v))/\((Z66 I)=ab->((Z65 I)=ac->(decide (u>=10000000)=ac->wr ag (qCG1 I)=v)/\(decide (u>=10000000)=ab->wr ag (qCG2 I)=v))/\((Z65 I)=ab->((Z64 I)=ac->(decide (u>=100000000)=ac->wr ag (qCG1 I)=v)/\(decide (u>=100000000)=ab->wr ag (qCG2 I)=v))/\((Z64 I)=ab->((Z63 I)=ac->(decide (u>=1000000000)=ac->wr ag (qCG1 I)=v)/\(decide (u>=1000000000)=ab->wr ag (qCG2 I)=v))/\((Z63 I)=ab->((Yjc I)=ac->(decide (u>=10000000000)=ac->wr ag (qCG1 I)=v)/\(decide (u>=10000000000)=ab->wr ag (qCG2 I)=v))/\((Yjc I)=ab->((Yjb I)=ac->(decide (u>=100000000000)=ac->wr ag (qCG1 I)=v)/\(decide (u>=100000000000)=ab->wr ag (qCG2 I)=v))/\((Yjb I)=ab->((Yja I)=ac->(decide (u>=1000000000000)=ac->wr ag (qCG1 I)=v)/\(decide (u>=1000000000000)=ab->wr ag (qCG2 I)=v))/\((Yja I)=ab->((Yi9 I)=ac->(decide (u>=10000000000000)=ac->wr ag (qCG1 I)=v)/\(decide (u>=10000000000000)=ab->wr ag (qCG2 I)=v))/\((Yi9 I)=ab->((Yi8 I)=ac->(decide (u>=100000000000000)=ac->wr ag (qCG1 I)=v)/\(decide (u>=100000000000000)=ab->wr ag (qCG2 I)=v))/\((Yi8 I)=ab->((Yi7 I)=ac->(decide (u>=1000000000000000)=ac->wr ag (qCG1 I)=v)/\(decide (u>=1000000000000000)=ab->wr ag (qCG2 I)=v))/\((Yi7 I)=ab->((Yi6 I)=ac->(decide (u>=10000000000000000)=ac->wr ag (qCG1 I)=v)/\(decide (u>=10000000000000000)=ab->wr ag (qCG2 I)=v))/\((Yi6 I)=ab->((Yi5 I)=
ac->(decide (u>=100000000000000000)=ac->wr ag (qCG1 I)=v)/\(decide (u>=100000000000000000)=ab->wr ag (qCG2 I)=v))/\((Yi5 I)=ab->((Yi4 I)=ac->(decide (u>=1000000000000000000)=ac->wr ag (qCG1 I)=v)/\(decide (u>=1000000000000000000)=ab->wr ag (qCG2 I)=v))/\((Yi4 I)=ab->((Yi3 I)=ac->(decide (u>=10000000000000000000)=ac->wr ag (qCG1 I)=v)/\(decide (u>=10000000000000000000)=ab->wr ag (qCG2 I)=v))/\((Yi3 I)=ab->True))))))))))))))))))))):=by kernel_rfl
theorem Yng:FnsOk E Fnd:=Zb (Zb F0_ok Z62) Yi2
theorem blA:∀f x,kU f x<=f
 |0,x=>av _
 |f+1,x=>by
  unfold kU
  split
  ·exact aW _
  ·have:=blA f (x/2)
   omega
theorem bl64(x:Nat):fY x<=64:=blA 64 x
theorem Yje(u:Nat) (R:1<=u) (h2:u<18446744073709551616):PureC E 160 [.int ab .u64 (u:Int)] (.int ab .i64 (eJ u)):=by
 refine Za E_ok (Zd E_ok Yng 400) ?_;rw[Yjd];delta qCG1 qCG2 qCG3 qCG4 qCG5;unfold Z66 Z65 Z64 Z63 Yjc Yjb Yja Yi9 Yi8 Yi7 Yi6 Yi5 Yi4 Yi3;refine⟨⟨by omega,by omega⟩,λy hy=> ?_⟩;have U:y=fY u:=by rw[hy,show af (u:Int)=u by omega]
 obtain⟨J,k2⟩:=Lib.numDigits_eq u R h2;have a0:fY u<=64:=bl64 u;refine⟨⟨by omega,by omega⟩,λt I=> ?_⟩;have I:t=kc (fY u):=by rw[I,show af (y:Int)=y by omega,U]
 rw[<-I] at J k2;generalize eJ u=d at*;clear I U hy a0;refine⟨by omega,by omega,?_⟩;have hc:t=0\/t=1\/t=2\/t=3\/t=4\/t=5\/t=6\/t=7\/t=8\/t=9\/t=10\/t=11\/t=12\/t=13\/t=14\/t=15\/t=16\/t=17\/t=18\/t=19:=by omega
 have w:∀n:Int,0<=n->n<=20->wr .i64 n=n:=λn h0 R=>wr64 (by omega) (by omega);rcases hc with rfl|rfl|rfl|rfl|rfl|rfl|rfl|rfl|rfl|rfl|rfl|rfl|rfl|rfl|rfl|rfl|rfl|rfl|rfl|rfl
 all_goals
  simp;refine⟨λh=> ?_,λh=> ?_⟩
  ·rw[w _ (by decide) (by decide)]
   rw[jM (by omega)] at J;omega
  ·rw[w _ (by decide) (by decide)]
   rw[jJ (by omega)] at J;omega
end
section
open Go
def tightF(op:Int):Int:=if op=3\/op=4 then 1 else if op=5 then 2 else 3
def idxI(v:Int):Nat->List Int->Int
 |_,[]=> -1
 |k,x::r=>if v=x then(k:Int) else idxI v (k+1) r
def txU(d:List Int):List (List Nat):=
 (if 0<=idxI 1 0 d then[eR.words.getD (idxI 1 0 d).toNat []] else[])++(if 0<=idxI (-1) 0 d then[sPer,eR.words.getD (idxI (-1) 0 d).toNat []] else[])
def txS:List (List (List Nat))->List (List Nat)->List (List Nat)
 |t::r,s::I=>t++s::txS r I
 |_,_=> []
def par(op least:Int) (t:List (List Nat)):List (List Nat):=if least<=tightF op then t else X7::(t++ [Ye])
def sgnO(op:Int):List Nat:=if op=3 then Zdi else if op=4 then U0 else sMul
def txN(op n:Int) (u:List Int) (os:List Int) (ts:List (List (List Nat))):List (List Nat):=
 if op=1 then decN n::txU u
 else if op=2 then[dK.words.getD n.toNat []]
 else if op=11 then sIf::X7::txS ts [Ze3,Yh,Yh,Ye]
 else if op=3\/op=4\/op=5 then par (os.getD 0 0) (tightF op) (ts.getD 0 [])++sgnO op::par (os.getD 1 0) (tightF op+1) (ts.getD 1 [])
 else gJ.words.getD (op-6).toNat []::X7::txS ts [Yh,Ye]
mutual
def txX:Ex->List (List Nat)
 | .mk op n d0 d1 d2 d3 l=>txN op n [d0,d1,d2,d3] (l.map aM) (txL l)
def txL:List Ex->List (List (List Nat))
 | []=> []
 |x::r=>txX x::txL r
end
def sPay:List Nat:= [112,97,121]
def Zhu:List Nat:= [59]
def Zhv:List Nat:= [116,97,114,105,102,102]
def sFor:List Nat:= [102,111,114]
def sLb:List Nat:= [123]
def sRb:List Nat:= [125]
def txW(w:Tst):List (List Nat):=dK.words.getD w.attr.toNat []::(if w.low=w.high then[sIs,decN w.low] else[sIn,decN w.low,Zef,decN w.high])
def txTs:Nat->List Tst->List (List Nat)
 |_,[]=> []
 |i,w::r=>(if i=0 then Zif else sAnd)::(txW w++txTs (i+1) r)
def txC(c:Cls):List (List Nat):=W2::c.name::(txTs 0 c.when_++sPay::(txX c.pay++ [Zhu]))
def txCs:List Cls->List (List Nat)
 | []=> []
 |c::r=>txC c++txCs r
def Zas(t:Tar):List (List Nat):=Zhv::t.name::sFor::gw.words.getD (t.for_-1).toNat []::sLb::(txCs t.clauses++ [sRb])
def Vm:List (List Nat)->List Nat
 | []=> []
 | [w]=>w
 |w::r=>w++32::Vm r
noncomputable def X9(t:Tar):List Nat×Int:=if Z8 t≠0 then([],Z8 t) else if 2000<(Vm (Zas t)).length then([],2) else(Vm (Zas t),0)
theorem Zk0{w:List Nat} {r:List (List Nat)} (h:r≠ []):Vm (w::r)=w++32::Vm r:=by
 cases r with
 |nil=>exact ka rfl h
 |cons x r=>rfl
def SepL(s t:List Nat):Prop:=(∀c,s.getLast? =ae c->isLD c=ab)\/(∀c,t.head? =ae c->isLD c=ab)
def atT(p:Nat) (t:Tok):Tok:=⟨t.kind,t.text,t.n,p⟩
def TokW(w:List Nat):Prop:=(tokP w).2=0/\(tokP w).1.text=w/\w≠ []
inductive Lx:List Nat->Nat->List Tok->Prop
 |nil (p:Nat):Lx [] p []
 |blank (c:Nat) (s:List Nat) (p:Nat) (l:List Tok) (hc:blk c=ac) (h:Lx s (p+1) l):Lx (c::s) p l
 |tok (w s:List Nat) (p:Nat) (l:List Tok) (hw:TokW w) (hs:SepL w s) (h:Lx s (p+w.length) l):Lx (w++s) p (atT p (tokP w).1::l)
theorem Vz{f:Int->Bool}:∀{w:List Nat},(∀c∈w,f c=ac)->spn f w=w.length
 | [],_=>rfl
 |c::r,h=>by
  unfold spn
  rw[jM (h c (by simp)),Vz λc I=>h c (by simp[I])]
  rfl
theorem Zr2{f:Int->Bool}:∀{w s:List Nat},(∀c∈w,f c=ac)->(∀c,s.head? =ae c->f c=ab)->spn f (w++s)=w.length
 | [],s,_,h=>by
  cases s with
  |nil=>rfl
  |cons c r=>
   rw[dX]
   unfold spn
   rw[jJ (by rw[h c rfl];decide)]
   rfl
 |c::r,s,I,h=>by
  rw[cd]
  unfold spn
  rw[jM (I c (by simp)),Zr2 (λc J=>I c (by simp[J])) h]
  rfl
theorem Zvb{f:Int->Bool} {w:List Nat} (h:w.take (spn f w)=w):∀c∈w,f c=true:=λc I=>Zn5 (by rw[h];exact I)
theorem Z1y{w:List Nat} (J:w≠ []) (h:∀c∈w,isLD c=ac) {s:List Nat} (U:SepL w s):∀c,s.head? =ae c->isLD c=false:=by
 rcases U with I|I
 ·have R:=I (w.getLast J) (List.getLast?_eq_some_getLast J)
  rw[h _ (List.getLast_mem J)] at R;cases R
 ·exact I
theorem Ykr{n:Int} (h:isD n=ac):isLD n=true:=by unfold isLD;rw[h,Bool.or_true]
theorem Yks{n:Int} (h:isLD n=ab):isD n=false:=by
 unfold isLD at h;rw[bI] at h;exact h.2
theorem Z8s{w s:List Nat} (h:TokW w) (hs:SepL w s):tokP (w++s)=tokP w:=by
 obtain⟨J,I,h3⟩:=h;cases w with
 |nil=>exact ka rfl h3
 |cons c r=>
  rw[Xa] at J I;rw[cd,Xa,Xa];split at J
  ·rename_i U
   rw[jM U] at I;rw[jM U,jM U];split at J
   ·cases J
   ·rename_i hn
    rw[jJ hn] at I;have R:=Zvb (show(c::r).take (spn isLD (c::r))=c::r from I);have hb:=Z1y h3 R hs;have e1:spn isLD (c::(r++s))=(c::r).length:=Zr2 (w:=c::r) R hb;have e2:spn isLD (c::r)=(c::r).length:=Vz R;rw[e1,e2];rw[e2] at hn;rw[jJ hn,jJ hn,<-cd,iO,aV]
  ·rename_i U
   rw[jJ U] at I;rw[jJ U,jJ U];split at J
   ·rename_i hd
    rw[jM hd] at I;rw[jM hd,jM hd];have R:=Zvb (show(c::r).take (spn isD (c::r))=c::r from I);have hb:=Z1y h3 (λc hc=>Ykr (R c hc)) hs;have e1:spn isD (c::(r++s))=(c::r).length:=Zr2 (w:=c::r) R λc hc=>Yks (hb c hc);have e2:spn isD (c::r)=(c::r).length:=Vz R;rw[e1,e2,<-cd,iO,aV]
   ·rename_i hd
    rw[jJ hd] at I;rw[jJ hd,jJ hd];split at J
    ·rename_i w hw
     rw[hw] at I;simp only at I;unfold tokS at J I⊢;split at J
     ·rename_i ht
      rw[jM ht] at I;have I:w=c::r:=I;subst I;rw[jM ht,jM];rw[<-cd,iO]
     ·cases J
    ·cases J
theorem TokW.head{w:List Nat} (h:TokW w) {s:List Nat}:∃c,(w++s)[0]? =ae c/\blk c=ab/\c≠35:=by
 obtain⟨I,h2,U⟩:=h;cases w with
 |nil=>exact ka rfl U
 |cons c r=>
  refine⟨c,rfl,?_⟩;rw[Xa] at I;have key:(isL c=ac\/isD c=ac\/(sgnW c).isSome=ac):=by
   split at I
   ·exact .inl (by assumption)
   ·split at I
    ·exact .inr (.inl (by assumption))
    ·split at I
     ·rename_i w hw
      exact .inr (.inr (by rw[hw];rfl))
     ·cases I
  have R:97<=c\/(48<=c/\c<=57)\/(sgnW c).isSome=true:=by
   rcases key with h|h|h
   ·unfold isL at h
    simp at h;omega
   ·unfold isD at h
    simp at h;omega
   ·exact .inr (.inr h)
  constructor
  ·cases J:blk c with
   |false=>rfl
   |true=>
    exfalso;unfold blk at J;simp at J;rcases J with((rfl|rfl)|rfl)|rfl<;>simp[sgnW] at R
  ·rintro rfl
   simp[sgnW] at R
theorem Z8t{S w s:List Nat} {p:Nat} (h:S.drop p=w++s):S.drop (p+w.length)=s:=by
 rw[<-eS,h,List.drop_left]
theorem Ykt{s:List Nat} {p:Nat} {l:List Tok} (h:Lx s p l):∀(k:Nat) (S:List Nat) (J:List Tok),S.drop p=s->s.length<=k->tksL k S p J=(J++l,0,0):=by
 have U:∀(S:List Nat) (p:Nat),S[p]? =(S.drop p)[0]? :=λS p=>by rw[List.getElem?_drop];rfl
 induction h with
 |nil p=>
  intro k S J I R;have e:S[p]? =none:=by rw[U,I];rfl
  cases k with
  |zero=>unfold tksL;rw[cG]
  |succ k=>
   unfold tksL;rw[e,cG]
 |blank c s p l hc h ih=>
  intro k S J I R;cases k with
  |zero=>simp at R
  |succ k=>
   have e:S[p]? =ae c:=by rw[U,I];rfl
   unfold tksL;simp only[e,jM hc];refine ih k S J ?_ (by simpa using R);rw[<-eS,I];rfl
 |tok w s p l hw hs h ih=>
  intro k S J I R;obtain⟨c,h0,hb,a0⟩:=hw.head (s:=s);have hp:=Z8s hw hs;have a1:=hw;obtain⟨h1,h2,h3⟩:=a1;have a2:1<=w.length:=by
   cases w with
   |nil=>exact ka rfl h3
   |cons c r=>simp
  cases k with
  |zero=>rw[az] at R;omega
  |succ k=>
   have e:S[p]? =ae c:=by rw[U,I];exact h0
   unfold tksL;simp only[e,jJ (show¬blk c=ac by rw[hb];decide),jJ a0,I,hp];rw[jJ (by rw[h1];decide),h2];rw[ih k S _ (Z8t I) (by rw[az] at R;omega)];rw[be];unfold atT;rw[h2];rfl
theorem Z1z{s:List Nat} {l:List Tok} (h:Lx s 0 l) (I:s.length<=2000):Xf s=(l,0,0):=by
 unfold Xf;rw[jJ (by omega),Ykt h s.length s [] rfl (av _)];rfl
theorem SepL.tail{w s t:List Nat} (J:s≠ []) (h:SepL (w++s) t):SepL s t:=by
 rcases h with h|h
 ·refine .inl λc I=>h c ?_
  rw[List.getLast?_append,I];rfl
 ·exact .inr h
def tkA:Nat->List (List Nat)->List Tok
 |_,[]=> []
 |p,w::r=>atT p (tokP w).1::tkA (p+w.length+1) r
theorem Yof:blk 32=true:=rfl
theorem Yog(w s:List Nat):SepL w (32::s):= .inr λc I=>by cases I;rfl
theorem Z10:∀{ws:List (List Nat)} (p:Nat),(∀w∈ws,TokW w)->Lx (Vm ws) p (tkA p ws)
 | [],p,_=> .nil p
 | [w],p,h=>by
  have:=Lx.tok w [] p [] (h w (by simp)) (.inr λc I=>by cases I) (.nil _)
  rw[cG] at this
  exact this
 |w::x::r,p,h=>by
  refine .tok w (32::Vm (x::r)) p _ (h w (by simp)) (Yog _ _) (.blank 32 _ _ _ Yof ?_)
  exact Z10 (ws:=x::r) _ λw J=>h w (aI _ J)
def tkS(w:List Nat):Tok:=atT 0 (tokP w).1
def sT(t:Tok):Tok:=atT 0 t
theorem Ydo:∀(ws:List (List Nat)) (p:Nat),(tkA p ws).map sT=ws.map tkS
 | [],_=>rfl
 |w::r,p=>by
  unfold tkA
  rw[bQ,Ydo r,bQ]
  rfl
end
section
open Go
def ndZ(u:Int) (k:Res thy->Prop):List Int->Prop
 | []=>True
 |j::r=>((eJ u.toNat:Int)=j->k (quiet [] (.int ac .i64 j)))/\ndZ u k r
noncomputable def SndZ:Sum thy:=λargs _ _ k=>
 match args with
 | [.int _ .u64 u]=>(1<=u/\u<10000000000000000)/\ndZ u k [1,2,3,4,5,6,7,8,9,10,11,12,13,14,15,16]
 |_=>False
noncomputable def SsmZ:Sum thy:=Ws (dA1 dN) (λx=>0<=x.1/\x.1<100) (λx=>(gW x.1).map db) λy=> .str ab y
noncomputable def FitZ:Fns thy:=addS (addS F0 160 SndZ) 159 SsmZ
def smZ:List Nat:= [48,48,48,49,48,50,48,51,48,52,48,53,48,54,48,55,48,56,48,57,49,48,49,49,49,50,49,51,49,52,49,53,49,54,49,55,49,56,49,57,50,48,50,49,50,50,50,51,50,52,50,53,50,54,50,55,50,56,50,57,51,48,51,49,51,50,51,51,51,52,51,53,51,54,51,55,51,56,51,57,52,48,52,49,52,50,52,51,52,52,52,53,52,54,52,55,52,56,52,57,53,48,53,49,53,50,53,51,53,52,53,53,53,54,53,55,53,56,53,57,54,48,54,49,54,50,54,51,54,52,54,53,54,54,54,55,54,56,54,57,55,48,55,49,55,50,55,51,55,52,55,53,55,54,55,55,55,56,55,57,56,48,56,49,56,50,56,51,56,52,56,53,56,54,56,55,56,56,56,57,57,48,57,49,57,50,57,51,57,52,57,53,57,54,57,55,57,56,57,57]
def pZ(b:Int) (K:Nat->Nat->Prop):Prop:=0<=wr .u32 (b+1)/\wr .u32 (b+1)+1<=(smZ.length:Int)/\∀x:Nat,smZ[(wr .u32 (b+1)).toNat]? =ae x->0<=b/\b+1<=(smZ.length:Int)/\∀y:Nat,smZ[b.toNat]? =ae y->K (af (x:Int)%256) (af (y:Int)%256)
def e8Z(u:Int) (L:List Nat) (K:List Nat->Prop):Prop:=
 pZ (wr .u32 (fb (fb (wr .u32 (fb u 100000000)) 10000) 100*2)) λa b=>
 pZ (wr .u32 (wr .u32 (dq (fb (wr .u32 (fb u 100000000)) 10000) 100)*2)) λc d=>
 pZ (wr .u32 (fb (wr .u32 (dq (wr .u32 (fb u 100000000)) 10000)) 100*2)) λe f=>
 pZ (wr .u32 (wr .u32 (dq (wr .u32 (dq (wr .u32 (fb u 100000000)) 10000)) 100)*2)) λg h=>K (h::g::f::e::d::c::b::a::L)
def e4Z(v:Int) (L:List Nat) (K:List Nat->Prop):Prop:=
 pZ (wr .u32 (fb (fb v 10000) 100*2)) λa b=>
 pZ (wr .u32 (wr .u32 (dq (fb v 10000) 100)*2)) λc d=>K (d::c::b::a::L)
def e2Z(v:Int) (L:List Nat) (K:List Nat->Prop):Prop:=pZ (wr .u32 (fb v 100*2)) λa b=>K (b::a::L)
def e1Z(v:Int) (L:List Nat) (K:List Nat->Prop):Prop:=K (af (wr .u8 (wr .u32 (48+v)))%256::L)
def loZ:Nat->Int->List Nat->(List Nat->Prop)->Prop
 |0,_,L,K=>K L
 |1,v,L,K=>e1Z v L K
 |2,v,L,K=>e2Z v L K
 |3,v,L,K=>e2Z v L λL=>e1Z (wr .u32 (dq v 100)) L K
 |4,v,L,K=>e4Z v L K
 |5,v,L,K=>e4Z v L λL=>e1Z (wr .u32 (dq v 10000)) L K
 |6,v,L,K=>e4Z v L λL=>e2Z (wr .u32 (dq v 10000)) L K
 |7,v,L,K=>e4Z v L λL=>e2Z (wr .u32 (dq v 10000)) L λL=>e1Z (wr .u32 (dq (wr .u32 (dq v 10000)) 100)) L K
 |_,_,_,_=>False
def hiZ(j:Nat) (u:Int) (L:List Nat) (K:List Nat->Prop):Prop:=
 if j<8 then loZ j (wr .u32 u) L K
 else e8Z u L λL=>if j<16 then loZ (j-8) (wr .u32 (wr .u64 (dq u 100000000))) L K else e8Z (wr .u64 (dq u 100000000)) L K
def finZ(n:Int) (v:List Nat) (L:List Nat):Prop:=(decide (n<0)=ac->af 45%256::L=v)/\(decide (n<0)=ab->L=v)
def allZ(u n:Int) (v:List Nat):List Nat->Prop
 | []=>True
 |j::r=>((eJ u.toNat:Int)=j->hiZ j u [] (finZ n v))/\allZ u n v r
def itZ(u n:Int) (v:List Nat):Prop:=(1<=u/\u+1<=10000000000000000)/\allZ u n v [1,2,3,4,5,6,7,8,9,10,11,12,13,14,15,16]
theorem Zzc(n:Int) (v:List Nat):Zk E FitZ (vc E FitZ 2000) 115 [.int ab .i64 n] hp0 0 (λr=>ret E (patch hp0 0 r) r.v (.str ab v))=(
 ∃(Q:Bool->Prop),((decide (0<=n)=ac->(decide (n<100)=ac->Q ac)/\(decide (n<100)=ab->Q ab))/\(decide (0<=n)=ab->Q ab))/\(Q ac->(0<=n/\n+1<=100)/\∀(y:List Nat),y=List.map db (gW n)->y=v)/\
  (Q ab->(decide (n<0)=ac->itZ (wr .u64 (0-wr .u64 n)) n v)/\(decide (n<0)=ab->itZ (wr .u64 n) n v))):=by kernel_rfl
theorem Z3m{u:Int} {k:Res thy->Prop}:∀{l:List Int},ndZ u k l->∀j∈l,(eJ u.toNat:Int)=j->k (quiet [] (.int ac .i64 j))
 | [],_,j,I,_=>by cases I
 |x::r,h,j,I,e=>by
  rcases aH.1 I with rfl|I
  ·exact h.1 e
  ·exact Z3m h.2 j I e
theorem Z3n:∀(k u:Nat),u<10^(k+1)->eJ u<=k+1
 |0,u,h=>by rw[ke (by simpa using h)];exact av _
 |k+1,u,h=>by
  by_cases I:u<10
  ·rw[ke I];omega
  ·rw[Lib.nDigits_big I]
   rw[Nat.pow_succ] at h
   have:=Z3n k (u/10) (by omega)
   omega
theorem in16(d:Nat) (I:1<=d) (J:d<=16):(d:Int)∈ [(1:Int),2,3,4,5,6,7,8,9,10,11,12,13,14,15,16]:=by
 have:d=1\/d=2\/d=3\/d=4\/d=5\/d=6\/d=7\/d=8\/d=9\/d=10\/d=11\/d=12\/d=13\/d=14\/d=15\/d=16:=by omega
 rcases this with rfl|rfl|rfl|rfl|rfl|rfl|rfl|rfl|rfl|rfl|rfl|rfl|rfl|rfl|rfl|rfl<;>decide
theorem Ygw:SumOk E 160 SndZ:=by
 have U:SumOk E 160 (Ws (dA1 dU64) (λx=>1<=x.1/\x.1<10000000000000000) (λx=>eJ x.1.toNat) λ(y:Nat)=> .int ac .i64 y):=Z1 E_ok (Zc rfl) λx h=>by
  have:=Yje x.1.toNat (by omega) (by omega);rw[show((x.1.toNat:Nat):Int)=x.1 by omega] at this;intro g w a0 hI hd;refine(this g w a0 hI hd).mono ?_;rintro en w' ⟨u,he,g',J,R,h3⟩;cases h3;exact⟨_,he,g',J,R,.int _ _ _⟩
 refine⟨U.good,λargs h i k hD I=> ?_⟩;unfold SndZ at I;split at I
 case h_2=>exact I.elim
 rename_i l u;obtain⟨⟨J,R⟩,I⟩:=I;refine U.ok _ h i k hD ⟨⟨J,R⟩,λy hy=> ?_⟩;subst hy;have hn:=Z3n 15 u.toNat (by show u.toNat<10000000000000000;omega);have hp:=Lib.nDigits_pos u.toNat;refine Z3m I _ (in16 _ hp hn) rfl
theorem Ygx:SumOk E 159 SsmZ:=Z1 E_ok (Zc rfl) λx h=>by
 have:=Z0f x.1.toNat (by omega);rw[show((x.1.toNat:Nat):Int)=x.1 by omega] at this;have e:gW x.1=fa x.1.toNat:=by unfold gW;rw[jJ (by omega)]
 rw[e];exact this
theorem Ygy:FnsOk E FitZ:=Zb (Zb F0_ok Ygw) Ygx
def smVZ(i:Nat):Nat:=if i%2=0 then 48+i/2/10 else 48+i/2%10
theorem Z3o:∀i,i<200->smZ[i]? =ae (smVZ i):=by decide+kernel
theorem Ygz:smZ.length=200:=by decide+kernel
theorem Ylj(x:Int):wr .u64 x=x%18446744073709551616:=rfl
theorem Zfx(x:Int):wr .u32 x=x%4294967296:=rfl
theorem wuZ8(x:Int):wr .u8 x=x%256:=rfl
theorem Ztf{m:Nat} (hm:m<100) {b:Int} (hb:b=((m*2:Nat):Int)) {K:Nat->Nat->Prop} (h:K (48+m%10) (48+m/10)):pZ b K:=by
 have e1:wr .u32 (b+1)=((m*2+1:Nat):Int):=by rw[Zfx];omega
 unfold pZ;rw[e1,Ygz,bk];refine⟨by omega,by omega,λx I=>⟨by omega,by omega,λy J=> ?_⟩⟩;rw[Z3o _ (by omega)] at I;rw[hb,bk,Z3o _ (by omega)] at J;cases I;cases J;rw[bk,bk];have R:smVZ (m*2+1)%256=48+m%10:=by unfold smVZ;rw[jJ (by omega)];omega
 have U:smVZ (m*2)%256=48+m/10:=by unfold smVZ;rw[jM (by omega)];omega
 rw[R,U];exact h
def dgZ(u j:Nat):Nat:=48+u/10^j%10
theorem Yd0(u:Nat) {L:List Nat} {K:List Nat->Prop} (h:K (dgZ u 7::dgZ u 6::dgZ u 5::dgZ u 4::dgZ u 3::dgZ u 2::dgZ u 1::dgZ u 0::L)):e8Z (u:Int) L K:=by
 refine Ztf (m:=u%100000000%10000%100) (by omega) (by simp(disch:=omega) only[Zfx,di,cD];omega) ?_;refine Ztf (m:=u%100000000%10000/100) (by omega) (by simp(disch:=omega) only[Zfx,di,cD];omega) ?_;refine Ztf (m:=u%100000000/10000%100) (by omega) (by simp(disch:=omega) only[Zfx,di,cD];omega) ?_;refine Ztf (m:=u%100000000/10000/100) (by omega) (by simp(disch:=omega) only[Zfx,di,cD];omega) ?_
 refine Eq.mp (kk K ?_) h;simp only[dgZ,ej,and_true,cV]
 repeat' apply aC
 all_goals omega
theorem Zv9(v:Nat) {L:List Nat} {K:List Nat->Prop} (h:K (dgZ v 3::dgZ v 2::dgZ v 1::dgZ v 0::L)):e4Z (v:Int) L K:=by
 refine Ztf (m:=v%10000%100) (by omega) (by simp(disch:=omega) only[Zfx,di,cD];omega) ?_;refine Ztf (m:=v%10000/100) (by omega) (by simp(disch:=omega) only[Zfx,di,cD];omega) ?_;refine Eq.mp (kk K ?_) h;simp only[dgZ,ej,and_true,cV]
 repeat' apply aC
 all_goals omega
theorem Zwa(v:Nat) {L:List Nat} {K:List Nat->Prop} (h:K (dgZ v 1::dgZ v 0::L)):e2Z (v:Int) L K:=by
 refine Ztf (m:=v%100) (by omega) (by simp(disch:=omega) only[Zfx,di,cD];omega) ?_;refine Eq.mp (kk K ?_) h;simp only[dgZ,ej,and_true,cV]
 repeat' apply aC
 all_goals omega
theorem Zwb(v:Nat) (I:v<10) {L:List Nat} {K:List Nat->Prop} (h:K (dgZ v 0::L)):e1Z (v:Int) L K:=by
 have e:af (wr .u8 (wr .u32 (48+(v:Int))))%256=dgZ v 0:=by unfold dgZ;rw[wuZ8,Zfx];simp only[cV];omega
 unfold e1Z;rw[e];exact h
theorem q2Z(v:Nat) (I:v<10000):wr .u32 (dq (v:Int) 100)=((v/100:Nat):Int):=by simp(disch:=omega) only[Zfx,cD];omega
theorem q4Z(v:Nat) (I:v<4294967296):wr .u32 (dq (v:Int) 10000)=((v/10000:Nat):Int):=by simp(disch:=omega) only[Zfx,cD];omega
def dlZ(u j:Nat):List Nat:=(dk j).map λt=>dgZ u (j-1-t)
theorem Yd1:∀(j:Nat),j<=7->∀(v:Nat),v<10^j->∀{L:List Nat} {K:List Nat->Prop},K (dlZ v j++L)->loZ j (v:Int) L K
 |0,_,v,_,L,K,h=>h
 |1,_,v,I,L,K,h=>Zwb v (by simpa using I) h
 |2,_,v,_,L,K,h=>Zwa v h
 |3,_,v,I,L,K,h=>by
  show e2Z (v:Int) L λL=>e1Z (wr .u32 (dq (v:Int) 100)) L K
  refine Zwa v ?_
  rw[q2Z v (by simp only[cV] at I;omega)]
  refine Zwb _ (by simp only[cV] at I;omega) (Eq.mp (kk K ?_) h)
  simp only[dlZ,dgZ,dk,fk,bQ,dM,cd,dX,ej,and_true,ie,cV]
  repeat' apply aC
  all_goals omega
 |4,_,v,_,L,K,h=>Zv9 v h
 |5,_,v,I,L,K,h=>by
  show e4Z (v:Int) L λL=>e1Z (wr .u32 (dq (v:Int) 10000)) L K
  refine Zv9 v ?_
  rw[q4Z v (by simp only[cV] at I;omega)]
  refine Zwb _ (by simp only[cV] at I;omega) (Eq.mp (kk K ?_) h)
  simp only[dlZ,dgZ,dk,fk,bQ,dM,cd,dX,ej,and_true,ie,cV]
  repeat' apply aC
  all_goals omega
 |6,_,v,I,L,K,h=>by
  show e4Z (v:Int) L λL=>e2Z (wr .u32 (dq (v:Int) 10000)) L K
  refine Zv9 v ?_
  rw[q4Z v (by simp only[cV] at I;omega)]
  refine Zwa _ (Eq.mp (kk K ?_) h)
  simp only[dlZ,dgZ,dk,fk,bQ,dM,cd,dX,ej,and_true,ie,cV]
  repeat' apply aC
  all_goals omega
 |7,_,v,I,L,K,h=>by
  show e4Z (v:Int) L λL=>e2Z (wr .u32 (dq (v:Int) 10000)) L λL=>e1Z (wr .u32 (dq (wr .u32 (dq (v:Int) 10000)) 100)) L K
  refine Zv9 v ?_
  rw[q4Z v (by simp only[cV] at I;omega)]
  refine Zwa _ ?_
  rw[q2Z _ (by simp only[cV] at I;omega)]
  refine Zwb _ (by simp only[cV] at I;omega) (Eq.mp (kk K ?_) h)
  simp only[dlZ,dgZ,dk,fk,bQ,dM,cd,dX,ej,and_true,ie,cV]
  repeat' apply aC
  all_goals omega
 |j+8,J,_,_,_,_,_=>by omega
theorem Yoo(u j:Nat):dlZ u (j+8)=dlZ (u/100000000) j++ [dgZ u 7,dgZ u 6,dgZ u 5,dgZ u 4,dgZ u 3,dgZ u 2,dgZ u 1,dgZ u 0]:=by
 unfold dlZ;rw[List.range_add,eC]
 congr 1
 ·refine jA λt I=> ?_
  have I:=List.mem_range.1 I;unfold dgZ;rw[Nat.div_div_eq_div_mul,show(100000000:Nat)=10^8 by decide,<-ld,show 8+(j-1-t)=j+8-1-t by omega]
 ·simp only[dk,fk,bQ,dM]
  rw[show j+8-1-(j+0)=7 by omega,show j+8-1-(j+1)=6 by omega,show j+8-1-(j+2)=5 by omega,show j+8-1-(j+3)=4 by omega,show j+8-1-(j+4)=3 by omega,show j+8-1-(j+5)=2 by omega,show j+8-1-(j+6)=1 by omega,show j+8-1-(j+7)=0 by omega]
theorem Ylk(j u:Nat) (hj:j<=16) (I:u<10^j) (a1:u<18446744073709551616) {K:List Nat->Prop} (h:K (dlZ u j)):hiZ j (u:Int) [] K:=by
 unfold hiZ;have J:wr .u64 (dq (u:Int) 100000000)=((u/100000000:Nat):Int):=by simp(disch:=omega) only[Ylj,cD];omega
 split
 ·rename_i U
  have R:u<10000000:=ck I (gX (by decide) (by omega:j<=7));rw[show wr .u32 (u:Int)=(u:Int) by rw[Zfx];omega];exact Yd1 j (by omega) u I (by rw[cG];exact h)
 ·rename_i U
  obtain⟨k,rfl⟩:∃k,j=k+8:=⟨j-8,by omega⟩;have hd:u/100000000<10^k:=by
   rw[ld] at I;exact Nat.div_lt_of_lt_mul (by rw[Nat.mul_comm];exact I)
  rw[Yoo] at h;refine Yd0 u ?_;split
  ·rename_i a0
   rw[J,Nat.add_sub_cancel];have R:u/100000000<10000000:=ck hd (gX (by decide) (by omega:k<=7));rw[show wr .u32 ((u/100000000:Nat):Int)=((u/100000000:Nat):Int) by rw[Zfx];omega];exact Yd1 k (by omega) _ hd h
  ·obtain rfl:k=8:=by omega
   rw[J];refine Yd0 _ ?_;exact h
theorem Z3p(u k:Nat) (h:eJ u=k):(fa u).map db=dlZ u k:=by
 rw[Lib.decDigits_eq,kV,h];refine jA λt _=> ?_;show(Lib.dg u (k-1-t)).toNat=_;unfold Lib.dg dgZ;rw[ib];omega
theorem Z3q{u n:Int} {v:List Nat}:∀{l:List Nat},(∀j∈l,eJ u.toNat=j->hiZ j u [] (finZ n v))->allZ u n v l
 | [],_=>jX
 |j::r,h=>⟨λe=>h j List.mem_cons_self (Int.ofNat.inj e),Z3q λi hi=>h i (aI _ hi)⟩
theorem Zzd(u:Nat) (hu:u<10000000000000000):PureC E 115 [.int ab .i64 (u:Int)] (.str ab (decN u)):=by
 refine Za E_ok (Zd E_ok Ygy 2000) ?_;rw[Zzc];have a0:decN (u:Int)=(fa u).map db:=by
  unfold decN gW;rw[jJ (by omega)];rfl
 by_cases hs:u<100
 ·refine⟨λb=>b=ac,⟨λ_=>⟨λ_=>rfl,λh=> ?_⟩,λh=> ?_⟩,λ_=>⟨⟨by omega,by omega⟩,λy hy=>hy⟩,λh=>by cases h⟩
  ·exact ka h (by simp;omega)
  ·exact ka h (by simp)
 refine⟨λb=>b=ab,⟨λ_=>⟨λh=> ?_,λ_=>rfl⟩,λ_=>rfl⟩,λh=>(by cases h),λ_=>⟨λh=> ?_,λ_=> ?_⟩⟩
 ·exact ka h (by simp;omega)
 ·exact ka h (by simp)
 have U:wr .u64 (u:Int)=u:=by rw[Ylj];omega
 rw[U];refine⟨⟨by omega,by omega⟩,Z3q λj _ I=> ?_⟩;rw[bk] at I;have R:=Lib.lt_pow_nDigits u;have J:=Z3n 15 u hu;rw[I] at R J;refine Ylk j u J R (by omega) ⟨λh=> ?_,λ_=> ?_⟩
 ·exact ka h (by simp)
 ·rw[a0,Z3p u j I]
theorem Z3r(u:Nat) (I:u<10000000000000):PureC E 115 [.int ab .i64 (u:Int)] (.str ab (decN u)):=Zzd u (by omega)
end
section
open Go.RowKit
section
variable {Y:Thy} {E:Eng Y}
def celS(E:Eng Y) (th:Y.Th) (I:Option (List (Y.dom th)×Nat)) (c:Nat):SV Y:=
 match I with
 |some p=> .sl c 0 p.1.length (E.w th) au
 |none=> .val (.slice au 0 0)
def hpP(E:Eng Y) (th:Y.Th) (I:Option (List (Y.dom th)×Nat)):Hp Y:=λb=>
 match aO b 0 with
 |true=>ae (.raw [celS E th I 1] 0 au)
 |false=>(match aO b 1 with
  |true=>(match I with|some p=>ae (.rows th p.1 p.2)|none=>au)
  |false=>au)
def fzO{α:Type} (I:Option (α×Nat)):Nat:=match I with|some p=>p.2|none=>0
def mdO{α:Type} (I:Option (α×Nat)) (b c:Nat):List Nat:=match I with|some _=> [b,c]|none=> [b]
def prnR(E:Eng Y) (th:Y.Th) (J:Option (List (Y.dom th)×Nat)) (b c i:Nat) (I:List (Y.dom th)):Res Y:=
 ⟨.tup [],1,mdO J b c,λx=>match aO x b with|true=>ae (.raw [.sl i 0 I.length (E.w th) au] 0 au)|false=>at1 i (ae (.rows th I (fzO J))) x,au⟩
def PrnC(E:Eng Y) (f:Nat) (th:Y.Th) (args:List (SV Y)) (I:Option (List (Y.dom th)×Nat)) (J:List (Y.dom th)):Prop:=
 ∀(b c:Nat) (h:Hp Y) (i:Nat) (tg:Option Y.Th),h b=ae (.raw [celS E th I c] 0 tg)->(∀p,I=ae p->h c=ae (.rows th p.1 p.2)/\b≠c)->Vi E f (.ptr b 0::args) h i (prnR E th I b c i J)
def prnK(E:Eng Y) (th:Y.Th) (I:Option (List (Y.dom th)×Nat)) (J:List (Y.dom th)) (r:Res Y):Prop:=
 match r.v,patch (hpP E th I) 2 r 0 with
 | .tup [],ae (.raw [.sl c 0 n w au] 0 _)=>
  (match Nat.ble 1 c&&aO w (E.w th),patch (hpP E th I) 2 r c with
  |true,ae (.rows U L R)=>U6 L λL=>L=J/\n=J.length/\R=fzO I
  |_,_=>False)
 |_,_=>False
theorem Yom(th:Y.Th) (I:Option (List (Y.dom th)×Nat)):hpP E th I 0=ae (.raw [celS E th I 1] 0 au):=rfl
theorem Zbd{th:Y.Th} {I:Option (List (Y.dom th)×Nat)} {x:Nat} {y:Blk Y} (h:hpP E th I x=ae y):(x=0/\y= .raw [celS E th I 1] 0 au)\/(x=1/\∃p,I=ae p/\y= .rows th p.1 p.2):=by
 match x,h with
 |0,h=>rw[Yom] at h;cases h;exact .inl ⟨rfl,rfl⟩
 |1,h=>
  cases I with
  |none=>cases h
  |some p=>
   have h:ae (Blk.rows th p.1 p.2:Blk Y)=ae y:=h;cases h;exact .inr ⟨rfl,p,rfl,rfl⟩
 |x+2,h=>cases h
theorem Ygh(th:Y.Th) (R:Option (List (Y.dom th)×Nat)):DomLt (hpP E th R) 2:=λb I=>by
 obtain⟨y,J⟩:=aY.1 I;rcases Zbd J with⟨rfl,_⟩|⟨rfl,_⟩<;>omega
def σP{α:Type} (I:Option α) (σ:Pl) (b c:Nat):Pl:=λx=>
 match aO x 0 with
 |true=>σ b
 |false=>(match aO x 1 with
  |true=>(match I with|some _=>σ c|none=>au)
  |false=>au)
theorem σP_cases{α:Type} {I:Option α} {σ:Pl} {b c x:Nat} {q:Nat×Nat} (h:σP I σ b c x=ae q):(x=0/\σ b=ae q)\/(x=1/\(∃p,I=ae p)/\σ c=ae q):=by
 match x,h with
 |0,h=>exact .inl ⟨rfl,h⟩
 |1,h=>
  cases I with
  |none=>cases h
  |some p=>exact .inr ⟨rfl,⟨p,rfl⟩,h⟩
 |x+2,h=>cases h
theorem mdO_mem{α:Type} {I:Option (α×Nat)} {b c x:Nat}:x∈mdO I b c↔x=b\/(x=c/\∃p,I=ae p):=by
 cases I with
 |none=>simp[mdO]
 |some p=>simp[mdO]
open Classical in
theorem X4(hE:EngOk E) {call:Nat->List (SV Y)->Hp Y->Nat->(Res Y->Prop)->Prop} (d8:Vb E call) {f:Nat} {th:Y.Th} {args:List (SV Y)} {st:Option (List (Y.dom th)×Nat)} {l':List (Y.dom th)} (ha:nidL 0 args=ac)
 (hk:call f (.ptr 0 0::args) (hpP E th st) 2 (prnK E th st l')):PrnC E f th args st l':=by
 intro b c h i tg hb hc
 obtain⟨r,hr,hR,b4⟩:=d8 f _ _ _ _ (Ygh th st) hk
 have f7:∀x∈r.mods,x=0\/(x=1/\∃p,st=ae p):=by
  intro x U
  obtain⟨y,hy⟩:=aY.1 (hR x U)
  rcases Zbd hy with⟨R,_⟩|⟨R,p,h2,_⟩
  ·exact .inl R
  ·exact .inr ⟨R,p,h2⟩
 unfold prnK at hr
 split at hr
 case h_2=>exact hr.elim
 rename_i c' n' w' f8 hv hp0
 split at hr
 case h_2=>exact hr.elim
 rename_i a0 L c8 b1 a8
 obtain⟨e,hr⟩:=Y6 hr
 subst e
 obtain⟨rfl,rfl,rfl⟩:l'=L/\n'=l'.length/\c8=fzO st:=⟨hr.1.symm,hr.2⟩
 rw[aq,Nat.ble_eq] at b1
 obtain⟨b1,hw⟩:=b1
 have hw:=ax hw
 subst hw
 replace b4:Vi E f (.ptr 0 0::args) (hpP E a0 st) 2 r:=b4.resolve_right (by rintro⟨p,J,_⟩;rw[hv] at J;cases J)
 intro B σ g W c7 hh f1 hI hB e0 hd
 obtain rfl:hh=h:=funext λb=>f1 b jX
 obtain⟨rb,zb,a2,d7⟩:=hI.blk b _ hb
 have b7:hh b≠none:=by rw[hb];simp
 have F0:σP st σ b c 0=σ b:=rfl
 have F1:∀p,st=ae p->σP st σ b c 1=σ c:=by rintro p rfl;rfl
 have bc:∀p,st=ae p->b≠c:=λp J=>(hc p J).2
 have cn:∀p,st=ae p->hh c≠none:=λp J=>by rw[(hc p J).1];simp
 have c6:∀p q z z',st=ae p->σ b=ae (q,z)->σ c=ae (q,z')->False:=λp q z z' J R h2=>bc p J (hI.inj b c q z z' b7 (cn p J) R h2)
 have c9:Inv E B (σP st σ b c) (hpP E a0 st) g W:=by
  refine⟨hI.gc,hI.gm,λx y U=> ?_,λx x' r z z' R h2 h3 h4=> ?_,λx r' z' I=> ?_,λx y r' z' o v U I hv=> ?_,λx y r' z' U I=> ?_,hI.glob⟩
  ·rcases Zbd U with⟨rfl,rfl⟩|⟨rfl,p,J,rfl⟩
   ·refine⟨rb,zb,a2,?_⟩
    obtain⟨arr,e,k1,k2,k3,k4,k5⟩:=d7
    refine⟨arr,e,k1,k2,k3,λj sv hj=> ?_,jX⟩
    cases j with
    |succ j=>cases hj
    |zero=>
     have hj:ae (celS E a0 st 1)=ae sv:=hj
     cases hj
     obtain⟨v,m1,m2⟩:=k4 0 _ (show([celS E a0 st c]:List (SV Y))[0]? =ae _ from rfl)
     refine⟨v,m1,?_⟩
     cases st with
     |none=>exact Zy hE m2 (λb p hb=>by omega) (show nid 0 (celS E a0 au 1)=ac from rfl)
     |some p=>
      obtain⟨r1,z1,c1,rfl,k1,k2,k3,k4,k5⟩:=Vc (show Den E σ g (.sl c 0 p.1.length (E.w a0) au) v from m2)
      exact .sl (E:=E) (b:=1) k1 k2 k3 k4 k5
   ·obtain⟨r1,z1,k1,arr,e,k2,k3,k4,k5,k6⟩:=hI.blk c _ (hc p J).1
    refine⟨r1,z1,(F1 p J).trans k1,arr,e,k2,k3,k4,λj sv hj=> ?_,k6⟩
    obtain⟨v,m1,m2⟩:=k5 j sv hj
    have hn:nid 0 sv=true:=by
     obtain⟨q,p,x,rfl,J,hq,I⟩:=Y3 hE a0 _ hj
     exact Zs (hE.encI _ _ _) I
    exact⟨v,m1,Zy hE m2 (λb p hb=>by omega) hn⟩
  ·rcases σP_cases h3 with⟨rfl,h3⟩|⟨rfl,⟨p,J⟩,h3⟩<;>rcases σP_cases h4 with⟨rfl,h4⟩|⟨rfl,⟨p',e9⟩,h4⟩
   ·rfl
   ·exact(c6 p' _ _ _ e9 h3 h4).elim
   ·exact(c6 p _ _ _ J h4 h3).elim
   ·rfl
  ·rcases σP_cases I with⟨rfl,I⟩|⟨rfl,_,I⟩
   ·exact hI.base b _ _ I
   ·exact hI.base c _ _ I
  ·rcases Zbd U with⟨rfl,rfl⟩|⟨rfl,p,J,rfl⟩
   ·have h2:o<0:=hI.fz b _ _ _ o v hb I hv
    omega
   ·rw[F1 p J] at I
    exact hI.fz c _ _ _ o v (hc p J).1 I hv
  ·rcases Zbd U with⟨rfl,rfl⟩|⟨rfl,p,J,rfl⟩
   ·exact hI.fm b _ _ _ hb I
   ·rw[F1 p J] at I
    exact hI.fm c _ _ _ (hc p J).1 I
 have d9:DenL E (σP st σ b c) g (.ptr 0 0::args) c7.toList:=by
  refine⟨by rw[<-hd.1];rfl,λj sv u R h2=> ?_⟩
  cases j with
  |zero=>
   simp at R;subst R
   have:=hd.2 0 _ u rfl h2
   cases this
   rename_i I
   exact .ptr (E:=E) (b:=0) I
  |succ j=>
   have R:args[j]? =ae sv:=by simpa using R
   exact Zy hE (hd.2 (j+1) sv u (by simpa using R) h2) (λb p hb=>by omega) (Zs ha R)
 refine(b4 B _ g W c7 _ (λ_ _=>rfl) c9 hB (λx R h2=>by match x,R with|x+2,_=>rfl) d9).mono ?_
 rintro en w' ⟨u,he,σ',g',hS,a3,c4⟩
 have b0:σ' 0=ae (rb,zb):=hS.sig 0 _ a2
 obtain⟨r1,z1,k1⟩:∃r1 z1,σ' c'=ae (r1,z1):=by
  obtain⟨r1,z1,m1,_⟩:=a3.blk c' _ a8
  exact⟨r1,z1,m1⟩
 have b8:c'≠0:=by omega
 have e6:patch (hpP E a0 st) 2 r 0≠none:=by rw[hp0];simp
 have e8:patch (hpP E a0 st) 2 r c'≠none:=by rw[a8];simp
 have b2:r1≠rb:=by
  rintro rfl
  exact b8 (a3.inj c' 0 _ _ _ e8 e6 k1 b0)
 have c2:W.heap.size<=r1\/∃z' p,st=ae p/\σ c=ae (r1,z'):=by
  cases b3:σP st σ b c c' with
  |some q=>
   have:=hS.sig c' _ b3
   rw[k1] at this;cases this
   rcases σP_cases b3 with⟨h0,_⟩|⟨_,⟨p,J⟩,h2⟩
   ·exact ka h0 b8
   ·exact .inr ⟨z1,p,J,h2⟩
  |none=>
   rcases hS.blk c' r1 z1 b3 k1 with R|⟨b',R,z',h2⟩
   ·exact .inl R
   ·rcases σP_cases h2 with⟨rfl,h3⟩|⟨_,⟨p,J⟩,h3⟩
    ·rw[a2] at h3;cases h3;exact ka rfl b2
    ·exact .inr ⟨z',p,J,h3⟩
 have c0:∀q,q<W.heap.size->q≠rb->(∀p z,st=ae p->σ c≠ae (q,z))->w'.heap[q]? =W.heap[q]? :=by
  intro q hq a9 e7
  refine hS.heap q hq λb' f5 z' f3=> ?_
  rcases σP_cases f3 with⟨rfl,h2⟩|⟨_,⟨p,J⟩,h2⟩
  ·rw[a2] at h2;cases h2;exact a9 rfl
  ·exact e7 p z' J h2
 have hi:σ i=none:=e0 i (av _) (by show i<i+1;omega)
 have a5:b≠i:=by rintro rfl;rw[a2] at hi;cases hi
 have f6:∀p,st=ae p->c≠i:=by
  rintro p J rfl
  obtain⟨r2,z2,m1,_⟩:=hI.blk c _ (hc p J).1
  rw[hi] at m1;cases m1
 have f0:∀x,patch hh i (prnR E a0 st b c i l') x=if x=b then ae (.raw [.sl i 0 l'.length (E.w a0) au] 0 au) else if x=i then ae (.rows a0 l' (fzO st)) else if x=c/\(∃p,st=ae p) then au else hh x:=by
  intro x
  rw[Zp]
  by_cases e1:x=b
  ·subst e1
   rw[jM (.inl (mdO_mem.2 (.inl rfl))),jM rfl]
   show(match aO x x with|true=>_|false=>_)=_
   rw[fP]
  ·rw[jJ e1]
   have d6:aO x b=false:=by
    cases e:aO x b with
    |true=>exact ka (ax e) e1
    |false=>rfl
   have b9:(prnR E a0 st b c i l').h x=at1 i (ae (.rows a0 l' (fzO st))) x:=by
    show(match aO x b with|true=>_|false=>_)=_
    rw[d6]
   by_cases e2:x=i
   ·subst e2
    rw[jM (.inr ⟨av _,(by show x<x+1;omega)⟩),jM rfl,b9]
    unfold at1
    rw[fP]
   ·rw[jJ e2]
    have d5:at1 i (ae (.rows a0 l' (fzO st):Blk Y)) x=none:=by
     unfold at1
     cases e:aO x i with
     |true=>exact ka (ax e) e2
     |false=>rfl
    by_cases e3:x=c/\∃p,st=ae p
    ·rw[jM e3,jM (.inl (mdO_mem.2 (.inr e3))),b9,d5]
    ·rw[jJ e3,jJ]
     rintro(k|k)
     ·rcases mdO_mem.1 k with k|k
      ·exact e1 k
      ·exact e3 k
     ·have k:i<=x/\x<i+1:=k
      omega
 have src:∀x y,patch hh i (prnR E a0 st b c i l') x=ae y->(x=b/\y= .raw [.sl i 0 l'.length (E.w a0) au] 0 au)\/(x=i/\y= .rows a0 l' (fzO st))\/(x≠i/\x≠b/\(∀p,st=ae p->x≠c)/\hh x=ae y):=by
  intro x y hy
  rw[f0] at hy
  split at hy
  ·rename_i e
   cases hy
   exact .inl ⟨e,rfl⟩
  ·rename_i e
   split at hy
   ·rename_i e2
    cases hy
    exact .inr (.inl ⟨e2,rfl⟩)
   ·rename_i e2
    split at hy
    ·cases hy
    ·rename_i e3
     exact .inr (.inr ⟨e2,e,λp J U=>e3 ⟨U,p,J⟩,hy⟩)
 have a4:(match aO i i with|true=>σ' c'|false=>σ i)=ae (r1,z1):=by rw[fP];exact k1
 have a1:∀x,x≠i->(match aO x i with|true=>σ' c'|false=>σ x)=σ x:=by
  intro x U
  cases e:aO x i with
  |true=>exact ka (ax e) U
  |false=>rfl
 have a6:∀x y q z',x≠b->(∀p,st=ae p->x≠c)->hh x=ae y->σ x=ae (q,z')->q<W.heap.size/\q≠rb/\(∀p z,st=ae p->σ c≠ae (q,z)):=by
  intro x y q z' U b5 hy I
  have c5:hh x≠none:=by rw[hy];simp
  refine⟨(hI.base x q z' I).2,?_,λp z J hq=>b5 p J (hI.inj x c _ _ _ c5 (cn p J) I hq)⟩
  rintro rfl
  exact U (hI.inj x b _ _ _ c5 b7 I a2)
 have b6:∀x y q z',x≠b->(∀p,st=ae p->x≠c)->hh x=ae y->σ x=ae (q,z')->q≠r1:=by
  rintro x y q z' U b5 hy I rfl
  obtain⟨m1,m2,m3⟩:=a6 x y q z' U b5 hy I
  rcases c2 with R|⟨z2,p,J,R⟩
  ·omega
  ·exact m3 p z2 J R
 have f4:rb<W.heap.size:=(hI.base b _ _ a2).2
 refine⟨_,he,λx=>match aO x i with|true=>σ' c'|false=>σ x,g',⟨λx p U=> ?_,λx p U=> ?_,hS.gle,λq o v hv=> ?_,hS.gmnew,λq hq a9=> ?_,hS.size,hS.os,hS.tape,hS.output,λx q z' U a7=> ?_⟩,?_,?_⟩
 ·exact(a1 x (λe=>by rw[e,hi] at U;cases U)).trans U
 ·by_cases e:x=i
  ·exact .inr (by show i<=x/\x<i+1;omega)
  ·have U:(match aO x i with|true=>σ' c'|false=>σ x)=ae p:=U
   rw[a1 x e] at U
   exact .inl U
 ·rcases hS.gcnew q o v hv with R|R|⟨b',R,z',h2⟩
  ·exact .inl R
  ·exact .inr (.inl R)
  ·rcases σP_cases h2 with⟨rfl,h2⟩|⟨_,J,h2⟩
   ·exact .inr (.inr ⟨b,mdO_mem.2 (.inl rfl),_,h2⟩)
   ·exact .inr (.inr ⟨c,mdO_mem.2 (.inr ⟨rfl,J⟩),_,h2⟩)
 ·exact c0 q hq (λe=>a9 b (mdO_mem.2 (.inl rfl)) zb (by rw[a2,e])) λp z J=>a9 c (mdO_mem.2 (.inr ⟨rfl,p,J⟩)) z
 ·have a7:(match aO x i with|true=>σ' c'|false=>σ x)=ae (q,z'):=a7
  by_cases e:x=i
  ·subst e
   rw[a4] at a7;cases a7
   rcases c2 with R|⟨z2,p,J,R⟩
   ·exact .inl R
   ·exact .inr ⟨c,mdO_mem.2 (.inr ⟨rfl,p,J⟩),z2,R⟩
  ·rw[a1 x e,U] at a7;cases a7
 ·refine⟨a3.gc,a3.gm,λx y U=> ?_,λx x' q f9 g0 R h2 h3 h4=> ?_,λx q z' I=> ?_,λx y q z' o v U I hv=> ?_,λx y q z' U I=> ?_,a3.glob⟩
  ·rcases src x y U with⟨rfl,rfl⟩|⟨rfl,rfl⟩|⟨e1,e2,e3,e4⟩
   ·refine⟨rb,zb,(a1 x a5).trans a2,?_⟩
    obtain⟨r2,z2,m1,arr,e,n1,n2,n3,n4,n5⟩:=a3.blk 0 _ hp0
    rw[b0] at m1;cases m1
    refine⟨arr,e,n1,n2,n3,λj sv hj=> ?_,jX⟩
    cases j with
    |succ j=>cases hj
    |zero=>
     have hj:ae (SV.sl i 0 l'.length (E.w a0) au:SV Y)=ae sv:=hj
     cases hj
     obtain⟨v,q1,q2⟩:=n4 0 _ (show([.sl c' 0 l'.length (E.w a0) au]:List (SV Y))[0]? =ae _ from rfl)
     refine⟨v,q1,?_⟩
     obtain⟨r3,z3,c3,rfl,u1,u2,u3,u4,u5⟩:=Vc (show Den E σ' g' (.sl c' 0 l'.length (E.w a0) au) v from q2)
     refine .sl (E:=E) (b:=i) (z:=z3) ?_ u2 u3 u4 u5
     show(match aO i i with|true=>σ' c'|false=>σ i)=_
     rw[fP]
     exact u1
   ·refine⟨r1,z1,a4,?_⟩
    obtain⟨r2,z2,m1,m2⟩:=a3.blk c' _ a8
    rw[k1] at m1;cases m1
    obtain⟨arr,e,m1,m3,m4,m5,m6⟩:=m2
    refine⟨arr,e,m1,m3,m4,λj sv hj=> ?_,m6⟩
    obtain⟨v,n1,n2⟩:=m5 j sv hj
    have hn:nid 0 sv=true:=by
     obtain⟨q,p,x,rfl,J,hq,I⟩:=Y3 hE a0 _ hj
     exact Zs (hE.encI _ _ _) I
    exact⟨v,n1,Zy hE n2 (λb p hb=>by omega) hn⟩
   ·obtain⟨q,z',m1,m2⟩:=hI.blk x y e4
    obtain⟨m3,m4,m5⟩:=a6 x y q z' e2 e3 e4 m1
    refine⟨q,z',(a1 x e1).trans m1,?_⟩
    refine m2.mono (λx p U=> ?_) hS.gle (c0 q m3 m4 m5)
    show(match aO x i with|true=>σ' c'|false=>σ x)=ae p
    rw[a1 x (λe=>by rw[e,hi] at U;cases U)]
    exact U
  ·obtain⟨y,hy⟩:=aY.1 R
   obtain⟨y',f2⟩:=aY.1 h2
   rcases src x y hy with⟨rfl,rfl⟩|⟨rfl,rfl⟩|⟨e1,e2,e3,e4⟩<;>rcases src x' y' f2 with⟨rfl,rfl⟩|⟨rfl,rfl⟩|⟨d1,d2,d3,d4⟩
   ·rfl
   ·rw[a1 x a5,a2] at h3;cases h3
    rw[a4] at h4;cases h4
    exact ka rfl b2
   ·rw[a1 x a5,a2] at h3;cases h3
    rw[a1 x' d1] at h4
    exact ka rfl (a6 x' y' _ _ d2 d3 d4 h4).2.1
   ·rw[a4] at h3;cases h3
    rw[a1 x' a5,a2] at h4;cases h4
    exact ka rfl b2
   ·rfl
   ·rw[a4] at h3;cases h3
    rw[a1 x' d1] at h4
    exact ka rfl (b6 x' y' _ _ d2 d3 d4 h4)
   ·rw[a1 x' a5,a2] at h4;cases h4
    rw[a1 x e1] at h3
    exact ka rfl (a6 x y _ _ e2 e3 e4 h3).2.1
   ·rw[a4] at h4;cases h4
    rw[a1 x e1] at h3
    exact ka rfl (b6 x y _ _ e2 e3 e4 h3)
   ·rw[a1 x e1] at h3
    rw[a1 x' d1] at h4
    exact hI.inj x x' q _ _ (by rw[e4];simp) (by rw[d4];simp) h3 h4
  ·by_cases e:x=i
   ·subst e
    rw[a4] at I;cases I
    exact a3.base c' _ _ k1
   ·rw[a1 x e] at I
    exact⟨(hI.base x q z' I).1,ck (hI.base x q z' I).2 hS.size⟩
  ·rcases src x y U with⟨rfl,rfl⟩|⟨rfl,rfl⟩|⟨e1,e2,e3,e4⟩
   ·rw[a1 x a5,a2] at I;cases I
    have h2:o<0:=a3.fz 0 _ _ _ o v hp0 b0 hv
    omega
   ·rw[a4] at I;cases I
    exact a3.fz c' _ _ _ o v a8 k1 hv
   ·rw[a1 x e1] at I
    obtain⟨m3,m4,m5⟩:=a6 x y q z' e2 e3 e4 I
    rcases hS.gcnew q o v hv with R|R|⟨b',R,z2,h2⟩
    ·exact hI.fz x y q z' o v e4 I R
    ·omega
    ·rcases σP_cases h2 with⟨rfl,h3⟩|⟨_,⟨p,J⟩,h3⟩
     ·rw[a2] at h3;cases h3;exact ka rfl m4
     ·exact ka h3 (m5 p z2 J)
  ·rcases src x y U with⟨rfl,rfl⟩|⟨rfl,rfl⟩|⟨e1,e2,e3,e4⟩
   ·rw[a1 x a5,a2] at I;cases I
    exact a3.fm 0 _ _ _ hp0 b0
   ·rw[a4] at I;cases I
    exact a3.fm c' _ _ _ a8 k1
   ·rw[a1 x e1] at I
    obtain⟨m3,m4,m5⟩:=a6 x y q z' e2 e3 e4 I
    cases e5:g'.obj q with
    |none=>rfl
    |some es=>
     rcases hS.gmnew q es e5 with k|k
     ·rw[hI.fm x y q z' e4 I] at k;cases k
     ·omega
 ·rw[hv] at c4
  exact Zy hE c4 (λb p hb=>by omega) (show nid 0 (SV.tup ([]:List (SV Y)))=ac from rfl)
def sumB(E:Eng Y) (th:Y.Th) {α:Type} (d:DcL E α) (pre:List (Y.dom th)->α->Prop) (f:List (Y.dom th)->α->List (Y.dom th)):Sum Y:=λargs h i k=>
 match args with
 | .ptr b 0::rest=>
  (match h b,d.dec rest with
  |some (.raw [.sl c 0 len w au] 0 _),ae x=>
   (match h c,aO w (E.w th)&& !(aO b c) with
   |some (.rows J l fz),ac=>U6 l λl=>(len=l.length/\fz<=l.length/\pre l x)/\∀I,I=f l x->k (prnR E th (ae (l,fz)) b c i I)
   |_,_=>False)
  |some (.raw [.val (.slice au 0 0)] 0 _),ae x=>pre [] x/\∀I,I=f [] x->k (prnR E th au b 0 i I)
  |_,_=>False)
 |_=>False
def Ygi(E:Eng Y) (f:Nat) (th:Y.Th) (args:List (SV Y)) (F:List (Y.dom th)->List (Y.dom th)) (P:List (Y.dom th)->Prop):Prop:=
 (∀l fz,fz<=l.length->P l->PrnC E f th args (ae (l,fz)) (F l))/\(P []->PrnC E f th args au (F []))
theorem PrnC.of_dec{α:Type} {d:DcL E α} {f:Nat} {th:Y.Th} {args:List (SV Y)} {x:α} {U:Option (List (Y.dom th)×Nat)} {l':List (Y.dom th)} (hd:d.dec args=ae x) (h:PrnC E f th (d.enc x) U l'):PrnC E f th args U l':=by
 obtain⟨k1,k2,k3⟩:=d.ok _ _ hd;intro b c hp i tg h1 h2 B σ g w a3 hh a2 hI hB a1 I;refine h b c hp i tg h1 h2 B σ g w a3 hh a2 hI hB a1 ⟨?_,λj a0 u J R=> ?_⟩
 ·rw[<-I.1,aE,aE,k2]
 ·cases j with
  |zero=>exact I.2 0 a0 u J R
  |succ j=>
   obtain⟨sv,h7,h8⟩:=k3 σ g j a0 (by simpa using J);exact h8 u (I.2 (j+1) sv u (by simpa using h7) R)
theorem Zfv(hE:EngOk E) {th:Y.Th} {α:Type} {f:Nat} (hg:FnGood E.P f) {d:DcL E α} {pre:List (Y.dom th)->α->Prop} {F:List (Y.dom th)->α->List (Y.dom th)} (J:∀x,Ygi E f th (d.enc x) (λl=>F l x) (λl=>pre l x)):SumOk E f (sumB E th d pre F):=by
 refine⟨hg,λargs h i k hD I=> ?_⟩;unfold sumB at I;split at I
 case h_2=>exact I.elim
 rename_i b rest;split at I
 case h_3=>exact I.elim
 ·rename_i c len w tg x U hx
  split at I
  case h_2=>exact I.elim
  rename_i a6 l fz hc R;rw[aq,Bool.not_eq_true'] at R;obtain⟨R,a1⟩:=R;have R:=ax R;have a1:=nb a1;obtain⟨e,a5⟩:=Y6 I;clear I;subst e;subst R;obtain⟨⟨rfl,a4,a3⟩,a2⟩:=a5;refine⟨_,a2 _ rfl,λb' a0=> ?_,.inl (PrnC.of_dec hx ((J x).1 l fz a4 a3) b c h i tg U λp J=> ?_)⟩
  ·rcases mdO_mem.1 (show b'∈mdO (ae (l,fz)) b c from a0) with rfl|⟨rfl,_⟩
   ·rw[U];simp
   ·rw[hc];simp
  ·cases J
   exact⟨hc,a1⟩
 ·rename_i tg x U hx
  obtain⟨a3,a2⟩:=I;refine⟨_,a2 _ rfl,λb' a0=> ?_,.inl (PrnC.of_dec hx ((J x).2 a3) b 0 h i tg U λp J=>by cases J)⟩;rcases mdO_mem.1 (show b'∈mdO (au:Option (List (Y.dom th)×Nat)) b 0 from a0) with rfl|⟨_,_,h2⟩
  ·rw[U];simp
  ·cases h2
end
end
section
open Go
theorem Z5h{F:Fns thy} (J:FnsOk E F) {n:Nat} {f:Nat} {th:Th} {args:List (SV thy)} {I:Option (List (thy.dom th)×Nat)} {l':List (thy.dom th)} (R:nidL 0 args=ac) (U:Zk E F (vc E F n) f (.ptr 0 0::args) (hpP E th I) 2 (prnK E th I l')):PrnC E f th args I l':=
 X4 E_ok (Zd E_ok J n) R U
def Aixi:Fr thy->Hp thy->Nat->Ann thy:=λT h i=>{X:=LX,fr:=λx=> [(0,T 0),(1,T 1),(7,T 7),(8,.int ab .i64 x.k)],bl:=λx=> [],src:=λ_=> [],md:= [],ih:=i,M:=i+30,meas:=λx=>x.r}
noncomputable def Fixi:Fns thy:=addL F0 143 2 Aixi E
theorem Ya5(l:List Int) (s:Int) (v:Int):Zk E Fixi (vc E Fixi 400) 143 [.psl kB l ab,.int ab .i64 s] hp0 0 (λr=>ret E (patch hp0 0 r) r.v (.int ab .i64 v))=(
∃(R:LX->Prop),(∃(x:LX),R x/\ac=ac/\((l=l/\(ab=ac->ab=ac))/\s=s/\(↑(aa l):Int)=(↑(aa l):Int)/\0=(↑(LX.k x):Int)/\True)/\True)/\∀(x:LX),R x->(decide ((↑(LX.k x):Int)<(↑(aa l):Int))=ac->0<=(↑(LX.k x):Int)/\(↑(LX.k x):Int)+1<=(↑(aa l):Int)/\∀(I:Int),l[af (↑(LX.k x):Int)]? =ae I->((s==I)=ac->(↑(LX.k x):Int)=v)/\((s==I)=ab->∃(J:LX),R J/\J.2+1<=x.2/\ac=ac/\((l=l/\(ab=ac->ab=ac))/\s=s/\(↑(aa l):Int)=(↑(aa l):Int)/\wr ag ((↑(LX.k x):Int)+1)=(↑(LX.k J):Int)/\True)/\True))/\(decide ((↑(LX.k x):Int)<(↑(aa l):Int))=ab->(-1:Int)=v)):=by kernel_rfl
noncomputable def dIs:Dc E (List Int):=(Zfr (E:=E) kB:Dc E (List (thy.dom kB)))
noncomputable def Sixi:Sum thy:=Zq4 E (λ_=>au) 2 (Ws (dA2 dIs dN) (λx=>x.1.length<=1000000000) (λx=>idxI x.2.1 0 x.1) λy=> .int ab .i64 y)
noncomputable def Yl8:Sum thy:=Ws (dA1 dN) (λx=>0<=x.1/\x.1<10000000000000) (λx=>decN x.1) λy=> .str ab y
noncomputable def Fpu:Fns thy:=addS (addS (addS F0 36 Zm6) 143 Sixi) 115 Yl8
abbrev qCK4:=(0:Int)
abbrev qCK6:=(↑(4:Nat):Int)
abbrev qCK3:=(af qCK6-af qCK4)
abbrev qCK1(I:Int) (J:Int) (R:Int) (d0:Int):=(aw qCK3 (cx (af qCK4) [I,J,R,d0]))
abbrev qCK2:=((4:Nat)=(4:Nat)/\qCK4<=qCK4/\qCK4<=qCK6/\qCK6<=qCK6/\(qCK4+(1:Int)<=qCK6\/qCK4=qCK4))
abbrev qCK5:=(↑(aa (dL eR)):Int)
theorem Zz3(l:List (List Nat)) (fz:Nat) (a b c d:Int) (I:List (List Nat)):Zk E Fpu (vc E Fpu 400) 117 [.ptr 0 0,dimA a b c d] (hpP E du (ae (l,fz))) 2 (prnK E du (ae (l,fz)) I)=(
 qCK2/\af qCK4+qCK3<=4/\aa (qCK1 a b c d)<=1000000000/\∀(y:Int),y=idxI 1 0 (qCK1 a b c d)->(decide (y>=qCK4)=ac->qCK4<=y/\y+1<=qCK5/\∀(x:List Nat),(dL eR)[af y]? =ae x->(aa l<=aa l/\fz<=aa l/\(aa l+1)*16<=140737488355328)/\qCK2/\af qCK4+qCK3<=4/\aa (qCK1 a b c d)<=1000000000/\∀(y:Int),y=idxI (-1:Int) 0 (qCK1 a b c d)->(decide (y>=qCK4)=ac->qCK4<=y/\y+1<=qCK5/\∀(J:List Nat),(dL eR)[af y]? =ae J->(aa l+1<=aa (aw (aa l) l++ [x])/\fz<=aa l+1/\(aa l+1+2)*16<=140737488355328)/\aw (aa l+1) (aw (aa l) l++ [x])++ [[112,101,114],J]=I/\aa l+1+2=aa I/\fz=fzO (ae (l,fz)))/\(decide (y>=qCK4)=ab->aw (aa l) l++ [x]=I/\aa l+1=aa I/\fz=fzO (ae (l,fz))))/\(decide (y>=qCK4)=ab->qCK2/\af qCK4+qCK3<=4/\aa (qCK1 a b c d)<=1000000000/\∀(y:Int),y=idxI (-1:Int) 0 (qCK1 a b c d)->(decide (y>=qCK4)=ac->qCK4<=y/\y+1<=qCK5/\∀(x:List Nat),(dL eR)[af y]? =ae x->(aa l<=aa l/\fz<=aa l/\(aa l+2)*16<=140737488355328)/\aw (aa l) l++ [[112,101,114],x]=I/\aa l+2=aa I/\fz=fzO (ae (l,fz)))/\(decide (y>=qCK4)=ab->l=I/\aa l=aa I/\fz=fzO (ae (l,fz))))):=by kernel_rfl
theorem Z5i{v:Int} {l:List Int}:∀{k:Nat} {x:Int},l[k]? =ae x->idxI v k (l.drop k)=if v=x then(k:Int) else idxI v (k+1) (l.drop (k+1)):=by
 intro k x h;rw[Z4 h];rfl
theorem Ya6(l:List Int) (s:Int) (hl:l.length<=1000000000):PureC E 143 [.psl kB l ab,.int ab .i64 s] (.int ab .i64 (idxI s 0 l)):=by
 have R:FnsOk E Fixi:=Zm E_ok F0_ok _ _ _;refine Za E_ok (Zd E_ok R 400) ?_;rw[Ya5];simp only[and_true,true_and,fO,fG,ij,fV,ku];refine⟨λx=>x.k<=l.length/\idxI s x.k (l.drop x.k)=idxI s 0 l/\x.r=l.length-x.k,⟨⟨0,l.length,[],0⟩,⟨(by dsimp only;omega),rfl,rfl⟩,rfl⟩,?_⟩;rintro x ⟨hk,I,hr⟩;refine aC (λU=>⟨by omega,by omega,λy J=> ?_⟩) (λU=> ?_)
 ·have J:l[x.k]? =ae y:=J
  rw[Z5i J] at I;refine⟨λe=> ?_,λe=> ?_⟩
  ·rw[jM e] at I;exact I
  ·rw[jJ e] at I
   exact⟨⟨x.k+1,l.length-(x.k+1),[],0⟩,⟨(by dsimp only;omega),I,rfl⟩,by show l.length-(x.k+1)+1<=x.r;omega,wr64 (by omega) (by omega)⟩
 ·rw[bL (by omega)] at I
  exact I
theorem Yh6:SumOk E 143 Sixi:=Zjv E_ok (Z1 E_ok (Zc rfl) λx h=>Ya6 x.1 x.2.1 h)
theorem Ya7:SumOk E 115 Yl8:=Z1 E_ok (Zc rfl) λx h=>by
 have:=Z3r x.1.toNat (by omega);rw[show((x.1.toNat:Nat):Int)=x.1 by omega] at this;exact this
theorem Zws:FnsOk E Fpu:=Zb (Zb (Zb F0_ok Zfz) Yh6) Ya7
theorem Ztv:∀{v:Int} {l:List Int} {k:Nat},idxI v k l<k+l.length
 |v,[],k=>by unfold idxI;simp;omega
 |v,x::l,k=>by
  unfold idxI
  split
  ·simp;omega
  ·have:=Ztv (v:=v) (l:=l) (k:=k+1)
   simp at this⊢;omega
theorem Zwt{y:Int} (J:0<=y) {x:List Nat} (I:(dL eR)[af y]? =ae x):eR.words.getD y.toNat []=x:=by
 simp[ah,I]
theorem Ya8(l:List (List Nat)) (fz:Nat) (a b c d:Int) (hf:fz<=l.length) (hl:l.length+8<=1000000000):PrnC E 117 du [dimA a b c d] (ae (l,fz)) (l++txU [a,b,c,d]):=by
 refine Z5h Zws (n:=400) rfl ?_;rw[Zz3];delta qCK4 qCK6 qCK3 qCK1 qCK2 qCK5;have i1:=Ztv (v:=1) (l:= [a,b,c,d]) (k:=0);have i2:=Ztv (v:= -1) (l:= [a,b,c,d]) (k:=0);have U:(dL eR).length=4:=rfl;have l4:(aa [a,b,c,d]:Int)=4:=rfl;have e:aw (af (↑(4:Nat):Int)-af (0:Int)) (cx (af (0:Int)) [a,b,c,d])= [a,b,c,d]:=rfl;rw[e];clear e;refine⟨by decide,by decide,by show 4<=1000000000;decide,λy R=>⟨λh=> ?_,λh=> ?_⟩⟩
 ·have h:0<=y:=by simpa using h
  rw[<-R] at i1;refine⟨h,by rw[U];omega,λx hx=>⟨⟨av _,hf,by omega⟩,by decide,by decide,by show 4<=1000000000;decide,λz J=>⟨λI=> ?_,λI=> ?_⟩⟩⟩
  ·have I:0<=z:=by simpa using I
   rw[<-J] at i2;refine⟨I,by rw[U];omega,λx2 a0=>⟨⟨by simp,by omega,by omega⟩,?_⟩⟩;have:txU [a,b,c,d]= [x,sPer,x2]:=by
    unfold txU;rw[<-R,<-J,jM h,jM I,Zwt h hx,Zwt I a0];rfl
   rw[this,aV];have e2:aw (l.length+1) (l++ [x])=l++ [x]:=bh (by simp);rw[e2];simp[sPer,fzO]
  ·have I:¬0<=z:=by simpa using I
   have:txU [a,b,c,d]= [x]:=by
    unfold txU;rw[<-R,<-J,jM h,jJ I,Zwt h hx];rfl
   rw[this];simp[fzO]
 ·have h:¬0<=y:=by simpa using h
  refine⟨by decide,by decide,by show 4<=1000000000;decide,λz J=>⟨λI=> ?_,λI=> ?_⟩⟩
  ·have I:0<=z:=by simpa using I
   rw[<-J] at i2;refine⟨I,by rw[U];omega,λx2 a0=>⟨⟨av _,hf,by omega⟩,?_⟩⟩;have:txU [a,b,c,d]= [sPer,x2]:=by
    unfold txU;rw[<-R,<-J,jJ h,jM I,Zwt I a0];rfl
   rw[this];simp[sPer,fzO]
  ·have I:¬0<=z:=by simpa using I
   have:txU [a,b,c,d]= []:=by
    unfold txU;rw[<-R,<-J,jJ h,jJ I];rfl
   rw[this];simp[fzO]
noncomputable def Sunp:Sum thy:=sumB E du dDim (λl x=>1<=l.length/\l.length+8<=1000000000) λ(l:List (List Nat)) x=>l++txU [x.1.getD 0 0,x.1.getD 1 0,x.1.getD 2 0,x.1.getD 3 0]
theorem Yh7:SumOk E 117 Sunp:=Zfv E_ok (Zc rfl) λx=>⟨λl fz I h=>Ya8 l fz _ _ _ _ I h.2,λh=>ka h.1 (by decide)⟩
noncomputable def Sxp(m:Nat):Sum thy:=sumB E du dExp (λl x=>x.1.sz<m/\Zn x.1=ac/\1<=l.length/\l.length+8*x.1.sz+8<=1000000000) λ(l:List (List Nat)) x=>l++txX x.1
theorem Ztw(n:Int) (v:Int):Zk E F0 (vc E F0 400) 119 [.int ab .i64 n] hp0 0 (λr=>ret E (patch hp0 0 r) r.v (.int ab .i64 v))=(
((n==3)=ac->1=v)/\((n==3)=ab->((n==4)=ac->1=v)/\((n==4)=ab->((n==5)=ac->2=v)/\((n==5)=ab->3=v)))):=by kernel_rfl
noncomputable def Z5j:Sum thy:=Ws (dA1 dN) (λ_=>True) (λx=>tightF x.1) λy=> .int ab .i64 y
noncomputable def Fop'(m:Nat):Fns thy:=addS (addS F0 119 Z5j) 71 (Sxp m)
abbrev qCK7(I:Ex):=(bV (aM I) (bX I) (bD I) (bE I) (bF I) (bG I) (bw I))
abbrev qCK8(I:List (List Nat)):=(aw (aa I) I++ [[(40:Nat)]])
theorem Zz4(m:Nat) (l:List (List Nat)) (fz:Nat) (x:Ex) (n:Int) (J:List (List Nat)):Zk E (Fop' m) (vc E (Fop' m) 400) 118 [.ptr 0 0,exA x,.int ab .i64 n] (hpP E du (ae (l,fz))) 2 (prnK E du (ae (l,fz)) J)=(
 True/\∀(y:Int),y=tightF (aM x)->(decide (y>=n)=ac->(aa l=aa l/\fz<=aa l/\cW (qCK7 x)+1<=m/\Zn (qCK7 x)=ac/\1<=aa l/\aa l+8*cW (qCK7 x)+8<=1000000000)/\∀(I:List (List Nat)),I=l++txX (qCK7 x)->I=J/\aa I=aa J/\fzO (ae (l,fz))=fzO (ae (l,fz)))/\(decide (y>=n)=ab->(aa l<=aa l/\fz<=aa l/\(aa l+1)*16<=140737488355328)/\(aa l+1=aa (qCK8 l)/\fz<=aa (qCK8 l)/\cW (qCK7 x)+1<=m/\Zn (qCK7 x)=ac/\1<=aa (qCK8 l)/\aa (qCK8 l)+8*cW (qCK7 x)+8<=1000000000)/\∀(I:List (List Nat)),I=aw (aa l) l++ [[40]]++txX (qCK7 x)->(aa I<=aa I/\fzO (ae (aw (aa l) l++ [[40]],fz))<=aa I/\(aa I+1)*16<=140737488355328)/\aw (aa I) I++ [[41]]=J/\aa I+1=aa J/\fzO (ae (aw (aa l) l++ [[40]],fz))=fzO (ae (l,fz)))):=by kernel_rfl
noncomputable def Yl9(m:Nat):Sum thy:=sumB E du You (λl x=>x.1.sz<m/\Zn x.1=ac/\1<=l.length/\l.length+8*x.1.sz+10<=1000000000) λ(l:List (List Nat)) x=>l++par x.1.op x.2.1 (txX x.1)
noncomputable def Fxp'(m:Nat):Fns thy:=addS (addS (addS (addS Fpu 117 Sunp) 119 Z5j) 71 (Sxp m)) 118 (Yl9 m)
theorem Zz5(n:Int):PureC E 119 [.int ab .i64 n] (.int ab .i64 (tightF n)):=by
 refine Za E_ok (Zd E_ok F0_ok 400) ?_;rw[Ztw];unfold tightF;refine⟨λh=> ?_,λh=>⟨λI=> ?_,λI=>⟨λJ=> ?_,λJ=> ?_⟩⟩⟩
 all_goals simp at*
 all_goals simp[*]
theorem Zqi:SumOk E 119 Z5j:=Z1 E_ok (Zc rfl) λx _=>Zz5 x.1
def PxOk(m:Nat):Prop:=∀x:Ex,x.sz<m->Zn x=ac->∀(l:List (List Nat)) (fz:Nat),fz<=l.length->1<=l.length->l.length+8*x.sz+8<=1000000000->PrnC E 71 du [exA x] (ae (l,fz)) (l++txX x)
theorem Z5k{m:Nat} (h:PxOk m):SumOk E 71 (Sxp m):=Zfv E_ok (Zc rfl) λx=>⟨λl fz J I=>h x.1 I.1 I.2.1 l fz J I.2.2.1 I.2.2.2,λI=>ka I.2.2.1 (by decide)⟩
theorem Yh8{m:Nat} (h:PxOk m):FnsOk E (Fop' m):=Zb (Zb F0_ok Zqi) (Z5k h)
mutual
theorem Xw:∀(x:Ex),(txX x).length+2<=8*x.sz
 | .mk op n a b c d l=>by
  have h:=Z5l l
  have R:∀I:List (List Nat),(txS (txL l) I).length+0<=8*kW l:=λI=>Z5m (txL l) I (8*kW l) h
  have hU:(txU [a,b,c,d]).length<=3:=by
   unfold txU
   rw[az]
   split<;>split<;>simp
  have J:∀op least t,(par op least t).length<=t.length+2:=by
   intro op least t
   unfold par
   split
   ·omega
   ·simp
  have h2:=Ya9 (txL l) _ h
  rw[txX,cW]
  unfold txN
  split
  ·rw[aE];omega
  ·split
   ·simp;omega
   ·split
    ·have:=R [Ze3,Yh,Yh,Ye]
     rw[aE,aE]
     omega
    ·split
     ·rw[az,aE]
      have U:=J ((l.map aM).getD 0 0) (tightF op) ((txL l).getD 0 [])
      have a2:=J ((l.map aM).getD 1 0) (tightF op+1) ((txL l).getD 1 [])
      omega
     ·have:=R [Yh,Ye]
      rw[aE,aE]
      omega
theorem Z5l:∀(l:List Ex),((txL l).map λt=>t.length+2).sum<=8*kW l
 | []=>by simp[txL]
 |x::r=>by
  have I:=Xw x
  have J:=Z5l r
  rw[txL,kW,bQ,kI]
  omega
theorem Z5m:∀(ts:List (List (List Nat))) (I:List (List Nat)) (b:Nat),(ts.map λt=>t.length+2).sum<=b->(txS ts I).length+0<=b
 | [],_,_,h=>by simp[txS]
 |t::r,[],_,h=>by simp[txS]
 |t::r,s::I,b,h=>by
  rw[bQ,kI] at h
  have:=Z5m r I (b-(t.length+2)) (by omega)
  rw[txS,az,aE]
  omega
theorem Ya9:∀(ts:List (List (List Nat))) (b:Nat),(ts.map λt=>t.length+2).sum<=b->(ts.getD 0 []).length+(ts.getD 1 []).length<=b
 | [],_,_=>by simp
 | [t],_,h=>by simp at h⊢;omega
 |t::u::r,_,h=>by simp at h⊢;omega
end
theorem Yba{m:Nat} (hm:PxOk m) (l:List (List Nat)) (fz:Nat) (x:Ex) (n:Int) (J:x.sz<m) (R:Zn x=ac) (I:fz<=l.length) (U:1<=l.length) (hl:l.length+8*x.sz+10<=1000000000):PrnC E 118 du [exA x,.int ab .i64 n] (ae (l,fz)) (l++par x.op n (txX x)):=by
 refine Z5h (Yh8 hm) (n:=400) rfl ?_;rw[Zz4];delta qCK7 qCK8;have ht:=Xw x;simp only[fzO,aV,gF,kz,fO,fG,true_and,and_true];refine⟨λh=>⟨⟨I,J,R,U,by omega⟩,?_⟩,λh=>⟨⟨av _,I,by omega⟩,⟨by simp,by simp;omega,J,R,by simp,by simp;omega⟩,⟨av _,by simp;omega,by simp;omega⟩,?_⟩⟩
 ·have:par x.op n (txX x)=txX x:=by unfold par;rw[jM h]
  rw[this];exact⟨rfl,rfl⟩
 ·have:par x.op n (txX x)=X7::(txX x++ [Ye]):=by unfold par;rw[jJ h]
  rw[this];simp[X7,Ye];omega
theorem Ybb{m:Nat} (h:PxOk m):SumOk E 118 (Yl9 m):=Zfv E_ok (Zc rfl) λx=>⟨λl fz J I=>Yba h l fz x.1 x.2.1 I.1 I.2.1 J I.2.2.1 I.2.2.2,λI=>ka I.2.2.1 (by decide)⟩
theorem Yh9{m:Nat} (h:PxOk m):FnsOk E (Fxp' m):=Zb (Zb (Zb (Zb Zws Yh7) Zqi) (Z5k h)) (Ybb h)
end
section
open Go
def dD(u:Nat):List Nat:=(fa u).map db
theorem Zed{u:Nat} (h:u<10):dD u= [48+u]:=by
 unfold dD;rw[fa,dif_pos h];have:(gq (48+u)).toNat=48+u:=by
  rw[ib];omega
 simp only[bQ,dM,this]
theorem Zpa{u:Nat} (h:¬u<10):dD u=dD (u/10)++ [48+u%10]:=by
 unfold dD;rw[fa,dif_neg h];have:(gq (48+u%10)).toNat=48+u%10:=by
  rw[ib];omega
 rw[eC];simp only[bQ,dM,this]
theorem Z2r{n:Int} (h:0<=n):decN n=dD n.toNat:=by
 unfold decN dD gW;rw[jJ (by omega)]
theorem Zvr:∀{a b:List Nat} {n m:Int},numL n a=(m,0)->numL n (a++b)=numL m b
 | [],b,n,m,h=>by
  unfold numL at h
  cases h
  rfl
 |c::r,b,n,m,h=>by
  unfold numL at h
  rw[cd]
  unfold numL
  split at h
  ·cases h
  ·rename_i I
   rw[jJ I,Zvr h]
   cases b<;>rfl
theorem Z86(u:Nat):dD u≠ []:=by
 by_cases h:u<10
 ·rw[Zed h];simp
 ·rw[Zpa h];simp
theorem Yk1:∀(u:Nat),u<=1099511627776->numL 0 (dD u)=((u:Int),0):=by
 intro u
 induction u using iM with
 |_ u I=>
  intro J;by_cases h:u<10
  ·rw[Zed h]
   unfold numL;rw[jJ (by omega)];unfold numL
   congr 1
   omega
  ·rw[Zpa h,Zvr (I (u/10) (by omega) (by omega))]
   unfold numL;rw[jJ (by omega)];unfold numL
   congr 1
   omega
theorem Yk2:∀(u:Nat),∀c∈dD u,isD (c:Int)=true:=by
 intro u
 induction u using iM with
 |_ u J=>
  have one:∀k:Nat,k<10->isD ((48+k:Nat):Int)=true:=by
   intro k R;unfold isD;simp;omega
  by_cases h:u<10
  ·rw[Zed h]
   intro c I;rw[ct] at I;subst I;exact one u h
  ·rw[Zpa h]
   intro c I;rcases cf.1 I with I|I
   ·exact J (u/10) (by omega) c I
   ·rw[ct] at I
    subst I;exact one _ (by omega)
theorem Yfn:∀(u:Nat),1<(dD u).length->(dD u).head?≠ae 48:=by
 intro u
 induction u using iM with
 |_ u R=>
  by_cases h:u<10
  ·rw[Zed h]
   intro J;simp at J
  ·rw[Zpa h]
   intro _;have e:(dD (u/10)++ [48+u%10]).head? =(dD (u/10)).head? :=by
    cases hd:dD (u/10) with
    |nil=>exact ka hd (Z86 _)
    |cons x r=>rfl
   rw[e];by_cases I:u/10<10
   ·rw[Zed I]
    intro k;injection k with k
    omega
   ·refine R (u/10) (by omega) ?_
    rw[Zpa I,az];have:=Z86 (u/10/10);cases hd:dD (u/10/10) with
    |nil=>exact ka hd this
    |cons x r=>simp
theorem Zsi{n:Int} (J:0<=n) (h1:n<=1099511627776):tokP (decN n)=(⟨2,decN n,n,0⟩,0):=by
 rw[Z2r J];have a0:=Z86 n.toNat;have hd:=Yk2 n.toNat;have hn:=Yk1 n.toNat (by omega);have U:=Yfn n.toNat;have R:((n.toNat:Nat):Int)=n:=by omega
 generalize dD n.toNat=w at*;cases w with
 |nil=>exact ka rfl a0
 |cons c r=>
  rw[Xa];have I:=hd c (by simp);have hl:isL (c:Int)=false:=by
   unfold isD at I;unfold isL;simp at I⊢;omega
  rw[jJ (by rw[hl];decide),jM I,Vz hd,aV];have:numb (c::r)=(n,0):=by
   unfold numb;rw[jJ (λk=>U k.1 k.2),hn,R]
  rw[this]
theorem Zg6{n:Int} (I:0<=n) (J:n<=1099511627776):TokW (decN n):=by
 refine⟨by rw[Zsi I J],by rw[Zsi I J],?_⟩;rw[Z2r I];exact Z86 _
theorem Z2s{n:Int} (I:0<=n) (J:n<=1099511627776):tkS (decN n)=⟨2,decN n,n,0⟩:=by
 unfold tkS;rw[Zsi I J];rfl
theorem Yoj{c:Nat} (h:wb c=ac):isLD (c:Int)=true:=by
 unfold wb at h;unfold isLD isL isD;simp at h⊢;omega
theorem Zmm{s:List Nat} (h:V5 s=ac):tokP s=(⟨1,s,0,0⟩,0):=by
 unfold V5 at h;rw[aq,aq,fO] at h;obtain⟨⟨U,I⟩,R⟩:=h;cases s with
 |nil=>cases I
 |cons c r=>
  have J:isL (c:Int)=true:=by
   unfold lowF at I;unfold isL;simp at I⊢;omega
  rw[Xa,jM J,Vz λc J=>Yoj (fL.1 R c J),jJ (by omega),aV]
theorem Zia{s:List Nat} (h:V5 s=ac):TokW s:=by
 refine⟨by rw[Zmm h],by rw[Zmm h],?_⟩;rintro rfl;simp[V5,lowF] at h
theorem Zmn{s:List Nat} (h:V5 s=ac):tkS s=⟨1,s,0,0⟩:=by
 unfold tkS;rw[Zmm h];rfl
theorem Z87:∀k:WK,∀w∈k.words,V5 w=true:=by
 intro k;cases k<;>decide
theorem Zvs{k:WK} {i:Nat} (h:i<k.words.length):k.words.getD i []∈k.words:=by
 have:k.words.getD i []=k.words[i]:=by simp[ah,h]
 rw[this];exact iJ h
theorem Zmo{k:WK} {i:Nat} (h:i<k.words.length):V5 (k.words.getD i [])=true:=Z87 k _ (Zvs h)
theorem Yfo{k:WK} {i:Nat} (h:i<k.words.length):tkS (k.words.getD i [])=⟨1,k.words.getD i [],0,0⟩:=Zmn (Zmo h)
theorem Yk3:∀k:WK,∀i,i<k.words.length->idxS (k.words.getD i []) 0 k.words=i:=by
 intro k;cases k<;>decide
theorem Zgf{k:WK} {i:Nat} (h:i<k.words.length) (r:List Tok):chz k.words (tkS (k.words.getD i [])::r)=i:=by
 rw[Yfo h];show(if(1:Int)=1 then idxS (k.words.getD i []) 0 k.words else-1)=i;rw[jM rfl,Yk3 k i h]
def Fl0(r:List Tok):Prop:=¬0<=chz eR.words r/\isW sPer r=ab
end
section
open Go
theorem Zf3{o:List Tok->Int×List Tok} {pf:PE} (J:∀l,(o l).2.length<=l.length) (R:Shr pf):∀(k I:Nat) (x:Ex) (op:Int) (l:List Tok) (e:Int),l.length<k->l.length<I->Xq o pf k x op l e=Xq o pf I x op l e
 |0,_,_,_,_,_,h,_=>by omega
 |_+1,0,_,_,_,_,_,h=>by omega
 |k+1,I+1,x,op,l,e,h,h'=>by
  unfold Xq
  split
  ·rfl
  ·cases U:pf l e with
   |error er=>rfl
   |ok y=>
    have h1:=R _ _ _ _ U
    have h2:=J y.2.1
    exact Zf3 J R k I _ _ _ _ (by omega) (by omega)
def pRx(o:List Tok->Int×List Tok) (pf:PE) (x:Ex) (op:Int) (l:List Tok) (e:Int):PR Ex:=Xq o pf (l.length+1) x op l e
theorem Yd9{o:List Tok->Int×List Tok} {pf:PE} (J:∀l,(o l).2.length<=l.length) (R:Shr pf) (x:Ex) (op:Int) (l:List Tok) (e:Int):
 pRx o pf x op l e=if op=0 then .ok (x,l,e,()) else match pf l e with
  | .error I=> .error I
  | .ok (y,z)=>pRx o pf (.mk op 0 0 0 0 0 [x,y]) (o z.1).1 (o z.1).2 z.2.1:=by
 unfold pRx
 rw[Xq]
 split
 ·rfl
 ·cases U:pf l e with
  |error I=>rfl
  |ok y=>
   have h1:=R _ _ _ _ U
   have h2:=J y.2.1
   exact Zf3 J R _ _ _ _ _ _ (by omega) (by omega)
theorem Zwu(l:List Tok):(op1 l).2.length<=l.length:=Zs0 l
theorem Zwv(l:List Tok):(op2 l).2.length<=l.length:=Zs1 l
def Agr(n:Nat) (p q:PE):Prop:=∀l e,l.length<n->p l e=q l e
theorem Zww{n:Nat} {p q:PE} (J:Shr p) (h:Agr n p q):∀(R:List (List Nat)) (I:List Ex) (l:List Tok) (e:Int),l.length<n->pOpL p R I l e=pOpL q R I l e
 | [],_,_,_,_=>rfl
 |s::r,I,l,e,U=>by
  unfold pOpL
  rw[<-h l e U]
  cases hq:p l e with
  |error er=>rfl
  |ok y=>
   have h1:=J _ _ _ _ hq
   dsimp only
   split
   ·refine Zww J h r _ _ _ ?_
    rw[dP]
    omega
   ·rfl
theorem Zwx{n:Nat} {p q:PE} (J:Shr p) (h:Agr n p q) (op:Int) (I:List (List Nat)) (l:List Tok) (e:Int) (U:l.length<n+1):pOps p op I l e=pOps q op I l e:=by
 unfold pOps;split
 ·rename_i R
  have:=Zw R;rw[Zww J h I [] l.tail e (by omega)]
 ·rfl
theorem Zqn{n:Nat} {p q:PE} (J:Shr p) (h:Agr n p q) (l:List Tok) (e:Int) (hl:l.length<n+1):Zbm p l e=Zbm q l e:=by
 unfold Zbm;split
 ·rename_i I
  have:=Zw I;rw[h l.tail e (by omega)]
 ·split
  ·rename_i I
   have:=Zw I;rw[Zwx J h _ _ l.tail e (by omega)]
  ·cases R:Z2 gJ.words l e with
   |error er=>rfl
   |ok y=>
    obtain⟨y0,U⟩:=y;have:U.1.length<=l.length:=by
     rcases X3 R with⟨_,_,rfl⟩|⟨_,_,rfl⟩
     ·show l.tail.length<=l.length
      rw[dP];omega
     ·exact av _
    dsimp only;split
    ·exact Zwx J h _ _ _ _ (by omega)
    ·rfl
theorem Zwy{n:Nat} {p q:PE} (J:Shr p) (h:Agr n p q):Agr (n+1) (pFac p) (pFac q):=by
 intro l e I;unfold pFac;split
 ·exact Zqn J h _ _ I
 ·split
  ·rfl
  ·exact Zqn J h _ _ I
theorem Zqo{n:Nat} {o:List Tok->Int×List Tok} (I:∀l,(o l).2.length<=l.length) {p q:PE} (J:Shr p) (h:Agr n p q):∀(k:Nat) (x:Ex) (op:Int) (l:List Tok) (e:Int),l.length<n->Xq o p k x op l e=Xq o q k x op l e
 |0,_,_,_,_,_=>rfl
 |k+1,x,op,l,e,R=>by
  unfold Xq
  split
  ·rfl
  ·rw[<-h l e R]
   cases U:p l e with
   |error er=>rfl
   |ok y=>
    have h1:=J _ _ _ _ U
    have h2:=I y.2.1
    exact Zqo I J h k _ _ _ _ (by omega)
theorem Znh{n:Nat} {o:List Tok->Int×List Tok} (I:∀l,(o l).2.length<=l.length) {p q:PE} (J:Shr p) (h:Agr n p q):Agr n (pCh o p) (pCh o q):=by
 intro l e R;unfold pCh;rw[<-h l e R];cases U:p l e with
 |error er=>rfl
 |ok y=>
  have h1:=J _ _ _ _ U;have h2:=I y.2.1;exact Zqo I J h _ _ _ _ _ (by omega)
theorem Yea(n:Nat):Shr (pE n):=(Zap n).shr
theorem Zni{I:PE} (h:Bnd I):Shr (pFac I):=(Ul h).shr
theorem Yeb:∀(n m:Nat),n<=m->Agr n (pE n) (pE m)
 |0,m,_=>λl e J=>by omega
 |n+1,m+1,h=>by
  have I:=Yeb n m (by omega)
  unfold pE
  refine Znh Zwv (Zdj Zfw (Ul (Zap n))).shr ?_
  exact Znh Zwu (Zni (Zap n)) (Zwy (Yea n) I)
theorem Yec(n:Nat):Agr n (pE n) pX:=by
 intro l e I;unfold pX;exact(Yeb (l.length+1) n (by omega) l e (dC _)).symm
def pf:PE:=pFac pX
def pt:PE:=pCh op1 pf
theorem Yoy(l:List Tok) (e:Int):pX l e=pCh op2 pt l e:=by
 show pE (l.length+1) l e=_;rw[pE];refine Znh (n:=l.length+1) Zwv (Zdj Zfw (Ul (Zap _))).shr ?_ l e (dC _);exact Znh Zwu (Zni (Zap _)) (Zwy (Yea _) (Yec _))
theorem pf_bnd:Bnd pf:=Ul Zpk
theorem pt_bnd:Bnd pt:=Zdj Zfw pf_bnd
theorem Yme:Shr pf:=pf_bnd.shr
theorem Ymf:Shr pt:=pt_bnd.shr
theorem Yoz(l:List Tok) (e:Int):pt l e=match pf l e with
 | .error I=> .error I
 | .ok (y,z)=>pRx op1 pf y (op1 z.1).1 (op1 z.1).2 z.2.1:=rfl
theorem Yia(x:Ex) (op:Int) (l:List Tok) (e:Int):pRx op1 pf x op l e=if op=0 then .ok (x,l,e,()) else match pf l e with
 | .error I=> .error I
 | .ok (y,z)=>pRx op1 pf (.mk op 0 0 0 0 0 [x,y]) (op1 z.1).1 (op1 z.1).2 z.2.1:=Yd9 Zwu Yme x op l e
theorem Yib(x:Ex) (op:Int) (l:List Tok) (e:Int):pRx op2 pt x op l e=if op=0 then .ok (x,l,e,()) else match pt l e with
 | .error I=> .error I
 | .ok (y,z)=>pRx op2 pt (.mk op 0 0 0 0 0 [x,y]) (op2 z.1).1 (op2 z.1).2 z.2.1:=Yd9 Zwv Ymf x op l e
theorem Ymg(l:List Tok) (e:Int):pX l e=match pt l e with
 | .error I=> .error I
 | .ok (y,z)=>pRx op2 pt y (op2 z.1).1 (op2 z.1).2 z.2.1:=Yoy l e
abbrev TS(ws:List (List Nat)):List Tok:=ws.map tkS
def d0:List Int:= [0,0,0,0]
theorem Yo0{r:List Tok} (h:Fl0 r) (e:Int):Wc r e= .ok (d0,r,e,()):=by
 unfold Wc Z2;rw[jJ h.1];dsimp only;rw[jJ (by rw[h.2];decide)];rfl
theorem Yo1{i:Nat} (hi:i<4) {r:List Tok} (h:isW sPer r=ab) (e:Int):Wc (tkS (eR.words.getD i [])::r) e= .ok (incD d0 i,r,e,()):=by
 unfold Wc Z2;rw[Zgf (k:= .un) hi,jM (by omega)];dsimp only[cw];rw[jJ (by rw[h];decide)];rfl
theorem Yed{s w:List Nat} (I:V5 w=ac) (r:List Tok):isW s (tkS w::r)=(w==s):=by
 rw[Zmn I];rfl
theorem Yic(r:List Tok):¬0<=chz eR.words (tkS sPer::r):=by
 have:chz eR.words (tkS sPer::r)= -1:=rfl;omega
theorem Z5s(r:List Tok):isW sPer (tkS sPer::r)=true:=rfl
theorem Yo2{j:Nat} (I:j<4) (r:List Tok) (e:Int):Wc (tkS sPer::tkS (eR.words.getD j [])::r) e= .ok (decD d0 j,r,e,()):=by
 unfold Wc Z2;rw[jJ (Yic _)];dsimp only[cw];rw[jM (Z5s _)];unfold Yy;rw[Zgf (k:= .un) I,jM (by omega)];rfl
theorem Yo3{i j:Nat} (hi:i<4) (I:j<4) (r:List Tok) (e:Int):Wc (tkS (eR.words.getD i [])::tkS sPer::tkS (eR.words.getD j [])::r) e= .ok (decD (incD d0 i) j,r,e,()):=by
 unfold Wc Z2;rw[Zgf (k:= .un) hi,jM (by omega)];dsimp only[cw];rw[jM (Z5s _)];unfold Yy;rw[Zgf (k:= .un) I,jM (by omega)];rfl
theorem Ybf{a b c d:Int} (h:Zc0 [a,b,c,d]=ac):in1 a=ac/\in1 b=ac/\in1 c=ac/\in1 d=true:=by
 rw[Zqu] at h;rw[aq] at h
 simpa using h.1
theorem Zet{a:Int} (h:in1 a=ac):a= -1\/a=0\/a=1:=by
 unfold in1 at h;simp at h;omega
def UnF(u:List Int):Prop:=(u=d0/\txU u= [])\/(∃i,i<4/\u=incD d0 (i:Nat)/\txU u= [eR.words.getD i []])\/(∃j,j<4/\u=decD d0 (j:Nat)/\txU u= [sPer,eR.words.getD j []])\/(∃i,i<4/\∃j,j<4/\u=decD (incD d0 (i:Nat)) (j:Nat)/\txU u= [eR.words.getD i [],sPer,eR.words.getD j []])
instance (u:List Int):Decidable (UnF u):=by unfold UnF;infer_instance
theorem unF{a b c d:Int} (h:Zc0 [a,b,c,d]=ac):UnF [a,b,c,d]:=by
 obtain⟨I,J,R,hd⟩:=Ybf h;revert h;rcases Zet I with rfl|rfl|rfl<;>rcases Zet J with rfl|rfl|rfl<;>rcases Zet R with rfl|rfl|rfl<;>rcases Zet hd with rfl|rfl|rfl
 all_goals(clear I J R hd;decide)
theorem Z5t{a b c d:Int} (h:Zc0 [a,b,c,d]=ac) {r:List Tok} (U:Fl0 r) (e:Int):Wc (TS (txU [a,b,c,d])++r) e= .ok ([a,b,c,d],r,e,()):=by
 rcases unF h with⟨I,J⟩|⟨i,hi,I,J⟩|⟨j,R,I,J⟩|⟨i,hi,j,R,I,J⟩
 ·rw[J,I]
  exact Yo0 U e
 ·rw[J,I]
  exact Yo1 hi U.2 e
 ·rw[J,I]
  exact Yo2 R r e
 ·rw[J,I]
  exact Yo3 hi R r e
def Fl1(r:List Tok):Prop:=Fl0 r/\isW sMul r=ab
def Fl2(r:List Tok):Prop:=Fl1 r/\isW Zdi r=ab/\isW U0 r=ab
theorem Yee{r:List Tok} (h:isW sMul r=ab):op1 r=(0,r):=by unfold op1;rw[jJ (by rw[h];decide)]
theorem Ymh{r:List Tok} (h:Fl2 r):op2 r=(0,r):=by unfold op2;rw[jJ (by rw[h.2.1];decide),jJ (by rw[h.2.2];decide)]
theorem Ymi{w:List Nat} {r:List Tok} (h:(tkS w).kind=3):∀ws:List (List Nat),chz ws (tkS w::r)= -1:=by
 intro ws;show(if(tkS w).kind=1 then _ else-1)=_;rw[jJ (by rw[h];decide)]
theorem Zds{w:List Nat} (r:List Tok) (h:(tkS w).kind=3) (I:isW sPer (tkS w::r)=ab):Fl0 (tkS w::r):=⟨by rw[Ymi h];decide,I⟩
theorem Zeu(r:List Tok):Fl2 (tkS Ye::r):=⟨⟨Zds r rfl rfl,rfl⟩,rfl,rfl⟩
theorem Zjd(r:List Tok):Fl2 (tkS Yh::r):=⟨⟨Zds r rfl rfl,rfl⟩,rfl,rfl⟩
theorem Ybg(r:List Tok):Fl2 (tkS Ze3::r):=⟨⟨Zds r rfl rfl,rfl⟩,rfl,rfl⟩
theorem Ybh(r:List Tok):Fl2 (tkS Zhu::r):=⟨⟨Zds r rfl rfl,rfl⟩,rfl,rfl⟩
theorem Yid(r:List Tok):Fl0 (tkS sMul::r):=Zds r rfl rfl
theorem Ybi(r:List Tok):Fl1 (tkS Zdi::r):=⟨Zds r rfl rfl,rfl⟩
theorem Z5u(r:List Tok):Fl1 (tkS U0::r):=⟨Zds r rfl rfl,rfl⟩
structure Rdb(x:Ex):Prop where
 fac:3<=tightF x.op->∀r e,Fl0 r->pf (TS (txX x)++r) e= .ok (x,r,e,())
 term:2<=tightF x.op->∀r e,Fl0 r->pt (TS (txX x)++r) e=pRx op1 pf x (op1 r).1 (op1 r).2 e
 expr:∀r e,Fl1 r->pX (TS (txX x)++r) e=pRx op2 pt x (op2 r).1 (op2 r).2 e
theorem Rdb.all{x:Ex} (h:Rdb x) {r:List Tok} (I:Fl2 r) (e:Int):pX (TS (txX x)++r) e= .ok (x,r,e,()):=by
 rw[h.expr r e I.1,Ymh I,Yib,jM rfl]
theorem Z5v{l:List Tok} {e:Int} {x:Ex} {r:List Tok} (h:pX l e= .ok (x,tkS Ye::r,e,())):pf (tkS X7::l) e= .ok (x,r,e,()):=by
 have:pf (tkS X7::l) e=(match pX l e with
  | .error I=> .error I
  | .ok (x,y)=>if isW Ye y.1 then .ok (x,y.1.tail,y.2.1,()) else .error (hdT y.2.1 y.1,160)):=rfl
 rw[this,h];rfl
theorem Zje(w:List Nat) (ws:List (List Nat)):TS (w::ws)=tkS w::TS ws:=rfl
theorem Zqp(a b:List (List Nat)):TS (a++b)=TS a++TS b:=eC
theorem Rdb.par3{x:Ex} (h:Rdb x) {r:List Tok} (J:Fl0 r) (e:Int):pf (TS (par x.op 3 (txX x))++r) e= .ok (x,r,e,()):=by
 unfold par;split
 ·exact h.fac (by assumption) r e J
 ·have I:TS (X7::(txX x++ [Ye]))++r=tkS X7::(TS (txX x)++tkS Ye::r):=by simp
  rw[I];exact Z5v (h.all (Zeu r) e)
theorem Zwz{l r:List Tok} {e:Int} {x:Ex} (h:pf l e= .ok (x,r,e,())):pt l e=pRx op1 pf x (op1 r).1 (op1 r).2 e:=by rw[Yoz,h]
theorem Rdb.par2{x:Ex} (h:Rdb x) {r:List Tok} (J:Fl0 r) (e:Int):pt (TS (par x.op 2 (txX x))++r) e=pRx op1 pf x (op1 r).1 (op1 r).2 e:=by
 unfold par;split
 ·exact h.term (by assumption) r e J
 ·have I:TS (X7::(txX x++ [Ye]))++r=tkS X7::(TS (txX x)++tkS Ye::r):=by simp
  rw[I];exact Zwz (Z5v (h.all (Zeu r) e))
theorem Z5w(op:Int):1<=tightF op:=by unfold tightF;split<;>(try split)<;>decide
theorem Rdb.par1{x:Ex} (h:Rdb x) {r:List Tok} (I:Fl1 r) (e:Int):pX (TS (par x.op 1 (txX x))++r) e=pRx op2 pt x (op2 r).1 (op2 r).2 e:=by
 unfold par;rw[jM (Z5w _)];exact h.expr r e I
theorem Zjf{x:Ex} (R:3<=tightF x.op->∀r e,Fl0 r->pf (TS (txX x)++r) e= .ok (x,r,e,())) (J:∀r e,Fl0 r->pt (TS (txX x)++r) e=pRx op1 pf x (op1 r).1 (op1 r).2 e):Rdb x:=
 ⟨R,λ_=>J,λr e I=>by rw[Ymg,J r e I.1,Yee I.2,Yia,jM rfl]⟩
theorem Zce{x:Ex} (h:∀r e,Fl0 r->pf (TS (txX x)++r) e= .ok (x,r,e,())):Rdb x:=
 Zjf (λ_=>h) λr e I=>Zwz (h r e I)
theorem Zw0{e:Int}:∀{xs:List Ex} {I:List (List Nat)} {J:List Ex} {r:List Tok},xs.length=I.length->(∀x∈xs,Rdb x)->(∀s∈I,(∀r,Fl2 (tkS s::r))/\∀r,isW s (tkS s::r)=ac)->pOpL pX I J (TS (txS (txL xs) I)++r) e= .ok (J++xs,r,e,())
 | [],[],J,r,_,_,_=>by simp[pOpL,txL,txS]
 |x::xs,s::I,J,r,hl,U,R=>by
  have e1:TS (txS (txL (x::xs)) (s::I))++r=TS (txX x)++tkS s::(TS (txS (txL xs) I)++r):=by simp[txL,txS]
  rw[e1]
  unfold pOpL
  rw[(U x (by simp)).all ((R s (by simp)).1 _) e]
  dsimp only
  rw[jM ((R s (by simp)).2 _),cw,Zw0 (by simpa using hl) (λx h=>U x (by simp[h])) (λs h=>R s (by simp[h]))]
  rw[be]
  rfl
theorem sg4:∀s∈ [Ze3,Yh,Yh,Ye],(∀r,Fl2 (tkS s::r))/\∀r,isW s (tkS s::r)=true:=by
 intro s I;simp only[aH,kf,or_false] at I;rcases I with rfl|rfl|rfl|rfl
 ·exact⟨Ybg,λ_=>rfl⟩
 ·exact⟨Zjd,λ_=>rfl⟩
 ·exact⟨Zjd,λ_=>rfl⟩
 ·exact⟨Zeu,λ_=>rfl⟩
theorem sg2:∀s∈ [Yh,Ye],(∀r,Fl2 (tkS s::r))/\∀r,isW s (tkS s::r)=true:=by
 intro s I;simp only[aH,kf,or_false] at I;rcases I with rfl|rfl
 ·exact⟨Zjd,λ_=>rfl⟩
 ·exact⟨Zeu,λ_=>rfl⟩
theorem Zw1{op:Int} {xs:List Ex} {I:List (List Nat)} {r:List Tok} {e:Int} (J:xs.length=I.length) (U:∀x∈xs,Rdb x) (R:∀s∈I,(∀r,Fl2 (tkS s::r))/\∀r,isW s (tkS s::r)=ac):
 pOps pX op I (tkS X7::(TS (txS (txL xs) I)++r)) e= .ok (.mk op 0 0 0 0 0 xs,r,e,()):=by
 unfold pOps
 rw[jM (show isW X7 (tkS X7::(TS (txS (txL xs) I)++r))=ac from rfl),cw,Zw0 J U R]
 rfl
theorem Yef:∀k:WK,∀w∈k.words,(w==X7)=ab/\(w==sIf)=false:=by intro k;cases k<;>decide
theorem Yo4:∀w∈dK.words,idxS w 0 gJ.words= -1:=by decide
theorem Z5x{k:WK} {i:Nat} (h:i<k.words.length) (r:List Tok) (e:Int):pf (tkS (k.words.getD i [])::r) e=(match Z2 gJ.words (tkS (k.words.getD i [])::r) e with
 | .error I=> .error I
 | .ok (k,y)=>
  if k.2.1 then pOps pX (6+k.1) [Yh,Ye] y.1 y.2.1
  else match Yy dK.words y.1 y.2.1 with
   | .error I=> .error I
   | .ok (a,z)=> .ok (.mk 2 a 0 0 0 0 [],z)):=by
 have J:=Yed (s:=X7) (Zmo h) r
 have R:=Yed (s:=sIf) (Zmo h) r
 rw[(Yef k _ (Zvs h)).1] at J
 rw[(Yef k _ (Zvs h)).2] at R
 show(if(tkS (k.words.getD i [])).kind=2 then _ else Zbm pX (tkS (k.words.getD i [])::r) e)=_
 rw[jJ (by rw[Yfo h];show¬1=2;decide)]
 unfold Zbm
 rw[jJ (by rw[J];decide),jJ (by rw[R];decide)]
 rfl
theorem Zf4{op n:Int} {u:List Int} {k:Nat} (h:Ze9 op n u k=ac):1<=op/\op<=11/\0<=n/\n<=Z0r op/\k=Zkz op/\Zc0 u=ac/\(op=1\/u= [0,0,0,0]):=by
 unfold Ze9 at h;simp only[aq,Bool.or_eq_true,fO] at h;obtain⟨⟨⟨⟨⟨⟨I,J⟩,R⟩,U⟩,h5⟩,h6⟩,h7⟩:=h;exact⟨I,J,R,U,h5,h6,h7⟩
theorem len2{α:Type} {l:List α} (h:l.length=2):∃a b,l= [a,b]:=by
 match l,h with
 | [a,b],_=>exact⟨a,b,rfl⟩
theorem rdb:∀(x:Ex),Zn x=ac->Rdb x:=by
 suffices H:∀(m:Nat) (x:Ex),x.sz<=m->Zn x=ac->Rdb x fromλx=>H _ x (av _)
 intro m
 induction m with
 |zero=>intro x h;have:=x.sz_pos;omega
 |succ m ih=>
  intro x hm hf;rw[Zcn,aq] at hf;obtain⟨hh,J⟩:=hf;have a0:∀y∈x.l,Rdb y:=λy hy=>ih y (by have:=Ex.sz_mem hy;omega) (formL_iff.1 J y hy);obtain⟨op,n,a,b,c,d,l⟩:=x;simp only[aM,bX,Ex.u,bD,bE,bF,bG,bw] at hh a0;obtain⟨h1,h2,h3,h4,h5,h6,h7⟩:=Zf4 hh;clear hm J hh;have R:txX (.mk op n a b c d l)=txN op n [a,b,c,d] (l.map aM) (txL l):=by rw[txX]
  by_cases U:op=1
  ·subst U
   have J:l= []:=cH (by rw[h5];rfl);subst J;refine Zce λr e I=> ?_;rw[R];unfold txN;rw[jM rfl,Zje,cd,Z2s h3 h4]
   show(match Wc (TS (txU [a,b,c,d])++r) e with
    | .error er=>_
    | .ok (d,y)=>_)=_
   rw[Z5t h6 I e];rfl
  have hu:a=0/\b=0/\c=0/\d=0:=by
   rcases h7 with h7|h7
   ·exact ka h7 U
   ·simpa using h7
  obtain⟨rfl,rfl,rfl,rfl⟩:=hu;by_cases q2:op=2
  ·subst q2
   have J:l= []:=cH (by rw[h5];rfl);subst J;have hn:n.toNat<dK.words.length:=by
    have:n<=15:=h4;show n.toNat<16;omega
   refine Zce λr e I=> ?_;rw[R];unfold txN;rw[jJ U,jM rfl];show pf (tkS (dK.words.getD n.toNat [])::r) e=_;rw[Z5x hn];have hc:¬0<=chz gJ.words (tkS (dK.words.getD n.toNat [])::r):=by
    rw[Yfo hn];show¬0<=(if 1=1 then idxS (dK.words.getD n.toNat []) 0 gJ.words else-1);rw[jM rfl,Yo4 _ (Zvs hn)];decide
   unfold Z2;rw[jJ hc];dsimp only;rw[jJ (by decide)];unfold Yy;rw[Zgf hn,jM (by omega)];dsimp only[cw];rw[show((n.toNat:Nat):Int)=n by omega]
  have a3:n=0:=by
   unfold Z0r at h4;rw[jJ U,jJ q2] at h4;omega
  subst a3;by_cases q3:op=11
  ·subst q3
   have J:l.length=4:=h5;refine Zce λr e I=> ?_;rw[R];unfold txN;rw[jJ U,jJ q2,jM rfl];have e1:TS (sIf::X7::txS (txL l) [Ze3,Yh,Yh,Ye])++r=tkS sIf::tkS X7::(TS (txS (txL l) [Ze3,Yh,Yh,Ye])++r):=rfl;rw[e1];show pOps pX 11 [Ze3,Yh,Yh,Ye] (tkS X7::(TS (txS (txL l) [Ze3,Yh,Yh,Ye])++r)) e=_;exact Zw1 (by rw[J];rfl) a0 sg4
  have a1:l.length=2:=by
   rw[h5];unfold Zkz;rw[jJ (by omega),jJ q3]
  by_cases q4:op=3\/op=4\/op=5
  ·obtain⟨x,y,rfl⟩:=len2 a1
   have hx:=a0 x (by simp);have hy:=a0 y (by simp);have R:txX (.mk op 0 0 0 0 0 [x,y])=par x.op (tightF op) (txX x)++sgnO op::par y.op (tightF op+1) (txX y):=by
    rw[R];unfold txN;rw[jJ U,jJ q2,jJ q3,jM q4];rfl
   by_cases q5:op=5
   ·subst q5
    refine Zjf (λh=>ka h (by show¬3<=tightF 5;decide)) λr e I=> ?_;rw[R,Zqp,be];show pt (TS (par x.op 2 (txX x))++tkS sMul::(TS (par y.op 3 (txX y))++r)) e=_;rw[hx.par2 (Yid _) e];show pRx op1 pf x 5 (TS (par y.op 3 (txX y))++r) e=_;rw[Yia,jJ (by decide),hy.par3 I e]
   ·have q6:op=3\/op=4:=by omega
    have ht:tightF op=1:=by unfold tightF;rw[jM q6]
    refine⟨λh=>ka h (by show¬3<=tightF op;rw[ht];decide),λh=>ka h (by show¬2<=tightF op;rw[ht];decide),λr e I=> ?_⟩;rw[R,Zqp,be,ht];have a2:pt (TS (par y.op 2 (txX y))++r) e= .ok (y,r,e,()):=by rw[hy.par2 I.1 e,Yee I.2,Yia,jM rfl]
    rcases q6 with rfl|rfl
    ·show pX (TS (par x.op 1 (txX x))++tkS Zdi::(TS (par y.op 2 (txX y))++r)) e=_
     rw[hx.par1 (Ybi _) e];show pRx op2 pt x 3 (TS (par y.op 2 (txX y))++r) e=_;rw[Yib,jJ (by decide),a2]
    ·show pX (TS (par x.op 1 (txX x))++tkS U0::(TS (par y.op 2 (txX y))++r)) e=_
     rw[hx.par1 (Z5u _) e];show pRx op2 pt x 4 (TS (par y.op 2 (txX y))++r) e=_;rw[Yib,jJ (by decide),a2]
  ·have hk:(op-6).toNat<gJ.words.length:=by
    show(op-6).toNat<5;omega
   refine Zce λr e I=> ?_;rw[R];unfold txN;rw[jJ U,jJ q2,jJ q3,jJ q4];have e1:TS (gJ.words.getD (op-6).toNat []::X7::txS (txL l) [Yh,Ye])++r=tkS (gJ.words.getD (op-6).toNat [])::tkS X7::(TS (txS (txL l) [Yh,Ye])++r):=rfl;rw[e1,Z5x hk];unfold Z2;rw[Zgf hk,jM (by omega)];dsimp only[cw];rw[jM rfl,Zw1 (by rw[a1];rfl) a0 sg2];rw[show 6+(((op-6).toNat:Nat):Int)=op by omega]
end
section
open Go
abbrev Zhh(x:Ex) (J:List (List Nat)) (l:List (List Nat)) (fz:Nat) (m:Nat) (U:List (List Nat)):Prop:=
 (wr ag (aM x-(3:Int))==(↑(0:Nat):Int))=ab->((wr ag (aM x-(3:Int))==(↑((0:Nat)+(1:Nat)):Int))=ac->(aa J<=
 aa J/\fzO (ae (l,fz))<=aa J/\(aa J+(1:Nat))*(16:Nat)<=(140737488355328:Nat))/\(0:Int)<=(1:Int)/\(1:Int)+(1:Int)
 <=(↑(aa (bw x)):Int)/\∀(I:Ex),(bw x)[af (1:Int)]? =ae I->True/\∀(y:Int),y=tightF (aM x)->(aa J+(1:Nat)=
 aa (aw (aa J) J++ [[(45:Nat)]])/\fzO (ae (l,fz))<=aa (aw (aa J) J++ [[(45:Nat)]])/\cW (bV (aM
 I) (bX I) (bD I) (bE I) (bF I) (bG I) (bw I))+(1:Nat)<=m/\Zn (bV (aM I) (bX I) (bD I) (bE I) (bF I) (bG I)
 (bw I))=ac/\(1:Nat)<=aa (aw (aa J) J++ [[(45:Nat)]])/\aa (aw (aa J) J++ [[(45:Nat)]])+(8:Nat)
 *cW (bV (aM I) (bX I) (bD I) (bE I) (bF I) (bG I) (bw I))+(10:Nat)<=(1000000000:Nat))/\∀(R:List (List Nat)),R=
 aw (aa J) J++ [[(45:Nat)]]++par (aM (bV (aM I) (bX I) (bD I) (bE I) (bF I) (bG I) (bw I))) (wr ag (y+
 (1:Int))) (txX (bV (aM I) (bX I) (bD I) (bE I) (bF I) (bG I) (bw I)))->R=U/\aa R=aa U/\fzO (ae (aw
 (aa J) J++ [[(45:Nat)]],fzO (ae (l,fz))))=fzO (ae (l,fz)))/\((wr ag (aM x-(3:Int))==(↑((0:Nat)+(1:Nat)):Int))=ab->((wr
 ag (aM x-(3:Int))==(↑((0:Nat)+(1:Nat)+(1:Nat)):Int))=ac->(aa J<=aa J/\fzO (ae (l,fz))<=aa J/\
 (aa J+(1:Nat))*(16:Nat)<=(140737488355328:Nat))/\(0:Int)<=(1:Int)/\(1:Int)+(1:Int)<=(↑(aa (bw x)):Int)/\∀(I:Ex),(bw
 x)[af (1:Int)]? =ae I->True/\∀(y:Int),y=tightF (aM x)->(aa J+(1:Nat)=aa (aw (aa J) J++ [[(42:Nat)]])
 /\fzO (ae (l,fz))<=aa (aw (aa J) J++ [[(42:Nat)]])/\cW (bV (aM I) (bX I) (bD I) (bE I) (bF I) (bG I)
 (bw I))+(1:Nat)<=m/\Zn (bV (aM I) (bX I) (bD I) (bE I) (bF I) (bG I) (bw I))=ac/\(1:Nat)<=aa (aw
 (aa J) J++ [[(42:Nat)]])/\aa (aw (aa J) J++ [[(42:Nat)]])+(8:Nat)*cW (bV (aM I) (bX I) (bD I)
 (bE I) (bF I) (bG I) (bw I))+(10:Nat)<=(1000000000:Nat))/\∀(R:List (List Nat)),R=aw (aa J) J++ [[(42:Nat)]]++par
 (aM (bV (aM I) (bX I) (bD I) (bE I) (bF I) (bG I) (bw I))) (wr ag (y+(1:Int))) (txX (bV (aM I) (bX I) (bD I)
 (bE I) (bF I) (bG I) (bw I)))->R=U/\aa R=aa U/\fzO (ae (aw (aa J) J++ [[(42:Nat)]],fzO (ae (l,
 fz))))=fzO (ae (l,fz)))/\((wr ag (aM x-(3:Int))==(↑((0:Nat)+(1:Nat)+(1:Nat)):Int))=ab->True))
abbrev Zhi(x:Ex) (J:List (List Nat)) (l:List (List Nat)) (fz:Nat) (m:Nat) (U:List (List Nat)):Prop:=
 (wr ag (aM x-(3:Int))==(↑(0:Nat):Int))=ac->(aa J<=aa J/\fzO (ae (l,fz))<=aa J/\(aa J+(1:
 Nat))*(16:Nat)<=(140737488355328:Nat))/\(0:Int)<=(1:Int)/\(1:Int)+(1:Int)<=(↑(aa (bw x)):Int)/\∀(I:Ex),(bw x)[af (1:Int)]? =
 ae I->True/\∀(y:Int),y=tightF (aM x)->(aa J+(1:Nat)=aa (aw (aa J) J++ [[(43:Nat)]])/\fzO (ae (l,fz))<=
 aa (aw (aa J) J++ [[(43:Nat)]])/\cW (bV (aM I) (bX I) (bD I) (bE I) (bF I) (bG I) (bw I))+(1:Nat)<=
 m/\Zn (bV (aM I) (bX I) (bD I) (bE I) (bF I) (bG I) (bw I))=ac/\(1:Nat)<=aa (aw (aa J) J++ [[(43:
 Nat)]])/\aa (aw (aa J) J++ [[(43:Nat)]])+(8:Nat)*cW (bV (aM I) (bX I) (bD I) (bE I) (bF I) (bG I)
 (bw I))+(10:Nat)<=(1000000000:Nat))/\∀(R:List (List Nat)),R=aw (aa J) J++ [[(43:Nat)]]++par (aM (bV (aM I) (bX
 I) (bD I) (bE I) (bF I) (bG I) (bw I))) (wr ag (y+(1:Int))) (txX (bV (aM I) (bX I) (bD I) (bE I) (bF I) (bG
 I) (bw I)))->R=U/\aa R=aa U/\fzO (ae (aw (aa J) J++ [[(43:Nat)]],fzO (ae (l,fz))))=fzO (ae (l,fz))
abbrev Xh(I:Ex):=
 (bV (aM I) (bX I) (bD I) (bE I) (bF I) (bG I) (bw I))
abbrev Vs(I:Ex):=
 (bV (aM I) (bX I) (bD I) (bE I) (bF I) (bG I) (bw I))
abbrev Vt(I:Ex):=
 (bV (aM I) (bX I) (bD I) (bE I) (bF I) (bG I) (bw I))
abbrev Zhj(l:List (List Nat)) (fz:Nat) (I:Ex) (m:Nat):Prop:=
 aa l=aa l/\fz<=aa l/\cW (Xh I)+(1:Nat)<=m/\Zn (Xh I)=ac/\(1:Nat)<=aa l/\aa l+(8:Nat)*
 cW (Xh I)+(10:Nat)<=(1000000000:Nat)
abbrev Ze6(I:Ex):=
 (bV (aM I) (bX I) (bD I) (bE I) (bF I) (bG I) (bw I))
abbrev qCN3(I:List (List Nat)):=(aa I)
abbrev qCNe:=(40:Nat)
abbrev qCNa(I:List (List Nat)) (J:Nat):=(ae (aw (qCN3 I) I++ [[(105:Nat),(102:Nat)],[qCNe]],J))
abbrev qCN1(I:List (List Nat)) (J:List (List Nat)) (R:Nat):=(ae (aw (qCN3 I) I++ [[(60:Nat)]],fzO (qCNa J R)))
abbrev qCNf:=(44:Nat)
abbrev qCN2(I:List (List Nat)):=(aw (qCN3 I) I++ [[qCNf]])
abbrev qCN4:=(140737488355328:Nat)
abbrev qCN5(I:Ex):=(↑(aa (bw I)):Int)
abbrev qCN6(I:List (List Nat)):=(aw (qCN3 I) I++ [[(105:Nat),(102:Nat)],[qCNe]])
abbrev qCN7:=(0:Int)
abbrev qCN8:=(1:Nat)
abbrev qCN9:=(1:Int)
abbrev qCNb:=(1000000000:Nat)
abbrev qCNc(I:List (List Nat)):=(aw (qCN3 I) I++ [[(60:Nat)]])
abbrev qCNd(I:List (List Nat)):=(aa I+qCN8)
abbrev qCNg:=(8:Nat)
abbrev qCNh:=(16:Nat)
abbrev qCNi:=(3:Int)
abbrev qCNj(I:List (List Nat)) (J:List (List Nat)) (R:List (List Nat)) (d0:Nat):=(ae (aw (qCN3 I) I++ [[qCNf]],fzO (qCN1 J R d0)))
theorem Z0g(m:Nat) (l:List (List Nat)) (fz:Nat) (x:Ex) (l':List (List Nat)):Zk E Fpu (vc E (Fxp' m) 400) 71 [.ptr 0 0,exA x] (hpP E du (ae (l,fz))) 2 (prnK E du (ae (l,fz)) l')=(
 ((aM x==qCN9)=ac->(qCN7<=bX x/\bX x+qCN9<=10000000000000)/\∀(y:List Nat),y=decN (bX x)->(aa l<=aa l/\fz<=aa l/\(qCNd l)*qCNh<=qCN4)/\(aa l+qCN8=aa (aw (qCN3 l) l++ [y])/\fz<=aa (aw (qCN3 l) l++ [y])/\qCN8<=aa (aw (qCN3 l) l++ [y])/\aa (aw (qCN3 l) l++ [y])+qCNg<=qCNb)/\∀(I:List (List Nat)),I=aw (qCN3 l) l++ [y]++txU [bD x,bE x,bF x,bG x]->I=l'/\aa I=aa l'/\fzO (ae (aw (qCN3 l) l++ [y],fz))=fzO (ae (l,fz)))/\((aM x==qCN9)=ab->((aM x==2)=ac->qCN7<=bX x/\bX x+qCN9<=(↑(aa (dL dK)):Int)/\∀(J:List Nat),(dL dK)[af (bX x)]? =ae J->(aa l<=aa l/\fz<=aa l/\(qCNd l)*qCNh<=qCN4)/\aw (qCN3 l) l++ [J]=l'/\aa l+qCN8=aa l'/\fz=fzO (ae (l,fz)))/\((aM x==2)=ab->((aM x==11)=ac->(aa l<=aa l/\fz<=aa l/\(aa l+2)*qCNh<=qCN4)/\qCN7<=qCN7/\qCN7+qCN9<=(qCN5 x)/\∀(J:Ex),(bw x)[af qCN7]? =ae J->(aa l+2=aa (qCN6 l)/\fz<=aa (qCN6 l)/\cW (Xh J)+qCN8<=m/\Zn (Xh J)=ac/\qCN8<=aa (qCN6 l)/\aa (qCN6 l)+qCNg*cW (Xh J)+qCNg<=qCNb)/\∀(I:List (List Nat)),I=aw (qCN3 l) l++ [[105,102],[qCNe]]++txX (Xh J)->(aa I<=aa I/\fzO (qCNa l fz)<=aa I/\(qCNd I)*qCNh<=qCN4)/\qCN7<=qCN9/\qCN9+qCN9<=(qCN5 x)/\∀(a0:Ex),(bw x)[af qCN9]? =ae a0->(aa I+qCN8=aa (qCNc I)/\fzO (qCNa l fz)<=aa (qCNc I)/\cW (Vs a0)+qCN8<=m/\Zn (Vs a0)=ac/\qCN8<=aa (qCNc I)/\aa (qCNc I)+qCNg*cW (Vs a0)+qCNg<=qCNb)/\∀(R:List (List Nat)),R=aw (qCN3 I) I++ [[60]]++txX (Vs a0)->(aa R<=aa R/\fzO (qCN1 I l fz)<=aa R/\(qCNd R)*qCNh<=qCN4)/\qCN7<=2/\2+qCN9<=(qCN5 x)/\∀(a1:Ex),(bw x)[af 2]? =ae a1->(aa R+qCN8=aa (qCN2 R)/\fzO (qCN1 I l fz)<=aa (qCN2 R)/\cW (Vt a1)+qCN8<=m/\Zn (Vt a1)=ac/\qCN8<=aa (qCN2 R)/\aa (qCN2 R)+qCNg*cW (Vt a1)+qCNg<=qCNb)/\∀(U:List (List Nat)),U=aw (qCN3 R) R++ [[qCNf]]++txX (Vt a1)->(aa U<=aa U/\fzO (qCNj R I l fz)<=aa U/\(qCNd U)*qCNh<=qCN4)/\qCN7<=qCNi/\qCNi+qCN9<=(qCN5 x)/\∀(a3:Ex),(bw x)[af qCNi]? =ae a3->(aa U+qCN8=aa (qCN2 U)/\fzO (qCNj R I l fz)<=aa (qCN2 U)/\cW (Ze6 a3)+qCN8<=m/\Zn (Ze6 a3)=ac/\qCN8<=aa (qCN2 U)/\aa (qCN2 U)+qCNg*cW (Ze6 a3)+qCNg<=qCNb)/\∀(a2:List (List Nat)),a2=aw (qCN3 U) U++ [[qCNf]]++txX (Ze6 a3)->(aa a2<=aa a2/\fzO (ae (aw (qCN3 U) U++ [[qCNf]],fzO (qCNj R I l fz)))<=aa a2/\(qCNd a2)*qCNh<=qCN4)/\aw (qCN3 a2) a2++ [[41]]=l'/\aa a2+qCN8=aa l'/\fzO (ae (aw (qCN3 U) U++ [[qCNf]],fzO (qCNj R I l fz)))=fzO (ae (l,fz)))/\((aM x==11)=ab->((aM x==qCNi)=ac->qCN7<=qCN7/\qCN7+qCN9<=(qCN5 x)/\∀(J:Ex),(bw x)[af qCN7]? =ae J->True/\∀(y:Int),y=tightF (aM x)->(Zhj l fz J m)/\∀(I
:List (List Nat)),I=l++par (aM (Xh J)) y (txX (Xh J))->qCN7<=wr ag (aM x-qCNi)/\wr ag (aM x-qCNi)+qCN9<=(↑3:Int)/\(Zhi x I l fz m l')/\(Zhh x I l fz m l'))/\((aM x==qCNi)=ab->((aM x==4)=ac->qCN7<=qCN7/\qCN7+qCN9<=(qCN5 x)/\∀(J:Ex),(bw x)[af qCN7]? =ae J->True/\∀(y:Int),y=tightF (aM x)->(Zhj l fz J m)/\∀(I:List (List Nat)),I=l++par (aM (Xh J)) y (txX (Xh J))->qCN7<=wr ag (aM x-qCNi)/\wr ag (aM x-qCNi)+qCN9<=(↑3:Int)/\(Zhi x I l fz m l')/\(Zhh x I l fz m l'))/\((aM x==4)=ab->((aM x==5)=ac->qCN7<=qCN7/\qCN7+qCN9<=(qCN5 x)/\∀(J:Ex),(bw x)[af qCN7]? =ae J->True/\∀(y:Int),y=tightF (aM x)->(Zhj l fz J m)/\∀(I:List (List Nat)),I=l++par (aM (Xh J)) y (txX (Xh J))->qCN7<=wr ag (aM x-qCNi)/\wr ag (aM x-qCNi)+qCN9<=(↑3:Int)/\(Zhi x I l fz m l')/\(Zhh x I l fz m l'))/\((aM x==5)=ab->qCN7<=wr ag (aM x-6)/\wr ag (aM x-6)+qCN9<=(↑(aa (dL gJ)):Int)/\∀(J:List Nat),(dL gJ)[af (wr ag (aM x-6))]? =ae J->(aa l<=aa l/\fz<=aa l/\(aa l+2)*qCNh<=qCN4)/\qCN7<=qCN7/\qCN7+qCN9<=(qCN5 x)/\∀(a0:Ex),(bw x)[af qCN7]? =ae a0->(aa l+2=aa (aw (qCN3 l) l++ [J,[qCNe]])/\fz<=aa (aw (qCN3 l) l++ [J,[qCNe]])/\cW (Vs a0)+qCN8<=m/\Zn (Vs a0)=ac/\qCN8<=aa (aw (qCN3 l) l++ [J,[qCNe]])/\aa (aw (qCN3 l) l++ [J,[qCNe]])+qCNg*cW (Vs a0)+qCNg<=qCNb)/\∀(I:List (List Nat)),I=aw (qCN3 l) l++ [J,[qCNe]]++txX (Vs a0)->(aa I<=aa I/\fzO (ae (aw (qCN3 l) l++ [J,[qCNe]],fz))<=aa I/\(qCNd I)*qCNh<=qCN4)/\qCN7<=qCN9/\qCN9+qCN9<=(qCN5 x)/\∀(a1:Ex),(bw x)[af qCN9]? =ae a1->(aa I+qCN8=aa (qCN2 I)/\fzO (ae (aw (qCN3 l) l++ [J,[qCNe]],fz))<=aa (qCN2 I)/\cW (Vt a1)+qCN8<=m/\Zn (Vt a1)=ac/\qCN8<=aa (qCN2 I)/\aa (qCN2 I)+qCNg*cW (Vt a1)+qCNg<=qCNb)/\∀(R:List (List Nat)),R=aw (qCN3 I) I++ [[qCNf]]++txX (Vt a1)->(aa R<=aa R/\fzO (ae (aw (qCN3 I) I++ [[qCNf]],fzO (ae (aw (qCN3 l) l++ [J,[qCNe]],fz))))<=aa R/\(qCNd R)*qCNh<=qCN4)/\aw (qCN3 R) R++ [[41]]=l'/\aa R+qCN8=aa l'/\fzO (ae (aw (qCN3 I) I++ [[qCNf]],fzO (ae (aw (qCN3 l) l++ [J,[qCNe]],fz))))=fzO (ae (l,fz))))))))):=by kernel_rfl
theorem Ype(op n a b c d:Int) (l:List Ex):aM (.mk op n a b c d l)=op:=rfl
theorem n_mk(op n a b c d:Int) (l:List Ex):bX (.mk op n a b c d l)=n:=rfl
theorem Ypf(op n a b c d:Int) (l:List Ex):bD (.mk op n a b c d l)=a:=rfl
theorem Ypg(op n a b c d:Int) (l:List Ex):bE (.mk op n a b c d l)=b:=rfl
theorem Yph(op n a b c d:Int) (l:List Ex):bF (.mk op n a b c d l)=c:=rfl
theorem Ypi(op n a b c d:Int) (l:List Ex):bG (.mk op n a b c d l)=d:=rfl
theorem l_mk(op n a b c d:Int) (l:List Ex):bw (.mk op n a b c d l)=l:=rfl
theorem u_mk(op n a b c d:Int) (l:List Ex):Ex.u (.mk op n a b c d l)= [a,b,c,d]:=rfl
theorem len4{α:Type} {l:List α} (h:l.length=4):∃a b c d,l= [a,b,c,d]:=by
 match l,h with
 | [a,b,c,d],_=>exact⟨a,b,c,d,rfl⟩
theorem Zud(op least:Int) (t:List (List Nat)):(par op least t).length<=t.length+2:=by
 unfold par;split
 ·omega
 ·simp
theorem Zxa:∀m,PxOk m
 |0=>λx h=>by omega
 |m+1=>by
  intro x hx hf l fz a1 h1 hl
  have hm:=Zxa m
  refine X4 E_ok (Xs E_ok Zws λf N c=>(Zgx E_ok (Yh9 hm) 400 f N c).1) rfl ?_
  show Zk E Fpu (vc E (Fxp' m) 400) 71 [.ptr 0 0,exA x] (hpP E du (ae (l,fz))) 2 (prnK E du (ae (l,fz)) (l++txX x))
  rw[Z0g];delta qCN3 qCNe qCNa qCN1 qCNf qCN2 qCN4 qCN5 qCN6 qCN7 qCN8 qCN9 qCNb qCNc qCNd qCNg qCNh qCNi qCNj
  unfold Ze6 Zhj Vt Vs Xh Zhi Zhh
  simp only[fzO,aV,gF,kz,ij,fV,ne_eq]
  rw[Zcn,aq] at hf
  obtain⟨hh,a0⟩:=hf
  have R:∀y∈x.l,Zn y=true:=formL_iff.1 a0
  rw[Ex.sz_eq] at hx hl
  obtain⟨op,n,a,b,c,d,xs⟩:=x
  simp only[Ype,n_mk,Ypf,Ypg,Yph,Ypi,l_mk,u_mk] at*
  obtain⟨g1,g2,g3,g4,g5,g6,g7⟩:=Zf4 hh
  have a2:txX (.mk op n a b c d xs)=txN op n [a,b,c,d] (xs.map aM) (txL xs):=by rw[txX]
  rw[a2]
  clear hh a0 a2
  have w0:wr .i64 0=0:=by decide
  have w1:wr .i64 1=1:=by decide
  have w2:wr .i64 2=2:=by decide
  have w3:wr .i64 3=3:=by decide
  have t3:tightF 3=1:=rfl
  have t4:tightF 4=1:=rfl
  have t5:tightF 5=2:=rfl
  refine⟨λq1=> ?_,λq1=>⟨λq2=> ?_,λq2=>⟨λq3=> ?_,λq3=>⟨λq4=> ?_,λq4=>⟨λq5=> ?_,λq5=>⟨λq6=> ?_,λq6=> ?_⟩⟩⟩⟩⟩⟩
  ·subst q1
   have h4:n<=1099511627776:=g4
   refine⟨⟨g3,by omega⟩,⟨av _,a1,by omega⟩,⟨by simp,by simp;omega,by simp,by simp;omega⟩,?_⟩
   simp[txN]
  ·subst q2
   have h4:n<=15:=g4
   have L:dK.words.length=16:=rfl
   refine⟨g3,by rw[L];omega,λw hw=>⟨⟨av _,a1,by omega⟩,?_⟩⟩
   have:dK.words.getD n.toNat []=w:=by simp[ah,hw]
   unfold txN
   rw[jJ (by decide),jM rfl,this]
   simp
  ·subst q3
   obtain⟨I,J,x3,x4,rfl⟩:=len4 (show xs.length=4 from g5)
   have s:I.sz+(J.sz+(x3.sz+(x4.sz+0)))+1<m+1:=hx
   have s':l.length+8*(I.sz+(J.sz+(x3.sz+(x4.sz+0)))+1)+8<=1000000000:=hl
   have p1:=Xw I
   have p2:=Xw J
   have p3:=Xw x3
   have p4:=Xw x4
   have U:=R I (by simp)
   have f2:=R J (by simp)
   have f3:=R x3 (by simp)
   have f4:=R x4 (by simp)
   simp[U,f2,f3,f4,txN,txS,txL,sIf,X7,Ze3,Yh,Ye]
   omega
  ·subst q4
   obtain⟨I,J,rfl⟩:=len2 (show xs.length=2 from g5)
   have s:I.sz+(J.sz+0)+1<m+1:=hx
   have s':l.length+8*(I.sz+(J.sz+0)+1)+8<=1000000000:=hl
   have p1:=Xw I
   have p2:=Xw J
   have U:=R I (by simp)
   have f2:=R J (by simp)
   have r1:=Zud I.op 1 (txX I)
   simp[w0,w1,w2,w3,t3,U,f2,txN,txL,sgnO,Zdi]
   omega
  ·subst q5
   obtain⟨I,J,rfl⟩:=len2 (show xs.length=2 from g5)
   have s:I.sz+(J.sz+0)+1<m+1:=hx
   have s':l.length+8*(I.sz+(J.sz+0)+1)+8<=1000000000:=hl
   have p1:=Xw I
   have p2:=Xw J
   have U:=R I (by simp)
   have f2:=R J (by simp)
   have r1:=Zud I.op 1 (txX I)
   simp[w0,w1,w2,w3,t4,U,f2,txN,txL,sgnO,U0]
   omega
  ·subst q6
   obtain⟨I,J,rfl⟩:=len2 (show xs.length=2 from g5)
   have s:I.sz+(J.sz+0)+1<m+1:=hx
   have s':l.length+8*(I.sz+(J.sz+0)+1)+8<=1000000000:=hl
   have p1:=Xw I
   have p2:=Xw J
   have U:=R I (by simp)
   have f2:=R J (by simp)
   have r1:=Zud I.op 2 (txX I)
   simp[w0,w1,w2,w3,t5,U,f2,txN,txL,sgnO,sMul]
   omega
  ·have L:gJ.words.length=5:=rfl
   obtain⟨I,J,rfl⟩:=len2 (show xs.length=2 by rw[g5];unfold Zkz;rw[jJ (by omega),jJ (by omega)])
   have s:I.sz+(J.sz+0)+1<m+1:=hx
   have s':l.length+8*(I.sz+(J.sz+0)+1)+8<=1000000000:=hl
   have p1:=Xw I
   have p2:=Xw J
   have U:=R I (by simp)
   have f2:=R J (by simp)
   have wo:wr .i64 (op-6)=op-6:=wr64 (by omega) (by omega)
   simp only[wo]
   refine⟨by omega,by rw[L];omega,λw hw=> ?_⟩
   have e:gJ.words.getD (op-6).toNat []=w:=by simp[ah,hw]
   have q7:¬(op=3\/op=4\/op=5):=by omega
   unfold txN
   rw[jJ q1,jJ q2,jJ q3,jJ q7,e]
   simp[U,f2,txS,txL,X7,Yh,Ye]
   omega
end
section
open Go
def CsOk:List (List Nat)->List Cls->Prop
 |_,[]=>True
 |seen,c::r=>Wz c=ac/\resF c.name=ab/\c.name∉seen/\c.when_.length<=8/\Z9 c.pay<=24/\CsOk (c.name::seen) r
def Yj6(m:List (List Nat×Bool)) (seen:List (List Nat)):Prop:=∀a,(Zt m a).getD ab=decide (a∈seen)
theorem Z78{m:List (List Nat×Bool)} {seen:List (List Nat)} (h:Yj6 m seen) (a:List Nat):Yj6 (putS m a ac) (a::seen):=by
 intro b;rw[Zep];by_cases e:a=b
 ·rw[jM e]
  subst e;simp
 ·rw[jJ e,h b]
  simp[Ne.symm e]
theorem Zxt:∀(cs:List Cls) (a b:Bool) (m:List (List Nat×Bool)) (seen:List (List Nat)),Yj6 m seen->(goC a b m cs=0↔a=ab/\b=ab/\CsOk seen cs)
 | [],a,b,m,seen,hm=>by
  unfold goC CsOk
  cases a<;>cases b<;>decide
 |c::r,a,b,m,seen,hm=>by
  rw[Zee]
  unfold CsOk
  by_cases I:Wz c=ac
  ·rw[jM I,Zxt r _ _ _ _ (Z78 hm c.name),hm c.name]
   simp only[bI,fG]
   constructor
   ·rintro⟨⟨⟨J,R⟩,U⟩,⟨⟨h4,h5⟩,h6⟩,h7⟩
    exact⟨J,h4,I,R,U,by omega,by omega,h7⟩
   ·rintro⟨J,h4,_,R,U,h5,h6,h7⟩
    exact⟨⟨⟨J,R⟩,U⟩,⟨⟨h4,by omega⟩,by omega⟩,h7⟩
  ·rw[jJ I]
   constructor
   ·intro h
    cases h
   ·rintro⟨_,_,h,_⟩
    exact ka h I
theorem V7(t:Tar):Z8 t=0↔V5 t.name=ac/\1<=t.for_/\t.for_<=6/\resF t.name=ab/\t.clauses.length<=64/\CsOk [] t.clauses:=by
 unfold Z8;split
 ·rename_i h
  rw[Zxt _ _ _ _ [] (λa=>by simp[Zt])];rw[fG];constructor
  ·rintro⟨I,R,J⟩
   exact⟨h.1,h.2.1,h.2.2,I,by omega,J⟩
  ·rintro⟨_,_,_,I,R,J⟩
   exact⟨I,by omega,J⟩
 ·rename_i h
  constructor
  ·intro k
   cases k
  ·rintro⟨I,R,J,_⟩
   exact ka ⟨I,R,J⟩ h
theorem V8{c:Cls} (h:Wz c=ac):V5 c.name=ac/\Zn c.pay=ac/\∀w∈c.when_,Ym w=true:=by
 unfold Wz at h;rw[aq,aq] at h;exact⟨h.1.1,h.1.2,fL.1 h.2⟩
end
section
open Go
theorem Zjw(i:Nat) (w:Tst) (r:List Tst):txTs i (w::r)=(if i=0 then Zif else sAnd)::(txW w++txTs (i+1) r):=rfl
theorem Znv{n:Int} (I:0<=n) (J:n<=1099511627776) (r:List Tok) (e:Int):pInt (tkS (decN n)::r) e= .ok (n,r,e,()):=by
 rw[Z2s I J];rfl
theorem Zbo{w:Tst} (h:Ym w=ac):0<=w.attr/\w.attr<16/\0<=w.low/\w.low<=1099511627776/\0<=w.high/\w.high<=1099511627776:=jk h
theorem Ycj(w:Tst):(⟨w.attr,w.low,w.high⟩:Tst)=w:=rfl
theorem Zq7{w:Tst} (h:Ym w=ac) {n:Int} (hn:n≠8) (r:List Tok) (e:Int):Uc n (TS (txW w)++r) e= .ok (w,r,e,()):=by
 obtain⟨a0,a1,R,U,h0,h1⟩:=Zbo h;have hk:w.attr.toNat<dK.words.length:=by show w.attr.toNat<16;omega
 unfold txW;rw[Zje,cd];unfold Uc Yy;rw[Zgf hk,jM (by omega)];dsimp only[cw];rw[jJ hn,show((w.attr.toNat:Nat):Int)=w.attr by omega];by_cases J:w.low=w.high
 ·rw[jM J]
  have I:TS [sIs,decN w.low]++r=tkS sIs::tkS (decN w.low)::r:=rfl;rw[I,jM (show isW sIs (tkS sIs::tkS (decN w.low)::r)=ac from rfl),cw,Znv R U];dsimp only
  conv=>rhs;rw[<-Ycj w,<-J]
 ·rw[jJ J]
  have I:TS [sIn,decN w.low,Zef,decN w.high]++r=tkS sIn::tkS (decN w.low)::tkS Zef::tkS (decN w.high)::r:=rfl
  rw[I,jJ (show¬isW sIs (tkS sIn::tkS (decN w.low)::tkS Zef::tkS (decN w.high)::r)=ac from bK),
   jM (show isW sIn (tkS sIn::tkS (decN w.low)::tkS Zef::tkS (decN w.high)::r)=ac from rfl),cw,Znv R U]
  dsimp only;rw[jM (show isW Zef (tkS Zef::tkS (decN w.high)::r)=ac from rfl),cw,Znv h0 h1]
theorem Znw(k:Nat) (ts:List Tst) (l:List Tok) (e:Int):pTs k ab ts l e= .ok (ts,l,e,()):=by
 cases k with
 |zero=>rfl
 |succ k=>unfold pTs;rw[jJ bK]
theorem Zlu{e:Int} {r:List Tok} (hr:isW [97,110,100] r=ab):∀(ws:List Tst) (i k:Nat) (ts:List Tst),1<=i->(∀w∈ws,Ym w=ac)->ws.length<k->ts.length+ws.length<=8->
 pTs k (isW [97,110,100] (TS (txTs i ws)++r)) ts (if isW [97,110,100] (TS (txTs i ws)++r) then(TS (txTs i ws)++r).tail else TS (txTs i ws)++r) e= .ok (ts++ws,r,e,())
 | [],i,k,ts,hi,R,I,J=>by
  have U:TS (txTs i [])++r=r:=rfl
  rw[U,hr,jJ bK,Znw,cG]
 |w::ws,i,0,ts,hi,R,I,J=>by simp at I
 |w::ws,i,k+1,ts,hi,R,I,J=>by
  have U:TS (txTs i (w::ws))++r=tkS sAnd::(TS (txW w)++(TS (txTs (i+1) ws)++r)):=by
   rw[Zjw,jJ (by omega),Zje,Zqp,cd,be]
  have e2:isW [97,110,100] (tkS sAnd::(TS (txW w)++(TS (txTs (i+1) ws)++r)))=true:=rfl
  rw[U,e2,jM rfl,cw]
  unfold pTs
  rw[jM rfl,Zq7 (R w (by simp)) (by simp at J;omega)]
  dsimp only
  rw[Zlu hr ws (i+1) k (ts++ [w]) (by omega) (λw h=>R w (by simp[h])) (by simpa using I) (by simp at J⊢;omega)]
  rw[be]
  rfl
theorem Zue{e:Int} {r:List Tok} (hr:isW [97,110,100] r=ab) (a0:isW [119,104,101,110] r=ab) (ws:List Tst) (R:∀w∈ws,Ym w=ac) (J:ws.length<=8):
 pTs 10 (isW [119,104,101,110] (TS (txTs 0 ws)++r)) [] (if isW [119,104,101,110] (TS (txTs 0 ws)++r) then(TS (txTs 0 ws)++r).tail else TS (txTs 0 ws)++r) e= .ok (ws,r,e,()):=by
 cases ws with
 |nil=>
  have I:TS (txTs 0 [])++r=r:=rfl
  rw[I,a0,jJ bK,Znw]
 |cons w ws=>
  have I:TS (txTs 0 (w::ws))++r=tkS Zif::(TS (txW w)++(TS (txTs 1 ws)++r)):=by
   rw[Zjw,jM rfl,Zje,Zqp,cd,be]
  have U:isW [119,104,101,110] (tkS Zif::(TS (txW w)++(TS (txTs 1 ws)++r)))=true:=rfl
  rw[I,U,jM rfl,cw]
  unfold pTs
  rw[jM rfl,Zq7 (R w (by simp)) (by simp)]
  dsimp only
  rw[Zlu hr ws 1 9 _ (av _) (λw h=>R w (by simp[h])) (by simp at J;omega) (by simp at J⊢;omega)]
  rfl
theorem Zjx(c:Cls) (r:List Cls):txCs (c::r)=txC c++txCs r:=rfl
theorem Zq8{s:List Nat} (h:V5 s=ac) (I:resF s=ab) (r:List Tok) (e:Int):Zav (tkS s::r) e= .ok (s,r,e,()):=by
 rw[Zmn h];show(if(1:Int)=1 then(if s∈resW then(.error (0,161):PR (List Nat)) else .ok (s,r,e,())) else .error (0,160))=_;rw[jM rfl,jJ (jm I)]
theorem Zuf{c:Cls} {bs:List Cls} (J:Wz c=ac) (R:resF c.name=ab) (U:bs.any (λb=>b.name==c.name)=ab) (h4:c.when_.length<=8) (h5:Z9 c.pay<=24) (r:List Tok) (e:Int):
 Yj bs (TS (c.name::(txTs 0 c.when_++sPay::(txX c.pay++ [Zhu])))++r) e= .ok (c,r,e,()):=by
 obtain⟨k1,k2,k3⟩:=V8 J
 have I:TS (c.name::(txTs 0 c.when_++sPay::(txX c.pay++ [Zhu])))++r=tkS c.name::(TS (txTs 0 c.when_)++tkS sPay::(TS (txX c.pay)++tkS Zhu::r)):=by simp
 rw[I]
 unfold Yj
 rw[Zq8 k1 R]
 dsimp only
 rw[jJ (by rw[U];decide),Zue (r:=tkS sPay::(TS (txX c.pay)++tkS Zhu::r)) rfl rfl _ k3 h4]
 unfold pAft pPay
 dsimp only
 rw[jM (show isW [112,97,121] (tkS sPay::(TS (txX c.pay)++tkS Zhu::r))=ac from rfl),cw,(rdb c.pay k2).all (Ybh r) e]
 dsimp only
 rw[jJ (by omega),jM (show isW [59] (tkS Zhu::r)=ac from rfl)]
 rfl
theorem any_name{bs:List Cls} {a:List Nat}:bs.any (λb=>b.name==a)=ab↔a∉bs.map aK:=by
 rw[List.any_eq_false];simp only[List.mem_map,not_exists,not_and];constructor
 ·intro h b I e
  exact h b I (by rw[e];exact iR a)
 ·intro h b I e
  exact h b I (eq_of_beq e)
theorem CsOk.congr:∀{cs:List Cls} {s I:List (List Nat)},(∀a,a∈s↔a∈I)->CsOk s cs->CsOk I cs
 | [],_,_,_,_=>jX
 |c::r,s,I,h,⟨J,R,U,h4,h5,h6⟩=>⟨J,R,λk=>U ((h _).2 k),h4,h5,CsOk.congr (λa=>by simp[h a]) h6⟩
theorem Zgn{e:Int} {r:List Tok} (U:isW [99,108,97,117,115,101] r=ab):∀(cs bs:List Cls) (k:Nat),CsOk (bs.map aK) cs->cs.length<k->bs.length+cs.length<=64->
 pCls k bs (TS (txCs cs)++r) e= .ok (bs++cs,r,e,())
 | [],bs,0,_,I,_=>by simp at I
 | [],bs,k+1,_,_,_=>by
  have J:TS (txCs [])++r=r:=rfl
  unfold pCls
  rw[J,U,jJ bK,cG]
 |c::cs,bs,0,_,I,_=>by simp at I
 |c::cs,bs,k+1,h,I,R=>by
  obtain⟨h1,h2,h3,h4,h5,h6⟩:=h
  have J:TS (txCs (c::cs))++r=tkS W2::(TS (c.name::(txTs 0 c.when_++sPay::(txX c.pay++ [Zhu])))++(TS (txCs cs)++r)):=by
   rw[Zjx]
   unfold txC
   rw[Zqp,Zje,be,cd]
  rw[J]
  unfold pCls
  rw[jM (show isW [99,108,97,117,115,101] (tkS W2::_)=ac from rfl),jJ (by simp at R;omega),cw,Zuf h1 h2 (any_name.2 h3) h4 h5]
  dsimp only
  rw[Zgn U cs (bs++ [c]) k (CsOk.congr (λa=>by simp[or_comm]) h6) (by simpa using I) (by simp at R⊢;omega)]
  rw[be]
  rfl
theorem Yck{t:Tar} (h:Z8 t=0) (e:Int):pTar (TS (Zas t)) e= .ok (t,[],e,()):=by
 obtain⟨J,h2,h3,R,U,h6⟩:=(V7 t).1 h;have I:TS (Zas t)=tkS Zhv::tkS t.name::tkS sFor::tkS (gw.words.getD (t.for_-1).toNat [])::tkS sLb::(TS (txCs t.clauses)++ [tkS sRb]):=by
  unfold Zas;simp
 have hk:(t.for_-1).toNat<gw.words.length:=by show(t.for_-1).toNat<6;omega
 rw[I];unfold pTar;rw[jM (show isW [116,97,114,105,102,102] (tkS Zhv::_)=ac from rfl),cw,Zq8 J R];dsimp only;rw[jM (show isW [102,111,114] (tkS sFor::_)=ac from rfl),cw];unfold Yy;rw[Zgf hk,jM (by omega)];dsimp only;rw[cw,jM (show isW [123] (tkS sLb::_)=ac from rfl),cw];have a0:∀cs:List Cls,cs.length<=(txCs cs).length:=by
  intro cs
  induction cs with
  |nil=>exact av _
  |cons c r ih=>
   rw[Zjx];unfold txC;simp;omega
 rw[Zgn (r:= [tkS sRb]) rfl t.clauses [] _ h6 (by have:=a0 t.clauses;simp;omega) (by simpa using U)];unfold pEnd;dsimp only;rw[jM (show isW [125] [tkS sRb]=ac from rfl),jJ (by simp)];have:wr .i64 (1+(((t.for_-1).toNat:Nat):Int))=t.for_:=by
  rw[wr64 (by omega) (by omega)];omega
 rw[this];rfl
end
section
open Go
abbrev PP(β:Type):=List Tok->Int->PR β
section
variable {α β:Type}
def Okp(rel:β->β->Prop) (p:PP β) (l:List Tok) (y:β) (k:Nat):Prop:=
 k<=l.length/\∀(I:List Tok) (m:Nat) (f:Int),I.map sT=(l.map sT).take m->
  (k<=m->p I f= .ok (y,I.drop k,f,()))/\(m<k->p I f= .error (f,160)\/∃J,rel J y/\p I f= .ok (J,[],f,()))
def ErrS(p:PP β) (l:List Tok) (e:Int) (J:Int×Int):Prop:=∃(j:Nat) (c:Int),J=(hdT e (l.drop j),c)/\(c=2\/c=160\/c=161)/\∀(I:List Tok) (f:Int),I.map sT=l.map sT->p I f= .error (hdT f (I.drop j),c)
def Gd(rel:β->β->Prop) (p:PP β):Prop:=∀l e,(∀y x,p l e= .ok (y,x)->∃k,x=(l.drop k,e,())/\Okp rel p l y k)/\∀I,p l e= .error I->ErrS p l e I
theorem ErrS.hd{p:PP β} {l:List Tok} {e:Int} {c:Int} (J:c=2\/c=160\/c=161) (h:∀(I:List Tok) (f:Int),I.map sT=l.map sT->p I f= .error (hdT f I,c)):ErrS p l e (hdT e l,c):=⟨0,c,rfl,J,h⟩
theorem Ze0{l I:List Tok} (h:I.map sT=l.map sT):I.map sT=(l.map sT).take l.length:=by rw[h,bh (by simp)]
theorem Gd.mono{rel rel':β->β->Prop} {p:PP β} (h:Gd rel p) (hr:∀a b,rel a b->rel' a b):Gd rel' p:=by
 intro l e;refine⟨λy x hy=> ?_,(h l e).2⟩;obtain⟨k,U,h2,I⟩:=(h l e).1 y x hy;refine⟨k,U,h2,λR m f J=>⟨(I R m f J).1,λhm=>((I R m f J).2 hm).imp id ?_⟩⟩;rintro⟨y',h4,h5⟩;exact⟨y',hr _ _ h4,h5⟩
def pR(y:β):PP β:=λl e=> .ok (y,l,e,())
def pSyn:PP β:=λl e=> .error (hdT e l,160)
theorem Zah{I:List Tok} {m:Nat} (h:I.map sT=(([]:List Tok).map sT).take m):I= []:=by
 rw[dM,List.take_nil] at h;exact jB.1 h
theorem gd_R(rel:β->β->Prop) (y:β):Gd rel (pR y):=by
 intro l e;refine⟨λz x h=> ?_,λI h=>by cases h⟩;unfold pR at h;cases h;refine⟨0,rfl,aW _,λJ m f _=>⟨λ_=>rfl,λh=>by omega⟩⟩
theorem Zaq(rel:β->β->Prop):Gd rel (pSyn:PP β):=by
 intro l e;refine⟨λz x h=>(by cases h),λI h=> ?_⟩;unfold pSyn at h;cases h;exact .hd (by simp) λJ f _=>rfl
def pBc(p:PP α) (c:α->Bool) (code:Int) (q:α->PP β):PP β:=λl e=>
 match p l e with
 | .error I=> .error I
 | .ok (y,x)=>if c y then .error (hdT e l,code) else q y x.1 x.2.1
def pB(p:PP α) (q:α->PP β):PP β:=λl e=>
 match p l e with
 | .error I=> .error I
 | .ok (y,x)=>q y x.1 x.2.1
theorem Z55{I:List Tok} {l:List Tok} {m k:Nat} (h:I.map sT=(l.map sT).take m):(I.drop k).map sT=((l.drop k).map sT).take (m-k):=by
 rw[ic,h,ic,List.drop_take]
theorem Ybk{rel:α->α->Prop} {rel':β->β->Prop} {p:PP α} {c:α->Bool} {code:Int} {q:α->PP β} (hp:Gd rel p) (hq:∀y,Gd rel' (q y)) (a2:code=2\/code=160\/code=161) (hc:∀y R,rel R y->c y=ab->c R=ab)
 (h0:∀y R l e z x,rel R y->q y l e= .ok (z,x)->∀f,q R [] f= .error (f,160)\/∃z',rel' z' z/\q R [] f= .ok (z',[],f,())):Gd rel' (pBc p c code q):=by
 intro l e
 have E:∀l e,pBc p c code q l e=match p l e with| .error er=> .error er| .ok (y,x)=>if c y then .error (hdT e l,code) else q y x.1 x.2.1:=λ_ _=>rfl
 rw[E]
 cases h:p l e with
 |error er=>
  refine⟨λz x h=>(by cases h),λa1 h'=> ?_⟩
  cases h'
  obtain⟨j,c0,h1,U,h3⟩:=(hp l e).2 er h
  exact⟨j,c0,h1,U,λJ f I=>by rw[E,h3 J f I]⟩
 |ok y=>
  obtain⟨y,x⟩:=y
  obtain⟨k1,rfl,h1,U⟩:=(hp l e).1 y x h
  dsimp only
  cases a0:c y with
  |true=>
   refine⟨λz x h=>(by cases h),λa1 h'=> ?_⟩
   cases h'
   refine .hd a2 λJ f I=> ?_
   rw[E,(U J l.length f (Ze0 I)).1 h1]
   dsimp only
   rw[a0,jM rfl]
  |false=>
   rw[jJ bK]
   refine⟨λz x2 hz=> ?_,λa1 h'=> ?_⟩
   rotate_left
   ·obtain⟨j,c0,h3,h4,h5⟩:=(hq y _ _).2 a1 h'
    refine⟨k1+j,c0,by rw[h3,eS],h4,λJ f I=> ?_⟩
    rw[E,(U J l.length f (Ze0 I)).1 h1]
    dsimp only
    rw[a0,jJ bK,h5 (J.drop k1) f (by rw[ic,I,ic]),eS]
   obtain⟨k2,rfl,h3,h4⟩:=(hq y _ _).1 z x2 hz
   rw[cU] at h3
   refine⟨k1+k2,by rw[eS],by omega,λJ m f I=> ?_⟩
   have hd:=Z55 (k:=k1) I
   rw[E]
   refine⟨λhm=> ?_,λhm=> ?_⟩
   ·rw[(U J m f I).1 (by omega)]
    dsimp only
    rw[a0,jJ bK,(h4 _ _ f hd).1 (by omega),eS]
   ·by_cases hk:k1<=m
    ·rw[(U J m f I).1 hk]
     dsimp only
     rw[a0,jJ bK]
     exact(h4 _ _ f hd).2 (by omega)
    ·rcases(U J m f I).2 (by omega) with h5|⟨R,h5,h6⟩
     ·rw[h5]
      exact .inl rfl
     ·rw[h6]
      dsimp only
      rw[hc y R h5 a0,jJ bK]
      exact h0 y R _ _ z _ h5 hz f
theorem Yo5(p:PP α) (q:α->PP β):pB p q=pBc p (λ_=>ab) 2 q:=by
 funext l e;unfold pB pBc;cases p l e with
 |error I=>rfl
 |ok y=>rfl
theorem gd_b{rel:α->α->Prop} {rel':β->β->Prop} {p:PP α} {q:α->PP β} (U:Gd rel p) (hq:∀y,Gd rel' (q y))
 (R:∀y I l e z x,rel I y->q y l e= .ok (z,x)->∀f,q I [] f= .error (f,160)\/∃J,rel' J z/\q I [] f= .ok (J,[],f,())):Gd rel' (pB p q):=by
 rw[Yo5]
 exact Ybk U hq (by simp) (λ_ _ _ _=>rfl) R
def pIf(s:List Nat) (A B:PP β):PP β:=λl e=>if isW s l then A l.tail e else B l e
theorem V6{t I:Tok} (h:sT I=sT t):I.kind=t.kind/\I.text=t.text/\I.n=t.n:=by
 unfold sT atT at h;injection h with J R U h4
 exact⟨J,R,U⟩
theorem Zqr{s:List Nat} {t I:Tok} {r r':List Tok} (h:sT I=sT t):isW s (I::r')=isW s (t::r):=by
 obtain⟨J,R,_⟩:=V6 h;show(!(I.kind==2)&&I.text==s)=(!(t.kind==2)&&t.text==s);rw[J,R]
theorem Xz{I l:List Tok} {m:Nat} (h:I.map sT=(l.map sT).take m):(I= []/\(m=0\/l= []))\/∃J r' t r m',I=J::r'/\l=t::r/\m=m'+1/\sT J=sT t/\r'.map sT=(r.map sT).take m':=by
 cases m with
 |zero=>
  rw[List.take_zero] at h;exact .inl ⟨jB.1 h,.inl rfl⟩
 |succ m=>
  cases l with
  |nil=>exact .inl ⟨Zah h,.inr rfl⟩
  |cons t r=>
   cases I with
   |nil=>simp at h
   |cons J r'=>
    rw[bQ,bQ,jz] at h;injection h with R U
    exact .inr ⟨J,r',t,r,m,rfl,rfl,rfl,R,U⟩
theorem Zau{rel:β->β->Prop} {s:List Nat} {A B:PP β} (hA:Gd rel A) (hB:Gd rel B) (h0:∀l e y x,A l e= .ok (y,x)->∀f,B [] f= .error (f,160)\/∃y',rel y' y/\B [] f= .ok (y',[],f,())):Gd rel (pIf s A B):=by
 intro l e;have E:∀l e,pIf s A B l e=if isW s l then A l.tail e else B l e:=λ_ _=>rfl;rw[E];cases hw:isW s l with
 |true=>
  rw[jM rfl];cases l with
  |nil=>cases hw
  |cons t r=>
   refine⟨λy x hy=> ?_,λer h=> ?_⟩
   rotate_left
   ·obtain⟨j,c0,J,U,h5⟩:=(hA r e).2 er h
    refine⟨j+1,c0,J,U,λR f I=> ?_⟩;rcases Xz (Ze0 I) with⟨rfl,h6⟩|⟨t',r',t2,r2,m',rfl,h6,h7,h8,h9⟩
    ·simp at I
    ·cases h6
     rw[E,Zqr (r':=r') (r:=r) h8,hw,jM rfl];refine h5 r' f ?_
     simpa using(eN I).2
   obtain⟨k,rfl,h1,h2⟩:=(hA r e).1 y x hy;refine⟨k+1,rfl,by simpa using h1,λR m f I=> ?_⟩;rw[E];rcases Xz I with⟨rfl,J⟩|⟨t',r',t2,r2,m',rfl,J,rfl,U,h5⟩
   ·have hm:m=0:=by
     rcases J with J|J
     ·exact J
     ·cases J
    subst hm;refine⟨λh=>by omega,λ_=> ?_⟩;rw[show isW s []=ab from rfl,jJ bK];exact h0 _ _ _ _ hy f
   ·cases J
    rw[Zqr (r':=r') (r:=r) U,hw,jM rfl];exact⟨λhm=>(h2 r' m' f h5).1 (by omega),λhm=>(h2 r' m' f h5).2 (by omega)⟩
 |false=>
  rw[jJ bK];have nW:∀(R:List Tok) (m:Nat),R.map sT=(l.map sT).take m->isW s R=false:=by
   intro R m I;rcases Xz I with⟨rfl,_⟩|⟨t',r',t,r,m',rfl,rfl,rfl,U,h5⟩
   ·rfl
   ·rw[Zqr (r:=r) U]
    exact hw
  refine⟨λy x hy=> ?_,λer h=> ?_⟩
  rotate_left
  ·obtain⟨j,c0,J,U,h5⟩:=(hB l e).2 er h
   refine⟨j,c0,J,U,λR f I=> ?_⟩;rw[E,nW R l.length (Ze0 I),jJ bK];exact h5 R f I
  obtain⟨k,rfl,h1,h2⟩:=(hB l e).1 y x hy;refine⟨k,rfl,h1,λR m f I=> ?_⟩;rw[E];have:=nW R m I;rw[this,jJ bK];exact h2 R m f I
def pOne(c:Tok->Bool) (v:Tok->β):PP β:=λl e=>
 match l with
 | []=> .error (e,160)
 |t::r=>if c (sT t) then .ok (v (sT t),r,e,()) else .error (t.at_,160)
theorem Yeg(rel:β->β->Prop) (c:Tok->Bool) (v:Tok->β):Gd rel (pOne c v):=by
 intro l e;cases l with
 |nil=>
  refine⟨λy x R=>(by cases R),λer h=> ?_⟩;cases h;refine .hd (by simp) λU f J=> ?_;have:U= []:=Zah (m:=0) (by simpa using J);subst this;rfl
 |cons t r=>
  have E:∀t r e,pOne c v (t::r) e=if c (sT t) then .ok (v (sT t),r,e,()) else .error (t.at_,160):=λ_ _ _=>rfl;rw[E];cases hc:c (sT t) with
  |false=>
   rw[jJ bK];refine⟨λy x R=>(by cases R),λer h=> ?_⟩;cases h;refine .hd (l:=t::r) (by simp) λU f J=> ?_;cases U with
   |nil=>simp at J
   |cons t' r'=>
    have h1:sT t'=sT t:=(eN J).1;rw[E,h1,hc,jJ bK];rfl
  |true=>
   rw[jM rfl];refine⟨λy x R=> ?_,λer h=>(by cases h)⟩;cases R;refine⟨1,rfl,by simp,λU m f J=> ?_⟩;rcases Xz J with⟨rfl,I⟩|⟨t',r',t2,r2,m',rfl,I,rfl,h4,h5⟩
   ·have hm:m=0:=by
     rcases I with I|I
     ·exact I
     ·cases I
    subst hm;exact⟨λh=>by omega,λ_=> .inl rfl⟩
   ·cases I
    rw[E,h4,hc,jM rfl];exact⟨λ_=>rfl,λh=>by omega⟩
def pOpt(c:Tok->Bool) (v:Tok->β) (z:β):PP β:=λl e=>
 match l with
 | []=> .ok (z,[],e,())
 |t::r=>if c (sT t) then .ok (v (sT t),r,e,()) else .ok (z,t::r,e,())
theorem Z56(c:Tok->Bool) (v:Tok->β) (z:β):Gd (λa _=>a=z) (pOpt c v z):=by
 intro l e;cases l with
 |nil=>
  refine⟨λy x R=> ?_,λer h=>(by cases h)⟩;cases R;refine⟨0,rfl,aW _,λl' m f J=>⟨λ_=> ?_,λh=>by omega⟩⟩;have:l'= []:=Zah J;subst this;rfl
 |cons t r=>
  have E:∀t r e,pOpt c v z (t::r) e=if c (sT t) then .ok (v (sT t),r,e,()) else .ok (z,t::r,e,()):=λ_ _ _=>rfl;rw[E];cases hc:c (sT t) with
  |false=>
   rw[jJ bK];refine⟨λy x R=> ?_,λer h=>(by cases h)⟩;cases R;refine⟨0,rfl,aW _,λl' m f J=>⟨λ_=> ?_,λh=>by omega⟩⟩;rcases Xz J with⟨rfl,_⟩|⟨t',r',t2,r2,m',rfl,I,rfl,U,h5⟩
   ·rfl
   ·cases I
    rw[E,U,hc,jJ bK];rfl
  |true=>
   rw[jM rfl];refine⟨λy x R=> ?_,λer h=>(by cases h)⟩;cases R;refine⟨1,rfl,by simp,λl' m f J=> ?_⟩;rcases Xz J with⟨rfl,I⟩|⟨t',r',t2,r2,m',rfl,I,rfl,U,h5⟩
   ·have hm:m=0:=by
     rcases I with I|I
     ·exact I
     ·cases I
    subst hm;exact⟨λh=>by omega,λ_=> .inr ⟨z,rfl,rfl⟩⟩
   ·cases I
    rw[E,U,hc,jM rfl];exact⟨λ_=>rfl,λh=>by omega⟩
end
abbrev NoR{β:Type}:β->β->Prop:=λ_ _=>False
abbrev AnyR{β:Type}:β->β->Prop:=λ_ _=>True
abbrev NeR:Ex->Ex->Prop:=λa b=>Z9 a<=Z9 b
theorem Ybl:pInt=pOne (λt=>t.kind=2) (λt=>t.n):=by
 funext l e;cases l with
 |nil=>rfl
 |cons t r=>
  show(if t.kind=2 then _ else _)=(if decide (t.kind=2)=ac then _ else _);by_cases h:t.kind=2
  ·rw[jM h,jM (jq h)]
   rfl
  ·rw[jJ h,jJ (by simpa using h)]
theorem Z57(ws:List (List Nat)):Yy ws=pOne (λt=>decide (0<=chz ws [t])) (λt=>chz ws [t]):=by
 funext l e;cases l with
 |nil=>rfl
 |cons t r=>
  have I:chz ws (t::r)=chz ws [sT t]:=rfl;unfold Yy pOne;dsimp only;rw[I];by_cases h:0<=chz ws [sT t]
  ·rw[jM h,jM (jq h)]
   rfl
  ·rw[jJ h,jJ (by simpa using h)]
   rfl
theorem Zt2(ws:List (List Nat)):Z2 ws=pOpt (λt=>decide (0<=chz ws [t])) (λt=>(chz ws [t],ac,())) (0,ab,()):=by
 funext l e;cases l with
 |nil=>rfl
 |cons t r=>
  have I:chz ws (t::r)=chz ws [sT t]:=rfl;unfold Z2 pOpt;dsimp only;rw[I];by_cases h:0<=chz ws [sT t]
  ·rw[jM h,jM (jq h)]
   rfl
  ·rw[jJ h,jJ (by simpa using h)]
theorem Z58:Gd NoR pInt:=by rw[Ybl];exact Yeg _ _ _
theorem Znk(ws:List (List Nat)):Gd NoR (Yy ws):=by rw[Z57];exact Yeg _ _ _
theorem Zqs(ws:List (List Nat)):Gd (λa _=>a=(0,ab,())) (Z2 ws):=by rw[Zt2];exact Z56 _ _ _
theorem Zci(t:Tok) (r:List Tok) (e:Int):Zav (t::r) e=if t.kind=1 then(if t.text∈resW then .error (t.at_,161) else .ok (t.text,r,e,())) else .error (t.at_,160):=rfl
theorem Z59:Gd NoR Zav:=by
 intro l e;cases l with
 |nil=>
  refine⟨λy x hy=>(by cases hy),λer h=> ?_⟩;cases h;refine .hd (l:= []) (by simp) λI f J=> ?_;have:I= []:=Zah (m:=0) (by simpa using J);subst this;rfl
 |cons t r=>
  have a0:∀(I:List Tok),I.map sT=(t::r).map sT->∃R r',I=R::r'/\R.kind=t.kind/\R.text=t.text:=by
   intro I J;cases I with
   |nil=>simp at J
   |cons R r'=>
    obtain⟨U,g2,_⟩:=V6 (eN J).1;exact⟨R,r',rfl,U,g2⟩
  rw[Zci];split
  ·rename_i hk
   split
   ·rename_i hr
    refine⟨λy x hy=>(by cases hy),λer h=> ?_⟩;cases h;refine .hd (l:=t::r) (by simp) λI f J=> ?_;obtain⟨R,r',rfl,U,g2⟩:=a0 I J;rw[Zci,U,g2,jM hk,jM hr];rfl
   ·rename_i hr
    refine⟨λy x hy=> ?_,λer h=>(by cases h)⟩;cases hy;refine⟨1,rfl,by simp,λI m f J=> ?_⟩;rcases Xz J with⟨rfl,h3⟩|⟨R,r',t2,r2,m',rfl,h3,rfl,h4,h5⟩
    ·have hm:m=0:=by
      rcases h3 with h3|h3
      ·exact h3
      ·cases h3
     subst hm;exact⟨λh=>by omega,λ_=> .inl rfl⟩
    ·cases h3
     obtain⟨U,g2,_⟩:=V6 h4;refine⟨λ_=> ?_,λh=>by omega⟩;rw[Zci,U,g2,jM hk,jJ hr];rfl
  ·rename_i hk
   refine⟨λy x hy=>(by cases hy),λer h=> ?_⟩;cases h;refine .hd (l:=t::r) (by simp) λI f J=> ?_;obtain⟨R,r',rfl,U,g2⟩:=a0 I J;rw[Zci,U,jJ hk];rfl
theorem Yif:Wc=pB (Z2 eR.words) λy=>pIf sPer (pB (Yy eR.words) λj=>pR (decD (if y.2.1 then incD [0,0,0,0] y.1 else[0,0,0,0]) j)) (pR (if y.2.1 then incD [0,0,0,0] y.1 else[0,0,0,0])):=by
 funext l e;unfold Wc pB pIf;cases Z2 eR.words l e with
 |error I=>rfl
 |ok y=>
  dsimp only;split
  ·cases Yy eR.words y.2.1.tail y.2.2.1 with
   |error I=>rfl
   |ok z=>rfl
  ·rfl
theorem Yig:Gd AnyR Wc:=by
 rw[Yif];refine gd_b (Zqs _) (λy=>Zau (gd_b (Znk _) (λj=>gd_R _ _) (λ_ _ _ _ _ _ h=>h.elim)) (gd_R _ _) λl e y x _ f=> .inr ⟨_,jX,rfl⟩) ?_;intro y I l e z x _ _ f;exact .inr ⟨_,jX,rfl⟩
theorem Yih(n:Int):Uc n=pBc (Yy dK.words) (λ_=>decide (n=8)) 2 λa=>pIf sIs (pB pInt λm=>pR ⟨a,m,m⟩) (pIf sIn (pB pInt λm=>pIf Zef (pB pInt λk=>pR ⟨a,m,k⟩) pSyn) pSyn):=by
 funext l e;unfold Uc pBc pIf pB;cases Yy dK.words l e with
 |error J=>rfl
 |ok y=>
  dsimp only;by_cases I:n=8
  ·rw[jM I,jM (jq I)]
  ·rw[jJ I,jJ (show¬decide (n=8)=ac by simpa using I)]
   split
   ·cases pInt y.2.1.tail y.2.2.1 with
    |error J=>rfl
    |ok z=>rfl
   ·split
    ·cases pInt y.2.1.tail y.2.2.1 with
     |error J=>rfl
     |ok z=>
      dsimp only;split
      ·cases pInt z.2.1.tail z.2.2.1 with
       |error J=>rfl
       |ok u=>rfl
      ·rfl
    ·rfl
theorem Yii(n:Int):Gd NoR (Uc n):=by
 rw[Yih];refine Ybk (Znk _) (λa=> ?_) (by simp) (λ_ _ h=>h.elim) (λ_ _ _ _ _ _ h=>h.elim);refine Zau (gd_b Z58 (λm=>gd_R _ _) (λ_ _ _ _ _ _ h=>h.elim)) (Zau (gd_b Z58 (λm=> ?_) (λ_ _ _ _ _ _ h=>h.elim)) (Zaq _) λ_ _ _ _ _ f=> .inl rfl) λ_ _ _ _ _ f=> .inl rfl;exact Zau (gd_b Z58 (λk=>gd_R _ _) (λ_ _ _ _ _ _ h=>h.elim)) (Zaq _) λ_ _ _ _ _ f=> .inl rfl
theorem Yo6(k:Nat) (ts:List Tst):pTs (k+1) ac ts=pB (Uc ts.length) λt=>pIf [97,110,100] (pTs k ac (ts++ [t])) (pTs k ab (ts++ [t])):=by
 funext l e;unfold pB pIf;rw[pTs,jM rfl];cases Uc ts.length l e with
 |error I=>rfl
 |ok y=>
  dsimp only;cases isW [97,110,100] y.2.1<;>rfl
theorem Yij(k:Nat) (ts:List Tst):pTs k ab ts=pR ts:=by
 funext l e;exact Znw k ts l e
theorem Yik:∀(k:Nat) (more:Bool) (ts:List Tst),Gd AnyR (pTs k more ts)
 |0,more,ts=>gd_R _ ts
 |k+1,ab,ts=>by rw[Yij];exact gd_R _ _
 |k+1,ac,ts=>by
  rw[Yo6]
  refine gd_b (Yii _) (λt=>Zau (Yik k ac _) (Yik k ab _) λ_ _ _ _ _ f=> .inr ⟨ts++ [t],jX,by rw[Yij];rfl⟩) (λ_ _ _ _ _ _ h=>h.elim)
theorem Ymk(I:PE) (s:List Nat) (r:List (List Nat)) (J:List Ex):pOpL I (s::r) J=pB I λx=>pIf s (pOpL I r (J++ [x])) pSyn:=by
 funext l e;rw[pOpL];unfold pB pIf pSyn;cases I l e with
 |error R=>rfl
 |ok y=>rfl
theorem Yeh{J:PE} (h:Gd NeR J):∀(R:List (List Nat)) (I:List Ex),Gd NoR (pOpL J R I)
 | [],I=>gd_R _ I
 |s::r,I=>by
  rw[Ymk]
  exact gd_b h (λx=>Zau (Yeh h r _) (Zaq _) λ_ _ _ _ _ f=> .inl rfl) λ_ _ _ _ _ _ _ _ f=> .inl rfl
theorem Yml(I:PE) (op:Int) (J:List (List Nat)):pOps I op J=pIf X7 (pB (pOpL I J []) λxs=>pR (.mk op 0 0 0 0 0 xs)) pSyn:=by
 funext l e;unfold pOps pIf pB pSyn;split
 ·cases pOpL I J [] l.tail e with
  |error R=>rfl
  |ok y=>rfl
 ·rfl
theorem Yei{I:PE} (h:Gd NeR I) (op:Int) (J:List (List Nat)):Gd NoR (pOps I op J):=by
 rw[Yml];exact Zau (gd_b (Yeh h J []) (λxs=>gd_R _ _) (λ_ _ _ _ _ _ h=>h.elim)) (Zaq _) λ_ _ _ _ _ f=> .inl rfl
theorem Yil(I:PE):Zbm I=pIf X7 (pB I λx=>pIf Ye (pR x) pSyn) (pIf sIf (pOps I 11 [Ze3,Yh,Yh,Ye]) (pB (Z2 gJ.words) λk=>if k.2.1 then pOps I (6+k.1) [Yh,Ye] else pB (Yy dK.words) λa=>pR (.mk 2 a 0 0 0 0 []))):=by
 funext l e;unfold Zbm pIf pB pSyn;split
 ·cases I l.tail e with
  |error J=>rfl
  |ok y=>rfl
 ·split
  ·rfl
  ·cases Z2 gJ.words l e with
   |error J=>rfl
   |ok y=>
    dsimp only;cases y.1.2.1 with
    |true=>rfl
    |false=>
     rw[jJ bK,jJ bK];cases Yy dK.words y.2.1 y.2.2.1 with
     |error J=>rfl
     |ok z=>rfl
theorem Yim{I:PE} (h:Gd NeR I):Gd NoR (Zbm I):=by
 rw[Yil];refine Zau (gd_b h (λx=>Zau (gd_R _ _) (Zaq _) λ_ _ _ _ _ f=> .inl rfl) λ_ _ _ _ _ _ _ _ f=> .inl rfl) (Zau (Yei h _ _) (gd_b (Zqs _) (λk=> ?_) ?_) λ_ _ _ _ _ f=> .inl rfl) λ_ _ _ _ _ f=> .inl rfl
 ·split
  ·exact Yei h _ _
  ·exact gd_b (Znk _) (λa=>gd_R _ _) (λ_ _ _ _ _ _ h=>h.elim)
 ·rintro y J l e z x rfl _ f
  exact .inl rfl
theorem Ymm{pe:PE} (h:Gd NeR pe):Gd NeR (pFac pe):=by
 have h2:=(Yim h).mono (rel':=NeR) λ_ _ h=>h.elim;intro l e;cases l with
 |nil=>
  obtain⟨g1,g2⟩:=h2 [] e;refine⟨λy x hy=> ?_,λer h=> ?_⟩
  rotate_left
  ·obtain⟨j,c0,J,U,h5⟩:=g2 er h
   refine⟨j,c0,J,U,λR f I=> ?_⟩;have e1:R= []:=Zah (m:=0) (by simpa using I);subst e1;exact h5 [] f rfl
  obtain⟨k,hx,hk,ho⟩:=g1 y x hy;refine⟨k,hx,hk,λR m f I=> ?_⟩;have e1:R= []:=Zah I;have:=ho R m f I;subst e1;exact this
 |cons t r=>
  have key:∀(t:Tok) (r:List Tok) (e:Int),pFac pe (t::r) e=if t.kind=2 then pB Wc (λd=>pR (.mk 1 t.n (d.getD 0 0) (d.getD 1 0) (d.getD 2 0) (d.getD 3 0) [])) r e else Zbm pe (t::r) e:=by
   intro t r e;show(if t.kind=2 then _ else _)=_;split
   ·unfold pB
    cases Wc r e with
    |error er=>rfl
    |ok y=>rfl
   ·rfl
  rw[key];by_cases hk:t.kind=2
  ·rw[jM hk]
   have hg:Gd NeR (pB Wc λd=>pR (.mk 1 t.n (d.getD 0 0) (d.getD 1 0) (d.getD 2 0) (d.getD 3 0) [])):=by
    refine gd_b Yig (λd=>gd_R _ _) ?_;intro y y' l e z x _ hz f;unfold pR at hz;cases hz;exact .inr ⟨.mk 1 t.n (y'.getD 0 0) (y'.getD 1 0) (y'.getD 2 0) (y'.getD 3 0) [],by show Z9 _<=Z9 _;simp[Z9],rfl⟩
   refine⟨λy x hy=> ?_,λer h=> ?_⟩
   rotate_left
   ·obtain⟨j,c0,J,U,h5⟩:=(hg r e).2 er h
    refine⟨j+1,c0,J,U,λR f I=> ?_⟩;cases R with
    |nil=>simp at I
    |cons t' r'=>
     obtain⟨g1,_,g3⟩:=V6 (eN I).1;rw[key,g1,g3,jM hk];exact h5 r' f (eN I).2
   obtain⟨k,rfl,h1,h2⟩:=(hg r e).1 y x hy;refine⟨k+1,rfl,by simpa using h1,λR m f I=> ?_⟩;rcases Xz I with⟨rfl,J⟩|⟨t',r',t2,r2,m',rfl,J,rfl,U,h5⟩
   ·have hm:m=0:=by
     rcases J with J|J
     ·exact J
     ·cases J
    subst hm;exact⟨λh=>by omega,λ_=> .inl rfl⟩
   ·cases J
    obtain⟨g1,_,g3⟩:=V6 U;rw[key,g1,g3,jM hk];exact⟨λhm=>(h2 r' m' f h5).1 (by omega),λhm=>(h2 r' m' f h5).2 (by omega)⟩
  ·rw[jJ hk]
   obtain⟨g1,g2⟩:=h2 (t::r) e;refine⟨λy x hy=> ?_,λer h=> ?_⟩
   rotate_left
   ·obtain⟨j,c0,J,U,h5⟩:=g2 er h
    refine⟨j,c0,J,U,λR f I=> ?_⟩;cases R with
    |nil=>simp at I
    |cons t' r'=>
     obtain⟨q1,_,_⟩:=V6 (eN I).1;rw[key,q1,jJ hk];exact h5 _ f I
   obtain⟨k,hx,a0,ho⟩:=g1 y x hy;refine⟨k,hx,a0,λR m f I=> ?_⟩;have:=ho R m f I;rcases Xz I with⟨rfl,J⟩|⟨t',r',t2,r2,m',rfl,J,rfl,U,h5⟩
   ·exact this
   ·cases J
    obtain⟨q1,_,_⟩:=V6 U;rw[key,q1,jJ hk];exact this
theorem Ybm:pOp op1=pOpt (λt=>isW sMul [t]) (λ_=>5) 0:=by
 funext l e;cases l with
 |nil=>rfl
 |cons t r=>
  unfold pOp pOpt op1;dsimp only;rw[show isW sMul (t::r)=isW sMul [sT t] from rfl];split<;>rfl
theorem Ybn:pOp op2=pOpt (λt=>isW Zdi [t]||isW U0 [t]) (λt=>if isW Zdi [t] then 3 else 4) 0:=by
 funext l e;cases l with
 |nil=>rfl
 |cons t r=>
  unfold pOp pOpt op2;dsimp only;rw[show isW Zdi (t::r)=isW Zdi [sT t] from rfl,show isW U0 (t::r)=isW U0 [sT t] from rfl];by_cases I:isW Zdi [sT t]=ac
  ·simp[I]
  ·by_cases J:isW U0 [sT t]=ac
   ·simp[I,J]
   ·simp[I,J]
theorem Ymn:Gd (λa _=>a=0) (pOp op1):=by rw[Ybm];exact Z56 _ _ _
theorem Ymo:Gd (λa _=>a=0) (pOp op2):=by rw[Ybn];exact Z56 _ _ _
theorem Ymp(op:Int) (x y:Ex):Z9 (.mk op 0 0 0 0 0 [x,y])=max (Z9 x) (Z9 y)+1:=by simp[Z9,Zg0]
theorem Z6a(o:List Tok->Int×List Tok) (pf:PE) (k:Nat) (x:Ex) (op:Int):Xq o pf (k+1) x op=if op=0 then pR x else pB pf λy=>pB (pOp o) λop'=>Xq o pf k (.mk op 0 0 0 0 0 [x,y]) op':=by
 funext l e;rw[Xq];split
 ·rfl
 ·unfold pB pOp
  cases pf l e with
  |error I=>rfl
  |ok y=>rfl
theorem Znl(o:List Tok->Int×List Tok) (pf:PE) (k:Nat) (x:Ex):Xq o pf k x 0=pR x:=by
 cases k with
 |zero=>rfl
 |succ k=>rw[Z6a,jM rfl]
theorem Zbl{o:List Tok->Int×List Tok} {pf:PE}:∀{k:Nat} {x:Ex} {op:Int} {l:List Tok} {e:Int} {z:Ex} {y:PX},Xq o pf k x op l e= .ok (z,y)->Z9 x<=Z9 z
 |0,x,op,l,e,z,y,h=>by
  unfold Xq at h
  cases h
  exact av _
 |k+1,x,op,l,e,z,y,h=>by
  unfold Xq at h
  split at h
  ·cases h
   exact av _
  ·split at h
   ·cases h
   ·have:=Zbl h
    rw[Ymp] at this
    omega
theorem b_ok{α β:Type} {p:PP α} {q:α->PP β} {l:List Tok} {e:Int} {z:β×PX} (h:pB p q l e= .ok z):∃y x,p l e= .ok (y,x)/\q y x.1 x.2.1= .ok z:=by
 unfold pB at h;split at h
 ·cases h
 ·exact⟨_,_,by assumption,h⟩
theorem Z6b{o:List Tok->Int×List Tok} (J:Gd (λa _=>a=0) (pOp o)) (R:o []=(0,[])) {pf:PE} (h:Gd NeR pf):∀(k:Nat) (x:Ex) (op:Int),Gd NeR (Xq o pf k x op)
 |0,x,op=>gd_R _ x
 |k+1,x,op=>by
  rw[Z6a]
  split
  ·exact gd_R _ _
  ·refine gd_b h (λy=>gd_b J (λa0=>Z6b J R h k _ a0) ?_) ?_
   ·rintro op1 op2 l e z x2 rfl I f
    rw[Znl]
    exact .inr ⟨_,Zbl I,rfl⟩
   ·intro y y' l e z x2 U I f
    obtain⟨a0,x3,_,I⟩:=b_ok I
    have h1:=Zbl I
    refine .inr ⟨.mk op 0 0 0 0 0 [x,y'],?_,?_⟩
    ·have U:Z9 y'<=Z9 y:=U
     show Z9 _<=Z9 z
     rw[Ymp] at h1⊢
     omega
    ·unfold pB pOp
     rw[R]
     dsimp only
     rw[Znl]
     rfl
def pChN(o:List Tok->Int×List Tok) (pf:PE) (N:Nat):PE:=pB pf λy=>pB (pOp o) λop=>Xq o pf N y op
theorem Ymq{o:List Tok->Int×List Tok} (J:Gd (λa _=>a=0) (pOp o)) (R:o []=(0,[])) {pf:PE} (h:Gd NeR pf) (N:Nat):Gd NeR (pChN o pf N):=by
 unfold pChN;refine gd_b h (λy=>gd_b J (λop=>Z6b J R h N y op) ?_) ?_
 ·rintro op1 op2 l e z x2 rfl I f
  rw[Znl];exact .inr ⟨_,Zbl I,rfl⟩
 ·intro y y' l e z x2 hy I f
  obtain⟨a0,x3,_,I⟩:=b_ok I;have U:=Zbl I;refine .inr ⟨y',bS hy U,?_⟩;unfold pB pOp;rw[R];dsimp only;rw[Znl];rfl
theorem Yo7{o:List Tok->Int×List Tok} (I:∀l,(o l).2.length<=l.length) {pf:PE} (J:Shr pf) {N:Nat} {l:List Tok} (hl:l.length<N) (e:Int):pCh o pf l e=pChN o pf N l e:=by
 unfold pCh pChN pB pOp;cases R:pf l e with
 |error U=>rfl
 |ok y=>
  have h1:=J _ _ _ _ R;have h2:=I y.2.1;exact Zf3 I J _ _ _ _ _ _ (by omega) (by omega)
theorem Yin{β:Type} {rel:β->β->Prop} {p:PP β} (q:Nat->PP β) (U:∀N,Gd rel (q N)) (h:∀N l e,l.length<N->p l e=q N l e):Gd rel p:=by
 intro l e;have h1:=h (l.length+1) l e (dC _);rw[h1];refine⟨λy x hy=> ?_,λer h'=> ?_⟩
 rotate_left
 ·obtain⟨j,c0,h3,h4,h5⟩:=(U _ l e).2 er h'
  refine⟨j,c0,h3,h4,λI f J=> ?_⟩;have R:=kk aa J;rw[cK,cK] at R;rw[h (l.length+1) I f (by omega)];exact h5 I f J
 obtain⟨k,hx,hk,ho⟩:=(U _ l e).1 y x hy;refine⟨k,hx,hk,λI m f J=> ?_⟩;have R:I.length<=l.length:=by
  have:=kk aa J;rw[cK,bi,cK] at this;omega
 rw[h (l.length+1) I f (by omega)];exact ho I m f J
theorem Ymr{o:List Tok->Int×List Tok} (J:∀l,(o l).2.length<=l.length) (R:Gd (λa _=>a=0) (pOp o)) (U:o []=(0,[])) {pf:PE} (hp:Shr pf) (h:Gd NeR pf):Gd NeR (pCh o pf):=
 Yin (pChN o pf) (Ymq R U h) λN l e I=>Yo7 J hp I e
theorem gd_E:∀n,Gd NeR (pE n)
 |0=>Zaq _
 |n+1=>by
  unfold pE
  exact Ymr Zwv Ymo rfl (Zdj Zfw (Ul (Zap n))).shr (Ymr Zwu Ymn rfl (Zni (Zap n)) (Ymm (gd_E n)))
theorem gd_X:Gd NeR pX:=Yin pE gd_E λN l e I=>(Yec N l e I).symm
theorem Yms(nm:List Nat) (ts:List Tst):pPay nm ts=pIf [112,97,121] (pBc pX (λx=>decide (24<Z9 x)) 2 λx=>pIf [59] (pR ⟨nm,ts,x⟩) pSyn) pSyn:=by
 funext l e;unfold pPay pIf pBc pSyn;split
 ·cases pX l.tail e with
  |error I=>rfl
  |ok y=>
   dsimp only;by_cases h:24<Z9 y.1
   ·rw[jM h,jM (jq h)]
   ·rw[jJ h,jJ (show¬decide (24<Z9 y.1)=ac by simpa using h)]
    rfl
 ·rfl
theorem Yej(nm:List Nat) (ts:List Tst):Gd NoR (pPay nm ts):=by
 rw[Yms];refine Zau (Ybk gd_X (λx=>Zau (gd_R _ _) (Zaq _) λ_ _ _ _ _ f=> .inl rfl) (by simp) ?_ λ_ _ _ _ _ _ _ _ f=> .inl rfl) (Zaq _) λ_ _ _ _ _ f=> .inl rfl;intro y J h I;have h:Z9 J<=Z9 y:=h;rw[fG] at I⊢;omega
theorem Z6c(bs:List Cls):Yj bs=pBc Zav (λnm=>bs.any λb=>b.name==nm) 161 λnm=>pIf [119,104,101,110] (pB (pTs 10 ac []) λts=>pPay nm ts) (pPay nm []):=by
 funext l e;unfold Yj pBc pIf pB;cases Zav l e with
 |error R=>rfl
 |ok y=>
  dsimp only;by_cases J:(bs.any λb=>b.name==y.1)=ac
  ·rw[jM J,jM J]
  ·rw[jJ J,jJ J]
   by_cases I:isW [119,104,101,110] y.2.1=ac
   ·rw[jM I,jM I,I]
    unfold pAft;cases pTs 10 ac [] y.2.1.tail y.2.2.1 with
    |error R=>rfl
    |ok z=>rfl
   ·rw[jJ I,jJ I]
    rw[Bool.not_eq_true] at I;rw[I,Yij];rfl
theorem Z6d(nm:List Nat) (ts:List Tst) (f:Int):pPay nm ts [] f= .error (f,160):=rfl
theorem Z6e(bs:List Cls):Gd NoR (Yj bs):=by
 rw[Z6c];refine Ybk Z59 (λnm=>Zau (gd_b (Yik _ _ _) (λts=>Yej _ _) λ_ _ _ _ _ _ _ _ f=> .inl (Z6d _ _ _)) (Yej _ _) λ_ _ _ _ _ f=> .inl (Z6d _ _ _)) (by simp) (λ_ _ h=>h.elim) (λ_ _ _ _ _ _ h=>h.elim)
theorem Ymt(k:Nat) (cs:List Cls) (h:cs.length≠64):pCls (k+1) cs=pIf [99,108,97,117,115,101] (pB (Yj cs) λc=>pCls k (cs++ [c])) (pR cs):=by
 funext l e;rw[pCls];unfold pIf pB;split
 ·cases Yj cs l.tail e with
  |error I=>rfl
  |ok y=>rfl
 ·rfl
theorem Yek:∀(k:Nat) (cs:List Cls),Gd AnyR (pCls k cs)
 |0,cs=>gd_R _ cs
 |k+1,cs=>by
  by_cases h:cs.length=64
  ·intro l e
   rw[pCls,jM h]
   cases R:isW [99,108,97,117,115,101] l with
   |true=>
    rw[jM rfl]
    refine⟨λy x h=>(by cases h),λU h'=> ?_⟩
    cases h'
    refine .hd (by simp) λJ f I=> ?_
    have:isW [99,108,97,117,115,101] J=true:=by
     cases J with
     |nil=>
      cases l with
      |nil=>cases R
      |cons t r=>simp at I
     |cons t' r'=>
      cases l with
      |nil=>simp at I
      |cons t r=>
       rw[Zqr (r:=r) (eN I).1]
       exact R
    rw[pCls,jM h,this,jM rfl]
   |false=>
    rw[jJ bK]
    refine⟨λy x hy=> ?_,λU h=>(by cases h)⟩
    cases hy
    refine⟨0,rfl,aW _,λJ m f I=>⟨λ_=> ?_,λh=>by omega⟩⟩
    have:isW [99,108,97,117,115,101] J=false:=by
     rcases Xz I with⟨rfl,_⟩|⟨t',r',t,r,m',rfl,rfl,rfl,h4,h5⟩
     ·rfl
     ·rw[Zqr (r:=r) h4]
      exact R
    rw[pCls,this,jJ bK]
    rfl
  ·rw[Ymt k cs h]
   refine Zau (gd_b (Z6e cs) (λc=>Yek k _) (λ_ _ _ _ _ _ h=>h.elim)) (gd_R _ _) λ_ _ _ _ _ f=> .inr ⟨cs,jX,rfl⟩
theorem Zqt:∀(k I:Nat) (cs:List Cls) (l:List Tok) (e:Int),l.length<k->l.length<I->pCls k cs l e=pCls I cs l e
 |0,_,_,_,_,h,_=>by omega
 |_+1,0,_,_,_,_,h=>by omega
 |k+1,I+1,cs,l,e,h,h'=>by
  unfold pCls
  split
  ·rename_i R
   split
   ·rfl
   ·have h1:=Zw R
    cases J:Yj cs l.tail e with
    |error U=>rfl
    |ok y=>
     have h2:=Zad J
     exact Zqt k I _ _ _ (by omega) (by omega)
  ·rfl
def pEof(t:Tar):PP Tar:=λl e=>if 0<l.length then .error (hdT e l,160) else .ok (t,l,e,())
theorem Ymu(t:Tar):Gd NoR (pEof t):=by
 intro l e;unfold pEof;split
 ·rename_i h0
  refine⟨λy x h=>(by cases h),λR h=> ?_⟩;cases h;refine .hd (by simp) λJ f I=> ?_;have U:=kk aa I;rw[cK,cK] at U;show(if 0<J.length then _ else _)=_;rw[jM (by omega)]
 ·rename_i I
  have:l= []:=cH (by omega);subst this;refine⟨λy x hy=> ?_,λR h=>(by cases h)⟩;cases hy;refine⟨0,rfl,aW _,λJ m f I=>⟨λ_=> ?_,λh=>by omega⟩⟩;have:J= []:=Zah I;subst this;rfl
def Z6f(N:Nat):PP Tar:=pIf [116,97,114,105,102,102] (pB Zav λnm=>pIf [102,111,114] (pB (Yy gw.words) λk=>pIf [123] (pB (pCls N []) λcs=>pIf [125] (pEof ⟨nm,wr .i64 (1+k),cs⟩) pSyn) pSyn) pSyn) pSyn
theorem Yio(N:Nat):Gd NoR (Z6f N):=by
 unfold Z6f;refine Zau (gd_b Z59 (λnm=>Zau (gd_b (Znk _) (λk=>Zau (gd_b (Yek _ _) (λcs=>Zau (Ymu _) (Zaq _) λ_ _ _ _ _ f=> .inl rfl) ?_) (Zaq _) λ_ _ _ _ _ f=> .inl rfl) (λ_ _ _ _ _ _ h=>h.elim)) (Zaq _) λ_ _ _ _ _ f=> .inl rfl) (λ_ _ _ _ _ _ h=>h.elim)) (Zaq _) λ_ _ _ _ _ f=> .inl rfl;exactλ_ _ _ _ _ _ _ _ f=> .inl rfl
theorem Yel(N:Nat) (l:List Tok) (e:Int) (h:l.length<N):pTar l e=Z6f N l e:=by
 unfold pTar Z6f pIf pB pSyn;split
 ·rename_i U
  have h1:=Zw U;cases R:Zav l.tail e with
  |error I=>rfl
  |ok y=>
   have h2:=U3 R;dsimp only;split
   ·rename_i a0
    have h3:=Zw a0;cases J:Yy gw.words y.2.1.tail y.2.2.1 with
    |error I=>rfl
    |ok z=>
     obtain⟨_,_,hz⟩:=U8 J;have h4:z.2.1.length<=y.2.1.tail.length:=by
      rw[hz];show y.2.1.tail.tail.length<=_;rw[dP (l:=y.2.1.tail)];omega
     dsimp only;split
     ·rename_i a1
      have h5:=Zw a1;rw[Zqt (z.2.1.tail.length+1) N [] z.2.1.tail z.2.2.1 (by omega) (by omega)];cases pCls N [] z.2.1.tail z.2.2.1 with
      |error I=>rfl
      |ok u=>rfl
     ·rfl
   ·rfl
 ·rfl
theorem Ymv:Gd NoR pTar:=Yin Z6f Yio Yel
end
section
open Go
def TkG(t:Tok):Prop:=TokW t.text/\sT t=tkS t.text/\(t.kind=1->V5 t.text=ac)/\(t.kind=2->0<=t.n/\t.n<=1099511627776)
def LxOk(l:List Tok):Prop:=∀t∈l,TkG t
theorem LxOk.drop{l:List Tok} (h:LxOk l) (k:Nat):LxOk (l.drop k):=λt I=>h t (List.mem_of_mem_drop I)
theorem LxOk.tail{l:List Tok} (h:LxOk l):LxOk l.tail:=λt I=>h t (List.mem_of_mem_tail I)
section
variable {α β:Type}
end
theorem Zp2(s:List (List Nat)) (c:Cls) (r:List Cls):CsOk s (c::r)=(Wz c=ac/\resF c.name=ab/\c.name∉s/\c.when_.length<=8/\Z9 c.pay<=24/\CsOk (c.name::s) r):=rfl
end
section
open Go
def En{I:Type} (p:PP I):Prop:=∀l e y x,p l e= .ok (y,x)->x.1= []
theorem Zxi{I:Type}:En (pSyn:PP I):=λl e y x h=>by cases h
theorem en_b{α U:Type} {p:PP α} {q:α->PP U} (J:∀y,En (q y)):En (pB p q):=λl e y x h=>by
 obtain⟨R,x1,_,I⟩:=b_ok h;exact J R _ _ _ _ I
theorem Ycw{R:Type} {s:List Nat} {A B:PP R} (I:En A) (J:En B):En (pIf s A B):=λl e y x h=>by
 unfold pIf at h;split at h
 ·exact I _ _ _ _ h
 ·exact J _ _ _ _ h
theorem Yno(t:Tar):En (pEof t):=λl e y x h=>by
 unfold pEof at h;split at h
 ·cases h
 ·rename_i I
  cases h;exact cH (Nat.le_zero.1 (Nat.le_of_not_lt I))
theorem Ynp:En pTar:=λl e y x h=>by
 rw[Yel _ l e (dC _)] at h;exact Ycw (en_b λnm=>Ycw (en_b λk=>Ycw (en_b λcs=>Ycw (Yno _) Zxi) Zxi) Zxi) Zxi l e y x h
theorem Yjs{l:List Tok} {e:Int} {t:Tar} {x:PX} (h:pTar l e= .ok (t,x)):(∀I f,I.map sT=l.map sT->pTar I f= .ok (t,[],f,()))/\∀I m f,m<l.length->I.map sT=(l.map sT).take m->pTar I f= .error (f,160):=by
 have hn:=Ynp l e t x h;obtain⟨k,rfl,hk,R⟩:=(Ymv l e).1 t x h;have a1:l.length<=k:=by
  have:=kk aa hn;rw[cU] at this;simp at this;omega
 have U:k=l.length:=by omega
 subst U;refine⟨λI f J=> ?_,λI m f hm J=> ?_⟩
 ·have a0:=kk aa J
  rw[cK,cK] at a0;rw[(R I l.length f (Ze0 J)).1 (av _),bL (by omega)]
 ·rcases(R I m f J).2 hm with h|⟨y',h,_⟩
  ·exact h
  ·exact h.elim
def AllW(ws:List (List Nat)):Prop:=∀w∈ws,TokW w
theorem Un{a b:List (List Nat)} (I:AllW a) (J:AllW b):AllW (a++b):=λw R=>(cf.1 R).elim (I w) (J w)
theorem Zj{w:List Nat} {b:List (List Nat)} (I:TokW w) (J:AllW b):AllW (w::b):=λx R=>(aH.1 R).elim (λe=>e▸I) (J x)
theorem Yr:AllW []:=λw I=>by cases I
theorem tw{w:List Nat} (I:(tokP w).2=0) (J:(tokP w).1.text=w) (R:w≠ []):TokW w:=⟨I,J,R⟩
theorem Zuh:TokW X7:=tw rfl rfl (by decide)
theorem Zn0:TokW Ye:=tw rfl rfl (by decide)
theorem Zn1:TokW Yh:=tw rfl rfl (by decide)
theorem Yjt:TokW Ze3:=tw rfl rfl (by decide)
theorem Yju:TokW Zhu:=tw rfl rfl (by decide)
theorem Yjv:TokW Zdi:=tw rfl rfl (by decide)
theorem Ycx:TokW U0:=tw rfl rfl (by decide)
theorem Ynq:TokW sMul:=tw rfl rfl (by decide)
theorem Yjw:TokW Zef:=tw rfl rfl (by decide)
theorem Ypo:TokW sLb:=tw rfl rfl (by decide)
theorem Ypp:TokW sRb:=tw rfl rfl (by decide)
theorem Ypq:TokW sIf:=tw rfl rfl (by decide)
theorem Yet:TokW sPer:=tw rfl rfl (by decide)
theorem Ypr:TokW sIs:=tw rfl rfl (by decide)
theorem Yps:TokW sIn:=tw rfl rfl (by decide)
theorem Ynr:TokW sPay:=tw rfl rfl (by decide)
theorem Yns:TokW sFor:=tw rfl rfl (by decide)
theorem Z7n:TokW Zhv:=tw rfl rfl (by decide)
theorem Z7o:TokW W2:=tw rfl rfl (by decide)
theorem Yjx:TokW Zif:=tw rfl rfl (by decide)
theorem Ynt:TokW sAnd:=tw rfl rfl (by decide)
theorem Zrd{k:WK} {i:Nat} (h:i<k.words.length):TokW (k.words.getD i []):=Zia (Zmo h)
theorem Ynu{a b c d:Int} (h:Zc0 [a,b,c,d]=ac):AllW (txU [a,b,c,d]):=by
 rcases unF h with⟨_,I⟩|⟨i,hi,_,I⟩|⟨j,J,_,I⟩|⟨i,hi,j,J,_,I⟩
 ·rw[I];exact Yr
 ·rw[I];exact Zj (Zrd (k:= .un) hi) Yr
 ·rw[I];exact Zj Yet (Zj (Zrd (k:= .un) J) Yr)
 ·rw[I];exact Zj (Zrd (k:= .un) hi) (Zj Yet (Zj (Zrd (k:= .un) J) Yr))
theorem Zxj{op least:Int} {t:List (List Nat)} (h:AllW t):AllW (par op least t):=by
 unfold par;split
 ·exact h
 ·exact Zj Zuh (Un h (Zj Zn0 Yr))
theorem Z7p:∀{ts:List (List (List Nat))} {I:List (List Nat)},(∀t∈ts,AllW t)->AllW I->AllW (txS ts I)
 | [],_,_,_=>by unfold txS;exact Yr
 |t::r,[],_,_=>by unfold txS;exact Yr
 |t::r,s::I,J,R=>by
  unfold txS
  exact Un (J t (by simp)) (Zj (R s (by simp)) (Z7p (λt U=>J t (by simp[U])) λw hw=>R w (by simp[hw])))
theorem Z7q:∀{l:List Ex} {t:List (List Nat)},t∈txL l->∃x∈l,t=txX x
 | [],t,h=>by cases h
 |x::r,t,h=>by
  unfold txL at h
  rcases aH.1 h with rfl|h
  ·exact⟨x,by simp,rfl⟩
  ·obtain⟨y,I,e⟩:=Z7q h
   exact⟨y,by simp[I],e⟩
theorem Ynv:∀(x:Ex),Zn x=ac->AllW (txX x):=by
 suffices H:∀(m:Nat) (x:Ex),x.sz<=m->Zn x=ac->AllW (txX x) fromλx=>H _ x (av _)
 intro m
 induction m with
 |zero=>intro x h;have:=x.sz_pos;omega
 |succ m ih=>
  intro x hm R;rw[Zcn,aq] at R;obtain⟨hh,hl⟩:=R;have a0:∀y∈x.l,AllW (txX y):=λy hy=>ih y (by have:=Ex.sz_mem hy;omega) (formL_iff.1 hl y hy);obtain⟨op,n,a,b,c,d,l⟩:=x;simp only[aM,bX,Ex.u,bD,bE,bF,bG,bw] at hh a0;obtain⟨h1,h2,h3,J,h5,h6,h7⟩:=Zf4 hh;have I:∀t∈txL l,AllW t:=by
   intro t ht;obtain⟨x,hx,rfl⟩:=Z7q ht;exact a0 x hx
  have U:∀i,AllW ((txL l).getD i []):=by
   intro i;by_cases hi:i<(txL l).length
   ·have:(txL l).getD i []=(txL l)[i]:=by simp[ah,hi]
    rw[this];exact I _ (iJ hi)
   ·have:(txL l).getD i []= []:=by simp[ah,hi]
    rw[this];exact Yr
  rw[txX];unfold txN;split
  ·rename_i q
   subst q;exact Zj (Zg6 h3 J) (Ynu h6)
  ·split
   ·rename_i q
    subst q;have:n<=15:=J;exact Zj (Zrd (k:= .at_) (show n.toNat<16 by omega)) Yr
   ·split
    ·exact Zj Ypq (Zj Zuh (Z7p I (Zj Yjt (Zj Zn1 (Zj Zn1 (Zj Zn0 Yr))))))
    ·split
     ·refine Un (Zxj (U 0)) (Zj ?_ (Zxj (U 1)))
      unfold sgnO;split
      ·exact Yjv
      ·split
       ·exact Ycx
       ·exact Ynq
     ·exact Zj (Zrd (k:= .ca) (show(op-6).toNat<5 by omega)) (Zj Zuh (Z7p I (Zj Zn1 (Zj Zn0 Yr))))
theorem Ynw{w:Tst} (h:Ym w=ac):AllW (txW w):=by
 obtain⟨a0,a1,I,J,R,U⟩:=Zbo h;unfold txW;refine Zj (Zrd (k:= .at_) (show w.attr.toNat<16 by omega)) ?_;split
 ·exact Zj Ypr (Zj (Zg6 I J) Yr)
 ·exact Zj Yps (Zj (Zg6 I J) (Zj Yjw (Zj (Zg6 R U) Yr)))
theorem Z7r:∀{ws:List Tst} (i:Nat),(∀w∈ws,Ym w=ac)->AllW (txTs i ws)
 | [],_,_=>Yr
 |w::r,i,h=>by
  rw[Zjw]
  refine Zj ?_ (Un (Ynw (h w (by simp))) (Z7r _ λw I=>h w (by simp[I])))
  split
  ·exact Yjx
  ·exact Ynt
theorem Ynx{c:Cls} (h:Wz c=ac):AllW (txC c):=by
 obtain⟨I,J,R⟩:=V8 h;exact Zj Z7o (Zj (Zia I) (Un (Z7r _ R) (Zj Ynr (Un (Ynv _ J) (Zj Yju Yr)))))
theorem Z7s:∀{cs:List Cls} {s:List (List Nat)},CsOk s cs->AllW (txCs cs)
 | [],_,_=>Yr
 |c::r,s,h=>by
  rw[Zp2] at h
  rw[Zjx]
  exact Un (Ynx h.1) (Z7s h.2.2.2.2.2)
theorem Zxk{t:Tar} (h:Z8 t=0):AllW (Zas t):=by
 obtain⟨I,R,U,h4,h5,J⟩:=(V7 t).1 h;exact Zj Z7n (Zj (Zia I) (Zj Yns (Zj (Zrd (k:= .ki) (show(t.for_-1).toNat<6 by omega)) (Zj Ypo (Un (Z7s J) (Zj Ypp Yr))))))
theorem Ypt(ws:List (List Nat)):(TS ws).map sT=TS ws:=by
 rw[kV];rfl
theorem Ycy{s:List Nat} {l:List Tok} (h:Lx s 0 l) (I:s.length<=2000):Xk s=outT (pTar l s.length):=by
 unfold Xk;rw[Z1z h I,jJ (by simp)]
theorem Zui{s:List Nat} {l:List Tok} (h:Lx s 0 l) (R:s.length<=2000) {I:List Tok} {e:Int} {t:Tar} {x:PX} (U:pTar I e= .ok (t,x)) (J:l.map sT=I.map sT):Xk s=(t,0,0):=by
 rw[Ycy h R,(Yjs U).1 l s.length J];rfl
theorem Zj0{t:Tar} (h:Z8 t=0) (I:(Vm (Zas t)).length<=2000):Xk (Vm (Zas t))=(t,0,0):=by
 refine Zui (Z10 0 (Zxk h)) I (Yck h 0) ?_;rw[Ydo,Ypt]
theorem Z0n{t:Tar} (h:Z8 t≠0):X9 t=([],Z8 t):=by
 unfold X9;rw[jM h]
theorem Zre{t:Tar} (h:(X9 t).2=0):Z8 t=0/\(Vm (Zas t)).length<=2000/\X9 t=(Vm (Zas t),0):=by
 unfold X9 at h⊢;split at h
 ·rename_i I
  exact ka h I
 ·rename_i I
  split at h
  ·cases h
  ·rename_i J
   rw[jJ I,jJ J];exact⟨by simpa using I,by omega,rfl⟩
end
section
open Go
structure PcX where
 k:Nat
 r:Nat
 L:List (List Nat)
 fz:Nat
def cOfP(h:Hp thy) (v:SV thy):Nat:=match h (bOf v) with|some (.raw (.sl c _ _ _ _::_) _ _)=>c|_=>0
noncomputable def Apc:Fr thy->Hp thy->Nat->Ann thy:=λT h i=>{X:=PcX,fr:=λx=> [(0,T 0),(3,T 3),(12,T 12),(13,T 13),(14,.int ab .i64 x.k)],bl:=λx=>(bOf (T 0),.raw [.sl i 0 x.L.length 1 au] 0 au)::(i,.rows du x.L x.fz)::blkP h (T 3),src:=λx=> [(i,1000)],md:= [bOf (T 0),cOfP h (T 0)],ih:=i+1,M:=i+60,meas:=λx=>x.r}
noncomputable def Fpc:Fns thy:=addL (addS Fpu 71 (Sxp 1000000000)) 37 3 Apc E
def clA(c:Cls):SV thy:= .agg (encF ab .clauses c)
abbrev Zf8(c:Cls):Prop:=
 aK c=aK c/\(aT c=aT c/\(ab=ac->ab=ac))/\aM (ay c)=aM (ay c)/\bX (ay c)=bX (ay c)/\bD
 (ay c)=bD (ay c)/\bE (ay c)=bE (ay c)/\bF (ay c)=bF (ay c)/\bG (ay c)=bG (ay c)/\(bw (ay c)=bw
 (ay c)/\(ab=ac->ab=ac))/\True
abbrev Zke(c:Cls) (x:PcX) (I:PcX):Prop:=
 (0:Nat)=(0:Nat)/\(0:Nat)=(0:Nat)/\(aT c=aT c/\(ab=ac->ab=ac))/\(↑(aa (aT c)):Int)=(↑(aa (aT c))
 :Int)/\wr ag ((↑(PcX.k x):Int)+(1:Int))=(↑(PcX.k I):Int)/\True
abbrev Zkf(c:Cls):=
 (bV (aM (ay c)) (bX (ay c)) (bD (ay c)) (bE (ay c)) (bF (ay c)) (bG (ay c)) (bw (ay c)))
abbrev Zu0(x:PcX) (I:List Nat):Prop:=
 aa (PcX.L x)+(2:Nat)<=aa (aw (aa (PcX.L x)) (PcX.L x)++ [[(119:Nat),(104:Nat),(101:Nat),(110:Nat)],I])/\PcX.fz x<=
 aa (PcX.L x)+(2:Nat)/\(aa (PcX.L x)+(2:Nat)+(1:Nat))*(16:Nat)<=(140737488355328:Nat)
abbrev Zu1(x:PcX) (I:List Nat):Prop:=
 aa (PcX.L x)+(2:Nat)<=aa (aw (aa (PcX.L x)) (PcX.L x)++ [[(97:Nat),(110:Nat),(100:Nat)],I])/\PcX.fz x<=aa (PcX.L x)
 +(2:Nat)/\(aa (PcX.L x)+(2:Nat)+(1:Nat))*(16:Nat)<=(140737488355328:Nat)
abbrev Zkg(x:PcX):=
 (aw (aa (PcX.L x)) (PcX.L x)++ [[(112:Nat),(97:Nat),(121:Nat)]])
abbrev Zkh(I:Tst):Prop:=
 (0:Int)<=fA I/\fA I+(1:Int)<=(10000000000000:Int)
abbrev Zki(x:PcX):=
 (aa (PcX.L x)+(2:Nat)+(1:Nat)+(1:Nat)+(1:Nat))
abbrev Zu2(x:PcX):Prop:=
 aa (PcX.L x)<=aa (PcX.L x)/\PcX.fz x<=aa (PcX.L x)/\(aa (PcX.L x)+(2:Nat))*(16:Nat)<=(140737488355328:Nat)
abbrev Zu3(x:PcX) (I:PcX):Prop:=
 ((0:Nat)=(0:Nat)/\aa (PcX.L x)+(2:Nat)+(1:Nat)+(1:Nat)+(1:Nat)+(1:Nat)=aa (PcX.L I)/\True)/\True
abbrev Zoe(x:PcX) (I:PcX):Prop:=
 ((0:Nat)=(0:Nat)/\aa (PcX.L x)+(2:Nat)+(1:Nat)+(1:Nat)=aa (PcX.L I)/\True)/\True
abbrev qCT7(I:PcX) (J:List Nat):=(aw (aa (PcX.L I)) (PcX.L I)++ [[(119:Nat),(104:Nat),(101:Nat),(110:Nat)],J])
abbrev qCT8:=(2:Nat)
abbrev qCTc(I:PcX):=(aa (PcX.L I)+qCT8)
abbrev qCT1(I:PcX) (J:List Nat):=(aw (qCTc I) (qCT7 I J)++ [[(105:Nat),(110:Nat)]])
abbrev qCT9(I:PcX) (J:List Nat):=(aw (aa (PcX.L I)) (PcX.L I)++ [[(97:Nat),(110:Nat),(100:Nat)],J])
abbrev qCT2(I:PcX) (J:List Nat):=(aw (qCTc I) (qCT9 I J)++ [[(105:Nat),(110:Nat)]])
abbrev qCT3:=(1:Nat)
abbrev qCT4(I:PcX):=(aa (PcX.L I)+qCT8+qCT3+qCT3)
abbrev qCT5(I:PcX):=(aa (PcX.L I)+qCT8+qCT3)
abbrev qCT6:=(140737488355328:Nat)
abbrev qCTa(I:Cls):=(↑(aa (aT I)):Int)
abbrev qCTb(I:PcX):=(↑(PcX.k I):Int)
abbrev qCTd(I:PcX):=(ae (aw (aa (PcX.L I)) (PcX.L I)++ [[(112:Nat),(97:Nat),(121:Nat)]],PcX.fz I))
abbrev qCTe:=(16:Nat)
abbrev qCTf:=(1:Int)
abbrev qCTg(I:Tst):=((0:Int)<=fB I/\fB I+qCTf<=(10000000000000:Int))
abbrev qCTh:=(0:Nat)
theorem Z8i(l:List (List Nat)) (fz:Nat) (c:Cls) (l':List (List Nat)):Zk E Fpc (vc E Fpc 400) 37 [.ptr 0 0,clA c] (hpP E du (ae (l,fz))) 2 (prnK E du (ae (l,fz)) l')=(
 (aa l<=aa l/\fz<=aa l/\(aa l+qCT8)*qCTe<=qCT6)/\∃(R:PcX->Prop),(∃(x:PcX),R x/\ac=ac/\(qCTh=qCTh/\qCTh=qCTh/\(aT c=aT c/\(ab=ac->ab=ac))/\(qCTa c)=(qCTa c)/\0=(qCTb x)/\True)/\((qCTh=qCTh/\aa l+qCT8=aa (PcX.L x)/\True)/\True)/\(aw (aa l) l++ [[99,108,97,117,115,101],aK c]=PcX.L x/\fz=PcX.fz x)/\(Zf8 c)/\True)/\∀(x:PcX),R x->(decide ((qCTb x)<(qCTa c))=ac->0<=(qCTb x)/\(qCTb x)+qCTf<=(qCTa c)/\∀(I:Tst),(aT c)[af (qCTb x)]? =ae I->0<=mm2 ab (qCTb x) qCTf/\mm2 ab (qCTb x) qCTf+qCTf<=(↑qCT8:Int)/\((mm2 ab (qCTb x) qCTf==(↑qCTh:Int))=ac->0<=eo I/\eo I+qCTf<=(↑(aa (dL dK)):Int)/\∀(U:List Nat),(dL dK)[af (eo I)]? =ae U->(Zu2 x)/\((fA I==fB I)=ac->(Zu0 x U)/\(Zkh I)/\∀(y:List Nat),y=decN (fA I)->(aa (PcX.L x)+qCT8+qCT3<=aa (aw (qCTc x) (qCT7 x U)++ [[105,115]])/\PcX.fz x<=aa (PcX.L x)+qCT8+qCT3/\(qCT4 x)*qCTe<=qCT6)/\∃(J:PcX),R J/\J.2+qCT3<=x.2/\ac=ac/\(Zke c x J)/\(Zoe x J)/\(aw (qCT5 x) (aw (qCTc x) (qCT7 x U)++ [[105,115]])++ [y]=PcX.L J/\PcX.fz x=PcX.fz J)/\(Zf8 c)/\True)/\((fA I==fB I)=ab->(Zu0 x U)/\(Zkh I)/\∀(y:List Nat),y=decN (fA I)->(aa (PcX.L x)+qCT8+qCT3<=aa (qCT1 x U)/\PcX.fz x<=aa (PcX.L x)+qCT8+qCT3/\(qCT4 x)*qCTe<=qCT6)/\(aa (PcX.L x)+qCT8+qCT3+qCT3<=aa (aw (qCT5 x) (qCT1 x U)++ [y])/\PcX.fz x<=aa (PcX.L x)+qCT8+qCT3+qCT3/\(Zki x)*qCTe<=qCT6)/\(qCTg I)/\∀(a1:List Nat),a1=decN (fB I)->(aa (PcX.L x)+qCT8+qCT3+qCT3+qCT3<=aa (aw (qCT4 x) (aw (qCT5 x) (qCT1 x U)++ [y])++ [[46,46]])/\PcX.fz x<=aa (PcX.L x)+qCT8+qCT3+qCT3+qCT3/\(aa (PcX.L x)+qCT8+qCT3+qCT3+qCT3+qCT3)*qCTe<=qCT6)/\∃(J:PcX),R J/\J.2+qCT3<=x.2/\ac=ac/\(Zke c x J)/\(Zu3 x J)/\(aw (Zki x) (aw (qCT4 x) (aw (qCT5 x) (qCT1 x U)++ [y])++ [[46,46]])++ [a1]=PcX.L J/\PcX.fz x=PcX.fz J)/\(Zf8 c)/\True))/\((mm2 ab (qCTb x) qCTf==(↑qCTh:Int))=ab->((mm2 ab (qCTb x) qCTf==(↑(qCTh+qCT3):Int))=ac->0<=eo I/\eo I+qCTf<=(↑(aa (dL dK)):Int)/\∀(U:List Nat),(dL dK)[af (eo I)]? =ae U->(Zu2 x)/\((fA I==fB I)=ac->(Zu1 x U)/\(Zkh I)/\∀(y:List Nat),y=decN (fA I)->(aa (PcX.L x)+qCT8+qCT3<=aa (aw (qCTc x) (qCT9 x U)++ [[105,115]])/\PcX.fz x<=aa (PcX.L x)+qCT8+qCT3/\(qCT4 x)*qCTe<=qCT6)/\∃(J:PcX),R J/\J.2+qCT3<=x.2/\ac=ac/\(Zke c x J)/\(Zoe x J)/\(aw (qCT5 x) (aw (qCTc x) (qCT9 x U)++ [[105,115]])++ [y]=PcX.L J/\PcX.fz x=PcX.fz J)/\(Zf8 c)/\True)/\((fA I==fB I)=ab->(Zu1 x U)/\(Zkh I)/\∀(y:List Nat),y=decN (fA I)->(aa (PcX.L x)+qCT8+qCT3<=aa (qCT2 x U)/\PcX.fz x<=aa (PcX.L x)+qCT8+qCT3/\(qCT4 x)*qCTe<=qCT6)/\(aa (PcX.L x)+qCT8+qCT3+qCT3<=aa (aw (qCT5 x) (qCT2 x U)++ [y])/\PcX.fz x<=aa (PcX.L x)+qCT8+qCT3+qCT3/\(Zki x)*qCTe<=qCT6)/\
(qCTg I)/\∀(a1:List Nat),a1=decN (fB I)->(aa (PcX.L x)+qCT8+qCT3+qCT3+qCT3<=aa (aw (qCT4 x) (aw (qCT5 x) (qCT2 x U)++ [y])++ [[46,46]])/\PcX.fz x<=aa (PcX.L x)+qCT8+qCT3+qCT3+qCT3/\(aa (PcX.L x)+qCT8+qCT3+qCT3+qCT3+qCT3)*qCTe<=qCT6)/\∃(J:PcX),R J/\J.2+qCT3<=x.2/\ac=ac/\(Zke c x J)/\(Zu3 x J)/\(aw (Zki x) (aw (qCT4 x) (aw (qCT5 x) (qCT2 x U)++ [y])++ [[46,46]])++ [a1]=PcX.L J/\PcX.fz x=PcX.fz J)/\(Zf8 c)/\True))/\((mm2 ab (qCTb x) qCTf==(↑(qCTh+qCT3):Int))=ab->True)))/\(decide ((qCTb x)<(qCTa c))=ab->(aa (PcX.L x)<=aa (PcX.L x)/\PcX.fz x<=aa (PcX.L x)/\(aa (PcX.L x)+qCT3)*qCTe<=qCT6)/\(aa (PcX.L x)+qCT3=aa (Zkg x)/\PcX.fz x<=aa (Zkg x)/\cW (Zkf c)+qCT3<=1000000000/\Zn (Zkf c)=ac/\qCT3<=aa (Zkg x)/\aa (Zkg x)+8*cW (Zkf c)+8<=1000000000)/\∀(a0:List (List Nat)),a0=aw (aa (PcX.L x)) (PcX.L x)++ [[112,97,121]]++txX (Zkf c)->(aa a0<=aa a0/\fzO (qCTd x)<=aa a0/\(aa a0+qCT3)*qCTe<=qCT6)/\aw (aa a0) a0++ [[59]]=l'/\aa a0+qCT3=aa l'/\fzO (qCTd x)=fzO (ae (l,fz)))):=by kernel_rfl
theorem Zru:∀(a:List Tst) (i:Nat) (w:Tst),txTs i (a++ [w])=txTs i a++((if a.length+i=0 then Zif else sAnd)::txW w)
 | [],i,w=>by simp[txTs]
 |x::r,i,w=>by
  rw[cd]
  simp only[txTs]
  rw[Zru r (i+1) w]
  have e:(r.length+(i+1)=0)=((x::r).length+i=0):=by simp
  simp only[e,be,cd]
theorem Ykh(w:Tst):(txW w).length<=5:=by
 unfold txW;split<;>simp
theorem Zof:∀(l:List Tst) (i:Nat),(txTs i l).length<=6*l.length
 | [],_=>by simp[txTs]
 |w::r,i=>by
  have:=Zof r (i+1)
  have:=Ykh w
  simp[txTs]
  omega
def PclP(l:List (List Nat)) (c:Cls):Prop:=Wz c=ac/\c.pay.sz<1000000000/\1<=l.length/\l.length+8*c.pay.sz+6*c.when_.length+20<=1000000000
theorem Yn6:FnsOk E Fpc:=Zm E_ok (Zb Zws (Z5k (Zxa 1000000000))) _ _ _
theorem Yki(c:Cls) (l:List (List Nat)) (fz:Nat) (hf:fz<=l.length) (h:PclP l c):PrnC E 37 du [clA c] (ae (l,fz)) (l++txC c):=by
 refine Z5h Yn6 (n:=400) rfl ?_;rw[Z8i];delta qCT7 qCT8 qCTc qCT1 qCT9 qCT2 qCT3 qCT4 qCT5 qCT6 qCTa qCTb qCTd qCTe qCTf qCTg qCTh;unfold Zoe Zu3 Zu2 Zki Zkh Zkg Zu1 Zu0 Zkf Zke Zf8;obtain⟨h1,h2,h3,h4⟩:=h;obtain⟨-,g2,g3⟩:=V8 h1;have L:dK.words.length=16:=rfl;simp only[fzO,aV,gF,kz,ij,fV,ne_eq,and_true,true_and,ku,fO,fG]
 refine⟨⟨av _,hf,by omega⟩,λx=>x.k<=c.when_.length/\x.fz=fz/\x.L=l++ [W2,c.name]++txTs 0 (c.when_.take x.k)/\x.r=c.when_.length-x.k,⟨⟨0,c.when_.length,l++ [W2,c.name],fz⟩,⟨by dsimp only;omega,rfl,by simp[txTs],rfl⟩,by simp,by simp,by simp[W2]⟩,?_⟩;rintro⟨k,r,Lx,R⟩ ⟨k1,k2,k3,k4⟩;simp only at k1 k2 k3 k4⊢;subst k2 k4;have tl:=Zof (c.when_.take k) 0;have tl2:(c.when_.take k).length<=c.when_.length:=by simp;omega
 have hL:Lx.length=l.length+2+(txTs 0 (c.when_.take k)).length:=by rw[k3];simp;omega
 refine aC (λhq=>⟨by omega,by omega,λw hw=> ?_⟩) (λhq=> ?_)
 ·have hw:c.when_[k]? =ae w:=hw
  have hq:k<c.when_.length:=by omega
  obtain⟨t1,t2,t3,t4,t5,t6⟩:=Zbo (g3 w (aL hw));have ek:c.when_.take (k+1)=c.when_.take k++ [w]:=by rw[cA,hw];rfl
  have tw:(c.when_.take k).length=k:=by simp;omega
  have hm:(0:Int)<=mm2 ab (↑k:Int) (1:Int)/\mm2 ab (↑k:Int) (1:Int)+1<=2:=by
   rw[Yv];omega
  have st:txTs 0 (c.when_.take (k+1))=txTs 0 (c.when_.take k)++((if k=0 then Zif else sAnd)::txW w):=by rw[ek,Zru,tw,ei]
  have wx:∀I,dK.words[w.attr.toNat]? =ae I->txW w=I::(if w.low=w.high then[sIs,decN w.low] else[sIn,decN w.low,Zef,decN w.high]):=by
   intro I h;unfold txW;rw[bN,h];rfl
  have E1:∀s I,(if k=0 then Zif else sAnd)=s->dK.words[w.attr.toNat]? =ae I->w.low=w.high->Lx++ [s,I]++ [[105,115]]++ [decN w.low]=l++ [W2,c.name]++txTs 0 (c.when_.take (k+1)):=by
   intro s I U h e;rw[k3,st,U,wx I h,jM e];simp[sIs]
  have E2:∀s I,(if k=0 then Zif else sAnd)=s->dK.words[w.attr.toNat]? =ae I->¬w.low=w.high->Lx++ [s,I]++ [[105,110]]++ [decN w.low]++ [[46,46]]++ [decN w.high]=l++ [W2,c.name]++txTs 0 (c.when_.take (k+1)):=by
   intro s I U h e;rw[k3,st,U,wx I h,jJ e];simp[sIn,Zef]
  have T1:∀a b,aw (Lx.length+2) (Lx++ [a,b])=Lx++ [a,b]:=λa b=>bh (by simp);have T2:∀a b c,aw (Lx.length+2+1) (Lx++ [a,b]++ [c])=Lx++ [a,b]++ [c]:=λa b c=>bh (by simp);have T3:∀a b c d,aw (Lx.length+2+1+1) (Lx++ [a,b]++ [c]++ [d])=Lx++ [a,b]++ [c]++ [d]:=λa b c d=>bh (by simp);have T4:∀a b c d e,aw (Lx.length+2+1+1+1) (Lx++ [a,b]++ [c]++ [d]++ [e])=Lx++ [a,b]++ [c]++ [d]++ [e]:=λa b c d e=>bh (by simp)
  have wk:wr ag ((k:Int)+1)=((k+1:Nat):Int):=(wr64 (by omega) (by omega)).trans (by omega);simp only[T1,T2,T3,T4];have m0:(mm2 ab (k:Int) 1=((0:Nat):Int))=(k=0):=by rw[Yv];exact propext (by omega)
  have go:∀s I,(if k=0 then Zif else sAnd)=s->dK.words[w.attr.toNat]? =ae I->
   (w.low=w.high->∃J:PcX,(J.k<=c.when_.length/\J.fz=R/\J.L=l++ [W2,c.name]++txTs 0 (aw J.k c.when_)/\J.r=c.when_.length-J.k)/\J.r+1<=c.when_.length-k/\wr ag ((k:Int)+1)=(J.k:Int)/\Lx.length+2+1+1=J.L.length/\Lx++ [s,I]++ [[105,115]]++ [decN w.low]=J.L/\R=J.fz)/\
   (¬w.low=w.high->∃J:PcX,(J.k<=c.when_.length/\J.fz=R/\J.L=l++ [W2,c.name]++txTs 0 (aw J.k c.when_)/\J.r=c.when_.length-J.k)/\J.r+1<=c.when_.length-k/\wr ag ((k:Int)+1)=(J.k:Int)/\Lx.length+2+1+1+1+1=J.L.length/\Lx++ [s,I]++ [[105,110]]++ [decN w.low]++ [[46,46]]++ [decN w.high]=J.L/\R=J.fz):=by
   intro s I U h;refine aC (λe=> ?_) (λe=> ?_)
   ·have:=E1 s I U h e
    have h2:=kk aa this;refine⟨⟨k+1,c.when_.length-(k+1),l++ [W2,c.name]++txTs 0 (c.when_.take (k+1)),R⟩,⟨hq,rfl,rfl,rfl⟩,(by dsimp only;omega),wk,?_,this,rfl⟩;dsimp only;rw[<-h2];simp
   ·have:=E2 s I U h e
    have h2:=kk aa this;refine⟨⟨k+1,c.when_.length-(k+1),l++ [W2,c.name]++txTs 0 (c.when_.take (k+1)),R⟩,⟨hq,rfl,rfl,rfl⟩,(by dsimp only;omega),wk,?_,this,rfl⟩;dsimp only;rw[<-h2];simp
  rw[m0];refine⟨hm.1,hm.2,λh0=>⟨t1,by rw[L];omega,λI a0=> ?_⟩,λh0=>⟨λh1=>⟨t1,by rw[L];omega,λI a0=> ?_⟩,λ_=>jX⟩⟩
  ·obtain⟨g1,g2⟩:=go [119,104,101,110] I (by rw[jM h0];rfl) a0
   refine⟨⟨av _,by omega,by omega⟩,λe=> ?_,λe=> ?_⟩
   ·exact⟨⟨by simp,by omega,by omega⟩,⟨t3,by omega⟩,⟨by simp,by omega,by omega⟩,g1 e⟩
   ·exact⟨⟨by simp,by omega,by omega⟩,⟨t3,by omega⟩,⟨by simp,by omega,by omega⟩,⟨by simp,by omega,by omega⟩,⟨t5,by omega⟩,⟨by simp,by omega,by omega⟩,g2 e⟩
  ·obtain⟨g1,g2⟩:=go [97,110,100] I (by rw[jJ h0];rfl) a0
   refine⟨⟨av _,by omega,by omega⟩,λe=> ?_,λe=> ?_⟩
   ·exact⟨⟨by simp,by omega,by omega⟩,⟨t3,by omega⟩,⟨by simp,by omega,by omega⟩,g1 e⟩
   ·exact⟨⟨by simp,by omega,by omega⟩,⟨t3,by omega⟩,⟨by simp,by omega,by omega⟩,⟨by simp,by omega,by omega⟩,⟨t5,by omega⟩,⟨by simp,by omega,by omega⟩,g2 e⟩
 ·have ek:k=c.when_.length:=by omega
  have tx:=Xw c.pay;have e1:Lx++ [[112,97,121]]++txX c.pay++ [[59]]=l++txC c:=by
   rw[k3,ek,aV];unfold txC;simp[sPay,Zhu]
  have e2:=kk aa e1;simp only[az,aE,bn] at e2⊢;exact⟨⟨av _,by omega,by omega⟩,⟨jX,by omega,by omega,g2,by omega,by omega⟩,⟨av _,by omega,by omega⟩,e1,by omega,jX⟩
end
section
open Go
theorem Zp4{f:FuncId} {args:List (SV thy)} {v:SV thy} (h:∀(g:GH) (w:World) (R:Array Value),Inv E w.heap.size σ0 hp0 g w->DenL E σ0 g args R.toList->Calls E.P f R w λen w'=>∃u,en= .returned u/\Den E σ0 g v u/\Ext w w'):PureC E f args v:=by
 intro g w R J hd;refine(h g w R J hd).mono ?_;rintro en w' ⟨u,he,hv,I⟩;refine⟨u,he,g,⟨.refl _,λb p h=> .inl h,.refl _,λ_ _ _ h=> .inl h,λ_ _ h=> .inl h,λr hr _=>I.block hr,I.size,I.os,I.tape,I.output,λb r z h1 h2=>by cases h2⟩,?_,hv⟩;refine⟨λr o u hu=>I.cell (J.gc r o u hu),λr es hu=> ?_,(λb x I=>by cases I),λb b' r z z' h1=>ka rfl h1,(λb r z hs=>by cases hs),(λb x r z o v I=>by cases I),(λb x r z I=>by cases I),J.glob⟩;obtain⟨c,U⟩:=J.gm r es hu;have hr:r<w.heap.size:=by
  rcases fH r w.heap.size with h|h
  ·exact h
  ·rw[Array.getElem?_eq_none h] at U;cases U
 exact⟨c,by rw[I.block hr];exact U⟩
end
section
open Go
theorem Ynj:Builder.Extra Tryz.prog Tryz.lays156_ren where
 sizeBuilder:=by kernel_rfl
 liesBuilder:=by kernel_rfl
 t5:=Tryz.underlying5
 a5:=Tryz.isAgg5
 z5:=Tryz.sizeOf5
 v5:=Tryz.zeroValue5
 infoByte:=by kernel_rfl
 cellsByte:=by kernel_rfl
 sizeByte:=by kernel_rfl
 neB5:=by decide
theorem Zxb:∀{l:List (List Nat)},(∀y∈l,toL (mkS y)=y)->(Lib.join ((l.map mkS).map (·.data.toList)) (mkS [32]).data.toList).map db=Vm l
 | [],_=>rfl
 | [x],h=>by
  rw[bQ,dM,bQ,dM,Lib.join_one]
  exact h x (by simp)
 |x::y::r,h=>by
  have U:=Zxb (l:=y::r) (λz I=>h z (by simp at I⊢;exact .inr I))
  have R:=h x (by simp)
  rw[Zk0 (by simp),<-U]
  rw[bQ,bQ,kX,bQ,bQ,kX,eC]
  unfold Lib.joinTail
  rw[bQ,List.flatten_cons]
  have e:((mkS x).data.toList).map db=x:=R
  rw[e]
  have J:(mkS [32]).data.toList= [32]:=rfl
  rw[J]
  simp only[eC,bQ,dM,be]
  rfl
theorem Z7e(l:List (List Nat)) (h1:l.length<=1000000000) (h2:(Vm l).length<=1000000000):PureC E 38 [.psl du l ab,.str ab [32]] (.str ab (Vm l)):=by
 refine Zp4 λg w a7 hI hd=> ?_;obtain⟨u,v,rfl,hu,hv⟩:=Ylc hd;cases hv;rename_i a6 a5;have hs:a6=mkS [32]:=by rw[<-a5,Zdx]
 subst hs;obtain⟨base,c,cv,rfl,hl,hm,hf,hn,R,a4⟩:=V2 hu;rcases Nat.eq_zero_or_pos l.length with J|J
 ·have e:l= []:=List.length_eq_zero_iff.1 J
  subst e;refine(Any.strings_Join_none Tryz.lays156 Ynj base c (mkS [32]) w).mono ?_;rintro e w' ⟨rfl,rfl⟩;exact⟨_,rfl,.str _ rfl,Go.RowKit.Below.refl _ _⟩
 ·obtain⟨r,o,rfl,hc⟩:=R J
  have W1:E.w du=1:=rfl;have key:∀i x,l[i]? =ae x->w.cell? ⟨r,o+i,au⟩=ae (.string (mkS x))/\toL (mkS x)=x:=by
   intro i x I;have a1:=hc i x I 0 (by show 0<1;decide);have a2:=a4 i x I 0 (.str ab x) rfl;rw[W1,jC,ei] at a1;have a3:=hI.gc _ _ _ a1;generalize hq:cv i 0=q at a2 a3;cases a2;rename_i b R;subst R;rw[Zdx];exact⟨a3,rfl⟩
  have a0:∀y∈l,toL (mkS y)=y:=λy U=>by
   obtain⟨i,hi,rfl⟩:=List.getElem_of_mem U;exact(key i _ (ao hi)).2
  have hr:r<w.heap.size:=by
   have:=(key 0 _ (ao J)).1;rcases fH r w.heap.size with h|h
   ·exact h
   ·unfold World.cell? at this
    simp only at this;rw[Array.getElem?_eq_none h] at this;cases this
  have hj:=Zxb a0
  have:=Any.strings_Join Tryz.lays156 Ynj r o c (l.map mkS) (mkS [32]) w (λj x I=>by
   rw[List.getElem?_map] at I;obtain⟨y,U,rfl⟩:=Option.map_eq_some_iff.1 I;exact(key j y U).1) hr (by rw[cK];omega) (by rw[cK];exact hl) (by
   rw[<-hj,cK] at h2
   omega)
  rw[cK] at this;refine Calls.mono this ?_;rintro e w' ⟨rfl,hw⟩;refine⟨_,rfl,.str _ ?_,hw⟩;unfold toL;exact hj
end
section
open Go
noncomputable def dCl1:DcL E (Cls×Unit):= .cons dCl .nil
noncomputable def Spc:Sum thy:=sumB E du dCl1 (λl x=>PclP l x.1) λ(l:List (List Nat)) x=>l++txC x.1
theorem Yn8:SumOk E 37 Spc:=Zfv E_ok (Zc rfl) λx=>⟨λl fz J I=>Yki x.1 l fz J I,λI=>ka I.2.2.1 (by decide)⟩
noncomputable def Yp4:DcL E (List (List Nat)×List Nat×Unit):= .cons (Zfr (E:=E) du:Dc E (List (thy.dom du))) (.cons dS .nil)
noncomputable def Yn9:Sum thy:=Zq4 E (λ_=>au) 10 (Ws Yp4 (λx=>(x.2.1= [32]/\x.1.length<=1000000000)/\(Vm x.1).length<=1000000000) (λx=>Vm x.1) λy=> .str ab y)
noncomputable def Apr:Fr thy->Hp thy->Nat->Ann thy:=λT h i=>{X:=PcX,fr:=λx=> [(1,T 1),(5,T 5),(28,T 28),(29,T 29),(30,.int ab .i64 x.k)],bl:=λx=>(bOf (T 5),.raw [.sl i 0 x.L.length 1 au] 0 au)::(i,.rows du x.L x.fz)::blkP h (T 1),src:=λx=> [(i,1005)],md:= [bOf (T 5),cOfP h (T 5)],ih:=i+1,M:=i+60,meas:=λx=>x.r}
noncomputable def Fpr:Fns thy:=addL (addS (addS (addS (addS F0 36 Zm6) 38 Yn9) 34 Z67) 37 Spc) 9 7 Apr E
abbrev qCW1(I:Cls):=(bV (aM (ay I)) (bX (ay I)) (bD (ay I)) (bE (ay I)) (bF (ay I)) (bG (ay I)) (bw (ay I)))
abbrev qCW5:=0
abbrev qCW2(I:PcX):=(aw (aa (PcX.L I)+1) (cx qCW5 (aw (aa (PcX.L I)) (PcX.L I)++ [[125]])))
abbrev qCW3(I:Tar):=(↑(aa (ar I)):Int)
abbrev qCW4(I:Tar):=(ar I=ar I/\(ab=ac->ab=ac))
abbrev qCW6(I:PcX):=(↑(PcX.k I):Int)
theorem Z1k(t:Tar) (s:List Nat) (e:Int):Zk E Fpr (vc E Fpr 400) 9 [.agg (encF ab .tariffs t)] hp0 0 (λr=>ret E (patch hp0 0 r) r.v (.tup [.str ab s,.int ab .i64 e]))=(
 ((∀(c:Cls),c∈ar t->cW (ay c)+1<=1000000000000/\aa (aT c)+1<=1000000000000)/\aa (ar t)+1<=1000000000000)/\((Z8 t !=0)=ac-> []=s/\Z8 t=e/\True)/\((Z8 t !=0)=ab->0<=wr ag (aZ t-1)/\wr ag (aZ t-1)+1<=(↑(aa (dL gw)):Int)/\∀(x:List Nat),(dL gw)[af (wr ag (aZ t-1))]? =ae x->∃(R:PcX->Prop),(∃(I:PcX),R I/\ac=ac/\(qCW5=qCW5/\qCW5=qCW5/\(qCW4 t)/\(qCW3 t)=(qCW3 t)/\0=(qCW6 I)/\True)/\((qCW5=qCW5/\5=aa (PcX.L I)/\True)/\True)/\([[116,97,114,105,102,102],ba t,[102,111,114],x,[123]]=PcX.L I/\qCW5=PcX.fz I)/\(ba t=ba t/\aZ t=aZ t/\(qCW4 t)/\True)/\True)/\∀(x:PcX),R x->(decide ((qCW6 x)<(qCW3 t))=ac->0<=(qCW6 x)/\(qCW6 x)+1<=(qCW3 t)/\∀(I:Cls),(ar t)[af (qCW6 x)]? =ae I->(aa (PcX.L x)=aa (PcX.L x)/\PcX.fz x<=aa (PcX.L x)/\Wz (eF (aK I) (aT I) (qCW1 I))=ac/\cW (qCW1 I)+1<=1000000000/\1<=aa (PcX.L x)/\aa (PcX.L x)+8*cW (qCW1 I)+6*aa (aT I)+20<=1000000000)/\∀(U:List (List Nat)),U=PcX.L x++txC (eF (aK I) (aT I) (qCW1 I))->∃(J:PcX),R J/\J.2+1<=x.2/\ac=ac/\(qCW5=qCW5/\qCW5=qCW5/\(qCW4 t)/\(qCW3 t)=(qCW3 t)/\wr ag ((qCW6 x)+1)=(qCW6 J)/\True)/\((qCW5=qCW5/\aa U=aa (PcX.L J)/\True)/\True)/\(U=PcX.L J/\fzO (ae (PcX.L x,PcX.fz x))=PcX.fz J)/\(ba t=ba t/\aZ t=aZ t/\(qCW4 t)/\True)/\True)/\(decide ((qCW6 x)<(qCW3 t))=ab->(aa (PcX.L x)<=aa (PcX.L x)/\PcX.fz x<=aa (PcX.L x)/\(aa (PcX.L x)+1)*16<=140737488355328)/\qCW5+(aa (PcX.L x)+1)<=aa (aw (aa (PcX.L x)) (PcX.L x)++ [[125]])/\(([32]= [32]/\aa (qCW2 x)<=1000000000)/\aa (Vm (qCW2 x))<=1000000000)/\∀(y:List Nat),y=Vm (qCW2 x)->(decide ((↑(aa y):Int)>2000)=ac-> []=s/\2=e/\True)/\(decide ((↑(aa y):Int)>2000)=ab->y=s/\0=e/\True)))):=by kernel_rfl
theorem Zyd:∀{s:List Nat} {n m:Int},1<=n->n<=1099511627776->(∀c∈s,isD c=ac)->numL n s=(m,0)->n*10^s.length<=1099511627776
 | [],n,m,_,J,_,_=>by simpa using J
 |c::r,n,m,h1,J,hd,h=>by
  unfold numL at h
  split at h
  ·cases h
  ·rename_i hq
   have I:=hd c (by simp)
   unfold isD at I
   simp only[aq,fO] at I
   have:=Zyd (by omega) (by omega) (λc I=>hd c (by simp[I])) h
   have R:n*10<=10*n+((c:Int)-48):=by omega
   have U:(0:Int)<=10^r.length:=lc (lf (by decide))
   have h3:=fK R U
   rw[aE,Int.pow_succ,Int.mul_comm (10^r.length) 10,<-Int.mul_assoc]
   omega
theorem Ydi{s:List Nat} (hd:∀c∈s,isD c=ac) (h:(numb s).2=0):s.length<=32:=by
 match s,hd,h with
 | [],_,_=>simp
 |c::r,hd,h=>
  unfold numb at h;split at h
  ·cases h
  ·rename_i hq
   cases r with
   |nil=>simp
   |cons d r=>
    have J:c≠48:=λe=>hq ⟨by simp,by rw[e];rfl⟩;have R:=hd c (by simp);unfold isD at R;simp only[aq,fO] at R;unfold numL at h;rw[jJ (by omega)] at h;have U:numL (10*0+((c:Int)-48)) (d::r)=((numL (10*0+((c:Int)-48)) (d::r)).1,0):=Prod.ext rfl h;have:=Zyd (by omega) (by omega) (λc J=>hd c (by simp[J])) U;have hp:(0:Int)<=10^(d::r).length:=lc (lf (by decide));have h3:1*10^(d::r).length<=(10*0+((c:Int)-48))*10^(d::r).length:=fK (by omega) hp;rcases fH (d::r).length 13 with I|I
    ·simp at I⊢;omega
    ·have h4:(10:Nat)^13<=10^(d::r).length:=gX (by decide) I
     have h5:((10^(d::r).length:Nat):Int)=10^(d::r).length:=by norm_cast
     have h6:((10^13:Nat):Int)<=((10^(d::r).length:Nat):Int):=Int.ofNat_le.2 h4;rw[h5] at h6;have h7:((10^13:Nat):Int)=10000000000000:=rfl;omega
theorem Ykl{c:Nat} {w:List Nat} (h:sgnW c=ae w):w.length<=2:=by
 unfold sgnW at h
 repeat(split at h; · cases h;decide)
 cases h
theorem TokW.len{w:List Nat} (h:TokW w):w.length<=32:=by
 obtain⟨J,I,h3⟩:=h;obtain⟨c,r,rfl⟩:=List.exists_cons_of_ne_nil h3;rw[Xa] at J I;split at J
 ·rename_i R
  rw[jM R] at I;split at J
  ·cases J
  ·rename_i U
   rw[jJ U] at I;have I:=kk aa I;rw[bi] at I;omega
 ·rename_i R
  rw[jJ R] at I;split at J
  ·rename_i hd
   rw[jM hd] at I;have I:(c::r).take (spn isD (c::r))=c::r:=I;have J:(numb ((c::r).take (spn isD (c::r)))).2=0:=J;rw[I] at J;exact Ydi (λx hx=>by rw[<-I] at hx;exact Zn5 hx) J
  ·rename_i hd
   rw[jJ hd] at I;split at J
   ·rename_i w hw
    rw[hw] at I;unfold tokS at J I;split at J
    ·rename_i U
     dsimp only at I;rw[jM U] at I;have I:w=c::r:=I;rw[<-I];have:=Ykl hw;omega
    ·cases J
   ·cases J
theorem Zrw:∀{ws:List (List Nat)} {m:Nat},(∀w∈ws,w.length<=m)->(Vm ws).length<=(m+1)*ws.length
 | [],m,_=>by simp[Vm]
 | [w],m,h=>by
  have:=h w (by simp)
  simp only[Vm,aE,bn]
  omega
 |w::x::r,m,h=>by
  have J:=Zrw (ws:=x::r) (m:=m) (λy I=>h y (by simp at I⊢;exact .inr I))
  have:=h w (by simp)
  rw[Zk0 (by simp),az,aE]
  have e:(m+1)*(w::x::r).length=(m+1)*(x::r).length+(m+1):=by rw[aE,lg,jC]
  omega
theorem Ykm(c:Cls):(txC c).length<=8*c.pay.sz+6*c.when_.length+4:=by
 have I:=Xw c.pay;have J:=Zof c.when_ 0;unfold txC;simp only[aE,az,bn];omega
theorem Zrx:∀(a:List Cls) (c:Cls),txCs (a++ [c])=txCs a++txC c
 | [],c=>by simp[txCs]
 |x::r,c=>by rw[cd];simp only[txCs];rw[Zrx r c,be]
theorem Zye:∀{cs:List Cls} {m:Nat},(∀c∈cs,c.pay.sz<=m/\c.when_.length<=8)->(txCs cs).length<=(8*m+52)*cs.length
 | [],m,_=>by simp[txCs]
 |c::r,m,h=>by
  have U:=Zye (cs:=r) (m:=m) (λx I=>h x (by simp[I]))
  have J:=h c (by simp)
  have R:=Ykm c
  have e:(8*m+52)*(c::r).length=(8*m+52)*r.length+(8*m+52):=by rw[aE,lg,jC]
  rw[txCs,az]
  omega
theorem Zyf:∀{cs:List Cls} {s:List (List Nat)},CsOk s cs->∀c∈cs,Wz c=ac/\c.when_.length<=8
 |c::r,s,h,x,I=>by
  rw[Zp2] at h
  rcases aH.1 I with rfl|I
  ·exact⟨h.1,h.2.2.2.1⟩
  ·exact Zyf h.2.2.2.2.2 x I
def SmT(t:Tar):Prop:=(∀c∈t.clauses,c.pay.sz<=10000/\c.when_.length<1000000000)/\t.clauses.length<1000000000
theorem Ydj:SumOk E 38 Yn9:=Zjv E_ok (Z1 E_ok (Zc rfl) λx h=>by
 have:=Z7e x.1 h.1.2 h.2;rw[<-h.1.1] at this
 exact this)
theorem Yoa:FnsOk E Fpr:=Zm E_ok (Zb (Zb (Zb (Zb F0_ok Zfz) Ydj) Zq5) Yn8) _ _ _
theorem Z1l(t:Tar) (h:SmT t):PureC E 9 [.agg (encF ab .tariffs t)] (.tup [.str ab (X9 t).1,.int ab .i64 (X9 t).2]):=by
 refine Za E_ok (Zd E_ok Yoa 400) ?_;rw[Z1k];delta qCW1 qCW5 qCW2 qCW3 qCW4 qCW6;obtain⟨U,h2⟩:=h;have L:gw.words.length=6:=rfl;simp only[iz,gp,fzO,aV,Cls.eta,gF,kz,ij,fV,ne_eq,and_true,true_and,ku,fO,fG];refine⟨⟨λc I=>⟨by have:=(U c I).1;omega,by have:=(U c I).2;omega⟩,by omega⟩,λhn=> ?_,λhz=> ?_⟩
 ·rw[Z0n hn];exact⟨rfl,rfl⟩
 ·obtain⟨c1,c2,c3,c4,c5,c6⟩:=(V7 t).1 hz
  have hw:wr ag (t.for_-1)=t.for_-1:=wr64 (by omega) (by omega);rw[hw];refine⟨by omega,by rw[L];omega,λx hx=> ?_⟩;have a0:=Zyf c6;have hm:∀c∈t.clauses,c.pay.sz<=10000/\c.when_.length<=8:=λc I=>⟨(U c I).1,(a0 c I).2⟩;have a2:∀k,(txCs (t.clauses.take k)).length<=80052*64:=λk=>by
   have a:=Zye (cs:=t.clauses.take k) (m:=10000) (λc I=>hm c (List.mem_of_mem_take I));have b:(t.clauses.take k).length<=64:=by rw[bi];omega
   have e:(8*10000+52)*(t.clauses.take k).length<=(8*10000+52)*64:=Nat.mul_le_mul_left _ b;omega
  have a3:gw.words.getD (t.for_-1).toNat []=x:=by rw[bN,hx];rfl
  refine⟨λy=>y.k<=t.clauses.length/\y.fz=0/\y.L= [[116,97,114,105,102,102],t.name,[102,111,114],x,[123]]++txCs (t.clauses.take y.k)/\y.r=t.clauses.length-y.k,⟨⟨0,t.clauses.length,[[116,97,114,105,102,102],t.name,[102,111,114],x,[123]],0⟩,⟨(by dsimp only;omega),rfl,by simp[txCs],rfl⟩,rfl,rfl,rfl,rfl⟩,?_⟩;rintro⟨k,r,Lx,fx⟩ ⟨k1,k2,J,k4⟩;simp only at k1 k2 J k4⊢;subst k2 k4;have hL:Lx.length=5+(txCs (t.clauses.take k)).length:=by rw[J];simp;omega
  have a4:=a2 k;refine aC (λhq=>⟨by omega,by omega,λc I=> ?_⟩) (λhq=> ?_)
  ·have I:t.clauses[k]? =ae c:=I
   have hq:k<t.clauses.length:=by omega
   have a1:=aL I;have b1:=hm c a1;have b2:=a0 c a1;have e:Lx++txC c= [[116,97,114,105,102,102],t.name,[102,111,114],x,[123]]++txCs (t.clauses.take (k+1)):=by
    have R:t.clauses.take (k+1)=t.clauses.take k++ [c]:=by rw[cA,I];rfl
    rw[J,R,Zrx,be]
   refine⟨⟨by omega,b2.1,by omega,by omega,by omega⟩,⟨k+1,t.clauses.length-(k+1),Lx++txC c,0⟩,⟨hq,rfl,e,rfl⟩,(by dsimp only;omega),(wr64 (by omega) (by omega)).trans (by dsimp only;omega),rfl,rfl,rfl⟩
  ·have R:k=t.clauses.length:=by omega
   have e:Lx++ [[125]]=Zas t:=by
    rw[J,R,aV];unfold Zas;rw[a3];simp[Zhv,sFor,sLb,sRb]
   have e1:aw (Lx.length+1) (cx 0 (Lx++ [[125]]))=Zas t:=by
    rw[dW,bh (by simp),e]
   rw[e1];have e2:(Zas t).length=Lx.length+1:=by rw[<-e];simp
   have hj:=Zrw (ws:=Zas t) (m:=32) (λw hw=>(Zxk hz w hw).len);unfold X9;rw[jJ (by rw[hz];simp)];refine⟨⟨av _,by omega,by omega⟩,by rw[az];simp,⟨by omega,by omega⟩,λh=> ?_,λh=> ?_⟩
   ·rw[jM (by omega)];exact⟨rfl,rfl⟩
   ·rw[jJ (by omega)];exact⟨rfl,rfl⟩
end
end Go.Proofs.YtbkgpcknakidkaaGreatDoor
