/- Merged texts: TpL, EngZL, TpM, TpI, TpPa, TpIz, EngZM, TpQ, TpPb, TpPc, TpR, TpP0, TpPd, TpPe, TpPf, TpPg, TpS, TpJ0, TpJ, TpT. -/
import Derived.Lib.ItoaNum
import Derived.Test.YtbkgpcknakidkaaGreatDoorMd
open And renaming intro->aD
open Bool renaming and_eq_true->aq,false->ab,false_ne_true->bI,or_eq_false_iff->bB,true->ac
open Except renaming error->aA,ok->aT
open Go.Fn renaming func->cE
open Go.IntKind renaming i64->af
open Go.Lib renaming bitLen->fT,bitLenAux->kO,decDigits->eT,itoa->gO,join_cons->kR,l10->jW,nDigits->eE,nDigits_small->jX
open Go.Proofs.YtbkgpcknakidkaaGreatDoor.Cls renaming mk->fb,name->aP,pay->aE,when_->aY
open Go.Proofs.YtbkgpcknakidkaaGreatDoor.Ex renaming d0->bC,d1->bD,d2->bE,d3->bF,eta->ia,l->bx,mk->bY,n->cd,op->aJ,sz->cZ,szL->kQ
open Go.Proofs.YtbkgpcknakidkaaGreatDoor.Tar renaming clauses->au,for_->bG,name->bP
open Go.Proofs.YtbkgpcknakidkaaGreatDoor.Th renaming clauses->bu,dimc->kq,strs->dp,toks->di
open Go.Proofs.YtbkgpcknakidkaaGreatDoor.Tok renaming at_->dj,kind->cA,n->fE,text->cN
open Go.Proofs.YtbkgpcknakidkaaGreatDoor.Tst renaming attr->eg,high->fp,low->fk
open Go.Proofs.YtbkgpcknakidkaaGreatDoor.WK renaming at_->dI,ca->gC,ki->gk,un->eN,words->dJ
open Go.Value renaming slice->aH
open Int renaming le_of_lt->kW,le_refl->bZ,mul_le_mul_of_nonneg_right->fG,pow_pos->kZ,tdiv->dk,tdiv_eq_ediv_of_nonneg->cB,tmod->eV,tmod_eq_emod_of_nonneg->db,toNat->ag,toNat_natCast->bA
open List renaming all_eq_true->fH,append_assoc->bd,append_nil->cK,cons_append->bW,drop->cy,drop_drop->eO,drop_eq_getElem_cons->cw,drop_eq_nil_of_le->bJ,drop_zero->ee,eq_nil_of_length_eq_zero->cG,getD->ah,getD_eq_getElem?_getD->bL,getElem?_cons_zero->dr,getElem?_eq_getElem->ak,getElem?_eq_some_iff->aj,getElem_mem->iE,length->aa,length_append->aB,length_cons->aC,length_drop->cR,length_map->dc,length_nil->bh,length_tail->dM,length_take->bj,map_append->eY,map_congr_left->ju,map_cons->bS,map_drop->gZ,map_eq_nil_iff->jv,map_map->kP,map_nil->dK,mem_append->cf,mem_append_left->eQ,mem_append_right->dz,mem_cons->aM,mem_cons_of_mem->aW,mem_of_getElem?->aI,mem_singleton->cr,nil_append->dU,not_mem_nil->jY,range->dh,sum_cons->kC,tail->bw,tail_cons->cu,take->aw,take_add_one->cD,take_left->iJ,take_length->aU,take_of_length_le->bg,take_succ_cons->jt
open List.cons renaming inj->eF,injEq->ec
open List.range renaming loop->fg
open Nat renaming add_zero->dZ,beq->aK,beq_refl->fL,eq_of_beq_eq_true->ax,le_refl->av,le_trans->bT,lt_of_lt_of_le->cg,lt_or_ge->fD,lt_succ_self->dx,min_eq_left->iR,mul_add->la,mul_one->jw,pow_add->kY,pow_le_pow_right->gQ,reducePow->cS,reduceSub->hH,strongRecOn->iH,zero_le->aX
open Option renaming ne_none_iff_exists'->aV,none->ar,some->ae
open Or renaming inl->jm,inr->iS
open Prod renaming fst->ao,snd->ay
open UInt8 renaming ofNat->gh,toNat->cX,toNat_ofNat'->gY
namespace Go.Proofs.YtbkgpcknakidkaaGreatDoor
set_option linter.unusedVariables false
set_option linter.unusedSimpArgs false
set_option linter.unnecessarySimpa false
set_option maxRecDepth 100000
section
open Go
def isL(n:Int):Bool:=decide (97<=n)&&decide (n<=122)
def isD(n:Int):Bool:=decide (48<=n)&&decide (n<=57)
def isLD(n:Int):Bool:=isL n||isD n
noncomputable def dU8:Dc E Int:=dInt .u8
theorem Zt7(n:Int) (v:Bool):Zk E F0 (vc E F0 400) 96 [.int ab .u8 n] hp0 0 (λr=>ret E (patch hp0 0 r) r.v (.bool ab v))=(
(decide (97<=n)=ac->(decide (n<=122)=ac->ac=v)/\(decide (n<=122)=ab->ab=v))/\(decide (97<=n)=ab->ab=v)):=by kernel_rfl
theorem Zt8(n:Int):PureC E 96 [.int ab .u8 n] (.bool ab (isL n)):=by
 refine Za E_ok (Zd E_ok F0_ok 400) ?_;rw[Zt7];unfold isL;refine⟨λh=>⟨λI=> ?_,λI=> ?_⟩,λh=> ?_⟩
 ·rw[h,I];rfl
 ·rw[h,I];rfl
 ·rw[h];rfl
theorem Zz3(n:Int) (v:Bool):Zk E F0 (vc E F0 400) 99 [.int ab .u8 n] hp0 0 (λr=>ret E (patch hp0 0 r) r.v (.bool ab v))=(
(decide (48<=n)=ac->(decide (n<=57)=ac->ac=v)/\(decide (n<=57)=ab->ab=v))/\(decide (48<=n)=ab->ab=v)):=by kernel_rfl
theorem Zz4(n:Int):PureC E 99 [.int ab .u8 n] (.bool ab (isD n)):=by
 refine Za E_ok (Zd E_ok F0_ok 400) ?_;rw[Zz3];unfold isD;refine⟨λh=>⟨λI=> ?_,λI=> ?_⟩,λh=> ?_⟩
 ·rw[h,I];rfl
 ·rw[h,I];rfl
 ·rw[h];rfl
noncomputable def Z61:Sum thy:=sumP (dA1 dU8) (λ_=>True) λx=> .bool ab (isL x.1)
noncomputable def Ydu:Sum thy:=sumP (dA1 dU8) (λ_=>True) λx=> .bool ab (isD x.1)
theorem Zz5:SumOk E 96 Z61:=Yn E_ok (Zc (f:=96) rfl) λx _=>Zt8 x.1
theorem Z62:SumOk E 99 Ydu:=Yn E_ok (Zc (f:=99) rfl) λx _=>Zz4 x.1
noncomputable def Flx:Fns thy:=addS (addS F0 96 Z61) 99 Ydu
theorem Z63:FnsOk E Flx:=Zb (Zb F0_ok Zz5) Z62
theorem Z64(n:Int) (v:Bool):Zk E Flx (vc E Flx 400) 98 [.int ab .u8 n] hp0 0 (λr=>ret E (patch hp0 0 r) r.v (.bool ab v))=(
True/\(isL n=ac->ac=v)/\(isL n=ab->True/\isD n=v)):=by kernel_rfl
theorem Z65(n:Int):PureC E 98 [.int ab .u8 n] (.bool ab (isLD n)):=by
 refine Za E_ok (Zd E_ok Z63 400) ?_;rw[Z64];unfold isLD;refine⟨jU,λh=> ?_,λh=>⟨jU,?_⟩⟩
 ·rw[h];rfl
 ·rw[h];rfl
noncomputable def Ymo:Sum thy:=sumP (dA1 dU8) (λ_=>True) λx=> .bool ab (isLD x.1)
theorem Yb7:SumOk E 98 Ymo:=Yn E_ok (Zc (f:=98) rfl) λx _=>Z65 x.1
def Asp:Fr thy->Hp thy->Nat->Ann thy:=λT h i=>{X:=LX,fr:=λx=> [(0,T 0),(1,T 1),(7,T 7),(8,.int ab .i64 x.k)],bl:=λx=> [],src:=λ_=> [],md:= [],ih:=i,M:=i+30,meas:=λx=>x.r}
noncomputable def Z66:Fns thy:=addL (addS Flx 98 Ymo) 97 2 Asp E
theorem Zw1:FnsOk E Z66:=Zm E_ok (Zb Z63 Yb7) _ _ _
def spn(f:Int->Bool):List Nat->Nat
 | []=>0
 |c::r=>if f c then spn f r+1 else 0
theorem Zg9{f:Int->Bool} {s:List Nat} {k c:Nat} (h:s[k]? =ae c):spn f (s.drop k)=if f c then spn f (s.drop (k+1))+1 else 0:=by
 have J:=(aj.1 h).1;have I:s[k]=c:=(aj.1 h).2;rw[cw J,I];rfl
theorem Zq3{f:Int->Bool}:∀{s:List Nat},spn f s<=s.length
 | []=>av _
 |c::r=>by
  unfold spn
  have:=Zq3 (f:=f) (s:=r)
  split
  ·simp;omega
  ·exact aX _
theorem Zz6(s:List Nat) (v:Int):Zk E Z66 (vc E Z66 400) 97 [.str ab s,.fn (.func 98) [] []] hp0 0 (λr=>ret E (patch hp0 0 r) r.v (.int ab .i64 v))=(
∃(R:LX->Prop),(∃(x:LX),R x/\ac=ac/\(s=s/\(cE (98:FuncId)=cE (98:FuncId)/\True/\True)/\(↑(aa s):Int)=(↑(aa s):Int)/\0=(↑(LX.k x):Int)/\True)/\True)/\∀(x:LX),R x->(decide ((↑(LX.k x):Int)<(↑(aa s):Int))=ac->0<=(↑(LX.k x):Int)/\(↑(LX.k x):Int)+1<=(↑(aa s):Int)/\∀(I:Nat),s[ag (↑(LX.k x):Int)]? =ae I->True/\((!isLD (↑I:Int))=ac->(↑(LX.k x):Int)=v)/\((!isLD (↑I:Int))=ab->∃(J:LX),R J/\J.2+1<=x.2/\ac=ac/\(s=s/\(cE (98:FuncId)=cE (98:FuncId)/\True/\True)/\(↑(aa s):Int)=(↑(aa s):Int)/\wr af ((↑(LX.k x):Int)+1)=(↑(LX.k J):Int)/\True)/\True))/\(decide ((↑(LX.k x):Int)<(↑(aa s):Int))=ab->(↑(aa s):Int)=v)):=by kernel_rfl
theorem Zz7(s:List Nat) (hs:s.length<=1000000000):PureC E 97 [.str ab s,.fn (.func 98) [] []] (.int ab .i64 (spn isLD s)):=by
 refine Za E_ok (Zd E_ok Zw1 400) ?_;rw[Zz6];refine⟨λx=>x.k<=s.length/\x.k+spn isLD (s.drop x.k)=spn isLD s/\x.r=s.length-x.k,⟨⟨0,s.length,[],0⟩,⟨(by dsimp only;omega),by simp,rfl⟩,by simp⟩,?_⟩;rintro x ⟨hk,I,hr⟩;refine⟨λU=> ?_,λU=> ?_⟩
 ·have U:(x.k:Int)<s.length:=by simpa using U
  refine⟨by omega,by omega,λc R=>⟨jU,λJ=> ?_,λJ=> ?_⟩⟩
  ·have R:s[x.k]? =ae c:=R
   rw[Zg9 R] at I;have J:isLD c=false:=by simpa using J
   rw[J] at I;simp at I;rw[<-I]
  ·have R:s[x.k]? =ae c:=R
   rw[Zg9 R] at I;have J:isLD c=true:=by simpa using J
   rw[J,jQ rfl] at I;exact⟨⟨x.k+1,s.length-(x.k+1),[],0⟩,⟨(by dsimp only;omega),(by dsimp only;omega),rfl⟩,(by show s.length-(x.k+1)+1<=x.r;omega),rfl,⟨rfl,⟨rfl,jU,jU⟩,rfl,wr64 (by omega) (by omega),jU⟩,jU⟩
 ·have U:¬(x.k:Int)<s.length:=by simpa using U
  rw[bJ (by omega)] at I;have:x.k=spn isLD s:=by simpa[spn] using I
  omega
theorem Zz8(s:List Nat) (v:Int):Zk E Z66 (vc E Z66 400) 97 [.str ab s,.fn (.func 99) [] []] hp0 0 (λr=>ret E (patch hp0 0 r) r.v (.int ab .i64 v))=(
∃(R:LX->Prop),(∃(x:LX),R x/\ac=ac/\(s=s/\(cE (99:FuncId)=cE (99:FuncId)/\True/\True)/\(↑(aa s):Int)=(↑(aa s):Int)/\0=(↑(LX.k x):Int)/\True)/\True)/\∀(x:LX),R x->(decide ((↑(LX.k x):Int)<(↑(aa s):Int))=ac->0<=(↑(LX.k x):Int)/\(↑(LX.k x):Int)+1<=(↑(aa s):Int)/\∀(I:Nat),s[ag (↑(LX.k x):Int)]? =ae I->True/\((!isD (↑I:Int))=ac->(↑(LX.k x):Int)=v)/\((!isD (↑I:Int))=ab->∃(J:LX),R J/\J.2+1<=x.2/\ac=ac/\(s=s/\(cE (99:FuncId)=cE (99:FuncId)/\True/\True)/\(↑(aa s):Int)=(↑(aa s):Int)/\wr af ((↑(LX.k x):Int)+1)=(↑(LX.k J):Int)/\True)/\True))/\(decide ((↑(LX.k x):Int)<(↑(aa s):Int))=ab->(↑(aa s):Int)=v)):=by kernel_rfl
theorem Zz9(s:List Nat) (hs:s.length<=1000000000):PureC E 97 [.str ab s,.fn (.func 99) [] []] (.int ab .i64 (spn isD s)):=by
 refine Za E_ok (Zd E_ok Zw1 400) ?_;rw[Zz8];refine⟨λx=>x.k<=s.length/\x.k+spn isD (s.drop x.k)=spn isD s/\x.r=s.length-x.k,⟨⟨0,s.length,[],0⟩,⟨(by dsimp only;omega),by simp,rfl⟩,by simp⟩,?_⟩;rintro x ⟨hk,I,hr⟩;refine⟨λU=> ?_,λU=> ?_⟩
 ·have U:(x.k:Int)<s.length:=by simpa using U
  refine⟨by omega,by omega,λc R=>⟨jU,λJ=> ?_,λJ=> ?_⟩⟩
  ·have R:s[x.k]? =ae c:=R
   rw[Zg9 R] at I;have J:isD c=false:=by simpa using J
   rw[J] at I;simp at I;rw[<-I]
  ·have R:s[x.k]? =ae c:=R
   rw[Zg9 R] at I;have J:isD c=true:=by simpa using J
   rw[J,jQ rfl] at I;exact⟨⟨x.k+1,s.length-(x.k+1),[],0⟩,⟨(by dsimp only;omega),(by dsimp only;omega),rfl⟩,(by show s.length-(x.k+1)+1<=x.r;omega),rfl,⟨rfl,⟨rfl,jU,jU⟩,rfl,wr64 (by omega) (by omega),jU⟩,jU⟩
 ·have U:¬(x.k:Int)<s.length:=by simpa using U
  rw[bJ (by omega)] at I;have:x.k=spn isD s:=by simpa[spn] using I
  omega
def Anu:Fr thy->Hp thy->Nat->Ann thy:=λT h i=>{X:=LX,fr:=λx=> [(0,T 0),(4,.int ab .i64 x.m),(15,T 15),(16,.int ab .i64 x.k)],bl:=λx=> [],src:=λ_=> [],md:= [],ih:=i,M:=i+30,meas:=λx=>x.r}
noncomputable def Fnum:Fns thy:=addL F0 100 5 Anu E
theorem Yit:FnsOk E Fnum:=Zm E_ok F0_ok _ _ _
def numL(n:Int):List Nat->Int×Int
 | []=>(n,0)
 |c::r=>if 10*n+(c-48)>1099511627776 then(0,2) else numL (10*n+(c-48)) r
def numb(s:List Nat):Int×Int:=if 1<s.length/\s.head? =ae 48 then(0,150) else numL 0 s
theorem Z67{n:Int} {s:List Nat} {k c:Nat} (h:s[k]? =ae c):numL n (s.drop k)=if 10*n+(c-48)>1099511627776 then(0,2) else numL (10*n+(c-48)) (s.drop (k+1)):=by
 have J:=(aj.1 h).1;have I:s[k]=c:=(aj.1 h).2;rw[cw J,I];rfl
abbrev qCD1(I:LX) (J:Nat):=(wr af ((10:Int)*LX.m I)+wr af (wr IntKind.u8 ((↑J:Int)-(48:Int))))
abbrev qCD2(I:List Nat):=(↑(aa I):Int)
abbrev qCD3(I:LX):=(↑(LX.k I):Int)
abbrev qCD4:=(0:Int)
theorem Zt9(s:List Nat) (v e:Int):Zk E Fnum (vc E Fnum 400) 100 [.str ab s] hp0 0 (λr => ret E (patch hp0 0 r) r.v (.tup [.int ab .i64 v,.int ab .i64 e])) = (
 ∃ (Q:Bool->Prop),((decide ((qCD2 s) > 1) = ac->qCD4<=qCD4/\qCD4 + 1<=(qCD2 s)/\∀ (x:Nat),s[ag qCD4]? = ae x->(((↑x:Int) == 48) = ac->Q ac)/\(((↑x:Int) == 48) = ab->Q ab))/\(decide ((qCD2 s) > 1) = ab->Q ab))/\(Q ac->qCD4 = v/\150 = e/\True)/\(Q ab->∃ (R:LX->Prop),(∃ (x:LX),R x/\ac = ac/\(s = s/\qCD4 = LX.m x/\(qCD2 s) = (qCD2 s)/\qCD4 = (qCD3 x)/\True)/\True)/\∀ (x:LX),R x->(decide ((qCD3 x) < (qCD2 s)) = ac->qCD4<=(qCD3 x)/\(qCD3 x) + 1<=(qCD2 s)/\∀ (I:Nat),s[ag (qCD3 x)]? = ae I->(decide (wr af (qCD1 x I) > 1099511627776) = ac->qCD4 = v/\2 = e/\True)/\(decide (wr af (qCD1 x I) > 1099511627776) = ab->∃ (J:LX),R J/\J.2 + 1<=x.2/\ac = ac/\(s = s/\wr af (qCD1 x I) = LX.m J/\(qCD2 s) = (qCD2 s)/\wr af ((qCD3 x) + 1) = (qCD3 J)/\True)/\True))/\(decide ((qCD3 x) < (qCD2 s)) = ab->LX.m x = v/\qCD4 = e/\True))):=by kernel_rfl
theorem Zua(s : List Nat) (hs : s.length ≤ 1000000000) (hd : ∀ c ∈ s, 48 ≤ c ∧ c ≤ 57) : PureC E 100 [.str ab s] (.tup [.int ab .i64 (numb s).1, .int ab .i64 (numb s).2]) := by
  refine Za E_ok (Zd E_ok Yit 400) ?_;rw[Zt9]; delta qCD1 qCD2 qCD3 qCD4;refine⟨λb => b = decide (1 < s.length ∧ s.head? = ae 48), ⟨λh => ?_, λh => ?_⟩, λh => ?_, λh => ?_⟩
  ·have h : (1 : Int) < s.length := by simpa using h
   refine⟨bZ 0, by omega, λx hx => ?_⟩;have hx : s[0]? = ae x := hx;rw[List.head?_eq_getElem?, hx];refine⟨λh2 => ?_, λh2 => ?_⟩
   ·have h2 : x = 48 := by have : (x : Int) = 48 := by simpa using h2
                           omega
    simp[h2]; omega
   ·have h2 : x ≠ 48 := by
      intro e;subst e;simp at h2
    simp[h2]
  ·have h : ¬ (1 : Int) < s.length := by simpa using h
   have : ¬ 1 < s.length := by omega
   simp[this]
  ·have h := (decide_eq_true_iff.1 h.symm)
   unfold numb;rw[jQ h];exact⟨rfl, rfl, jU⟩
  ·have h := (fC.1 h.symm)
   have hn : numb s = numL 0 s := by unfold numb; rw[jG h]
   rw[hn];refine⟨λx => x.k ≤ s.length ∧ numL x.m (s.drop x.k) = numL 0 s ∧ 0 ≤ x.m ∧ x.m ≤ 1099511627776 ∧ x.r = s.length - x.k, ⟨⟨0, s.length, [], 0⟩, ⟨(by dsimp only; omega), rfl, bZ 0, (by show(0:Int) ≤ 1099511627776; omega), rfl⟩, by simp⟩, ?_⟩;rintro x ⟨hk, hv, hm0, hm1, hr⟩;refine⟨λhq => ?_, λhq => ?_⟩
   ·have hq : (x.k : Int) < s.length := by simpa using hq
    refine⟨by omega, by omega, λc hc => ?_⟩;have hc : s[x.k]? = ae c := hc;have hcd := hd c (aI hc);have w0 : wr .u8 ((c : Int) - 48) = c - 48 := by simp only[wr, IntKind.wrap_u8]; omega
    have w1 : wr .i64 (10 * x.m) = 10 * x.m := wr64 (by omega) (by omega);have w2 : wr .i64 ((c : Int) - 48) = c - 48 := wr64 (by omega) (by omega);have w3 : wr .i64 (10 * x.m + ((c : Int) - 48)) = 10 * x.m + (c - 48) := wr64 (by omega) (by omega);rw[w0, w1, w2, w3];rw[Z67 hc] at hv;refine⟨λh2 => ?_, λh2 => ?_⟩
    ·have h2 : 10 * x.m + ((c : Int) - 48) > 1099511627776 := by simpa using h2
     rw[jQ h2] at hv;rw[← hv];exact⟨rfl, rfl, jU⟩
    ·have h2 : ¬ 10 * x.m + ((c : Int) - 48) > 1099511627776 := by simpa using h2
     rw[jG h2] at hv;exact⟨⟨x.k + 1, s.length - (x.k + 1), [], 10 * x.m + (c - 48)⟩, ⟨(by dsimp only; omega), hv, (by dsimp only; omega), (by dsimp only; omega), rfl⟩, (by show s.length - (x.k + 1) + 1 ≤ x.r; omega), rfl, ⟨rfl, rfl, rfl, wr64 (by omega) (by omega), jU⟩, jU⟩
   ·have hq : ¬ (x.k : Int) < s.length := by simpa using hq
    rw[bJ (by omega)] at hv;rw[← hv];exact⟨rfl, rfl, jU⟩
noncomputable def dSF:Dc E Bool where
 dec v:=match v with| .fn (.func f) [] []=>(match aK f 98 with|true=>ae ac|false=>(match aK f 99 with|true=>ae ab|false=>ar))|_=>ar
 enc b:= .fn (.func (bif b then 98 else 99)) [] []
 ok v a h:=by
  split at h
  ·rename_i f
   split at h
   ·rename_i e
    cases h
    have e:=ax e
    cases e
    exact⟨rfl,rfl,λσ g u hd=>hd⟩
   ·split at h
    ·rename_i e
     cases h
     have e:=ax e
     cases e
     exact⟨rfl,rfl,λσ g u hd=>hd⟩
    ·cases h
  ·cases h
def spF(b:Bool) (s:List Nat):Nat:=bif b then spn isLD s else spn isD s
noncomputable def Ymp:Sum thy:=Wn (DcL.cons dS (DcL.cons dSF DcL.nil)) (λx=>x.1.length<=1000000000) (λx=>spF x.2.1 x.1) λ(y:Nat)=> .int ab .i64 y
theorem Yb8:SumOk E 97 Ymp:=Zz E_ok (Zc (f:=97) rfl) λx h=>by
 obtain⟨s,b,_⟩:=x;cases b with
 |true=>exact Zz7 s h
 |false=>exact Zz9 s h
noncomputable def Z68:Sum thy:=Wn (dA1 dS) (λx=>x.1.length<=1000000000/\∀c∈x.1,48<=c/\c<=57) (λx=>numb x.1) λy=> .tup [.int ab .i64 y.1,.int ab .i64 y.2]
theorem Z0a:SumOk E 100 Z68:=Zz E_ok (Zc (f:=100) rfl) λx h=>Zua x.1 h.1 h.2
noncomputable def Ftok:Fns thy:=addS (addS Flx 97 Ymp) 100 Z68
theorem Yiu:FnsOk E Ftok:=Zb (Zb Z63 Yb8) Z0a
def tokV(t:Tok):SV thy:= .agg [.int ab .i64 t.kind,.str ab t.text,.int ab .i64 t.n,.int ab .i64 t.at_]
abbrev Yr(t:Tok):Prop:=
 (0:Int)=cA t/\ []=cN t/\(0:Int)=fE t/\(0:Int)=dj t/\True
abbrev Wh(s:List Nat) (t:Tok) (e:Int):Prop:=
 decide ((↑(aa s):Int)>=(1:Int))=ab->(Yr t)/\(150:Int)=e/\True
abbrev Wi(s:List Nat):Prop:=
 (0:Int)<=(1:Int)/\(1:Int)<=(↑(aa s):Int)
abbrev qCD5:=(ag (1:Int))
abbrev qCD8(I:List Nat):=(↑(aa I):Int)
abbrev qCD6(I:List Nat):=((qCD8 I)>=(1:Int))
abbrev qCD7:=(0:Int)
abbrev qCD9:=(150:Int)
abbrev qCDc(I:Nat):=(↑I:Int)
abbrev qCDa(I:Nat):=(ag (qCDc I))
abbrev qCDb:=(3:Int)
theorem Z0b(s:List Nat) (t:Tok) (e:Int):Zk E Ftok (vc E Ftok 400) 56 [.str ab s] hp0 0 (λr=>ret E (patch hp0 0 r) r.v (.tup [tokV t,.int ab .i64 e]))=(
 qCD7<=qCD7/\qCD7+1<=(qCD8 s)/\∀(x:Nat),s[ag qCD7]? =ae x->True/\(isL (qCDc x)=ac->aa s<=1000000000/\∀(y:Nat),y=spF ac s->(qCD7<=(qCDc y)/\(qCDc y)<=(qCD8 s))/\(decide ((↑(aa (aw (qCDa y) s)):Int)>32)=ac->(Yr t)/\2=e/\True)/\(decide ((↑(aa (aw (qCDa y) s)):Int)>32)=ab->(1=cA t/\aw (qCDa y) s=cN t/\qCD7=fE t/\qCD7=dj t/\True)/\qCD7=e/\True))/\(isL (qCDc x)=ab->True/\(isD (qCDc x)=ac->aa s<=1000000000/\∀(y:Nat),y=spF ab s->(qCD7<=(qCDc y)/\(qCDc y)<=(qCD8 s))/\(aa (aw (qCDa y) s)<=1000000000/\∀(c:Nat),c∈aw (qCDa y) s->48<=c/\c<=57)/\∀(I:Int×Int),I=numb (aw (qCDa y) s)->(2=cA t/\aw (qCDa y) s=cN t/\ao I=fE t/\qCD7=dj t/\True)/\ay I=e/\True)/\(isD (qCDc x)=ab->qCD7<=qCD7/\qCD7+1<=(qCD8 s)/\∀(x:Nat),s[ag qCD7]? =ae x->(((qCDc x)==(↑123:Int))=ac->(decide (qCD6 s)=ac->(Wi s)/\((aw qCD5 s== [123])=ac->(qCDb=cA t/\ [123]=cN t/\qCD7=fE t/\qCD7=dj t/\True)/\qCD7=e/\True)/\((aw qCD5 s== [123])=ab->(Yr t)/\qCD9=e/\True))/\(Wh s t e))/\(((qCDc x)==(↑123:Int))=ab->(((qCDc x)==(↑125:Int))=ac->(decide (qCD6 s)=ac->(Wi s)/\((aw qCD5 s== [125])=ac->(qCDb=cA t/\ [125]=cN t/\qCD7=fE t/\qCD7=dj t/\True)/\qCD7=e/\True)/\((aw qCD5 s== [125])=ab->(Yr t)/\qCD9=e/\True))/\(Wh s t e))/\(((qCDc x)==(↑125:Int))=ab->(((qCDc x)==(↑40:Int))=ac->(decide (qCD6 s)=ac->(Wi s)/\((aw qCD5 s== [40])=ac->(qCDb=cA t/\ [40]=cN t/\qCD7=fE t/\qCD7=dj t/\True)/\qCD7=e/\True)/\((aw qCD5 s== [40])=ab->(Yr t)/\qCD9=e/\True))/\(Wh s t e))/\(((qCDc x)==(↑40:Int))=ab->(((qCDc x)==(↑41:Int))=ac->(decide (qCD6 s)=ac->(Wi s)/\((aw qCD5 s== [41])=ac->(qCDb=cA t/\ [41]=cN t/\qCD7=fE t/\qCD7=dj t/\True)/\qCD7=e/\True)/\((aw qCD5 s== [41])=ab->(Yr t)/\qCD9=e/\True))/\(Wh s t e))/\(((qCDc x)==(↑41:Int))=ab->(((qCDc x)==(↑59:Int))=ac->(decide (qCD6 s)=ac->(Wi s)/\((aw qCD5 s== [59])=ac->(qCDb=cA t/\ [59]=cN t/\qCD7=fE t/\qCD7=dj t/\True)/\qCD7=e/\True)/\((aw qCD5 s== [59])=ab->(Yr t)/\qCD9=e/\True))/\(Wh s t e))/\(((qCDc x)==(↑59:Int))=ab->(((qCDc x)==(↑44:Int))=ac->(decide (qCD6 s)=ac->(Wi s)/\((aw qCD5 s== [44])=ac->(qCDb=cA t/\ [44]=cN t/\qCD7=fE t/\qCD7=dj t/\True)/\qCD7=e/\True)/\((aw qCD5 s== [44])=ab->(Yr t)/\qCD9=e/\True))/\(Wh s t e))/\(((qCDc x)==(↑44:Int))=ab->(((qCDc x)==(↑43:Int))=ac->(decide (qCD6 s)=ac->(Wi s)/\((aw qCD5 s== [43])=ac->(qCDb=cA t/\ [43]=cN t/\qCD7=fE t/\qCD7=dj t/\True)/\qCD7=e/\True)/\((aw qCD5 s== [43])=ab->(Yr t)/\qCD9=e/\True))/\(Wh s t e))/\(((qCDc x)==(↑43:Int))=ab->(((qCDc x)==(↑45:Int))=ac->(decide (qCD6 s)=ac->(Wi s)/\((aw qCD5 s== [(45:
Nat)])=ac->(qCDb=cA t/\ [45]=cN t/\qCD7=fE t/\qCD7=dj t/\True)/\qCD7=e/\True)/\((aw qCD5 s== [45])=ab->(Yr t)/\qCD9=e/\True))/\(Wh s t e))/\(((qCDc x)==(↑45:Int))=ab->(((qCDc x)==(↑42:Int))=ac->(decide (qCD6 s)=ac->(Wi s)/\((aw qCD5 s== [42])=ac->(qCDb=cA t/\ [42]=cN t/\qCD7=fE t/\qCD7=dj t/\True)/\qCD7=e/\True)/\((aw qCD5 s== [42])=ab->(Yr t)/\qCD9=e/\True))/\(Wh s t e))/\(((qCDc x)==(↑42:Int))=ab->(((qCDc x)==(↑60:Int))=ac->(decide (qCD6 s)=ac->(Wi s)/\((aw qCD5 s== [60])=ac->(qCDb=cA t/\ [60]=cN t/\qCD7=fE t/\qCD7=dj t/\True)/\qCD7=e/\True)/\((aw qCD5 s== [60])=ab->(Yr t)/\qCD9=e/\True))/\(Wh s t e))/\(((qCDc x)==(↑60:Int))=ab->(((qCDc x)==(↑46:Int))=ac->(decide ((qCD8 s)>=2)=ac->(qCD7<=2/\2<=(qCD8 s))/\((aw (ag 2) s== [46,46])=ac->(qCDb=cA t/\ [46,46]=cN t/\qCD7=fE t/\qCD7=dj t/\True)/\qCD7=e/\True)/\((aw (ag 2) s== [46,46])=ab->(Yr t)/\qCD9=e/\True))/\(decide ((qCD8 s)>=2)=ab->(Yr t)/\qCD9=e/\True))/\(((qCDc x)==(↑46:Int))=ab->(Yr t)/\qCD9=e/\True)))))))))))))):=by kernel_rfl
def sgnW(c:Nat):Option (List Nat):=
 if c=123 then ae [123] else if c=125 then ae [125] else if c=40 then ae [40] else if c=41 then ae [41] else if c=59 then ae [59] else if c=44 then ae [44]
 else if c=43 then ae [43] else if c=45 then ae [45] else if c=42 then ae [42] else if c=60 then ae [60] else if c=46 then ae [46,46] else ar
def z0:Tok:=⟨0,[],0,0⟩
def tokS(s w:List Nat):Tok×Int:=if s.take w.length=w then(⟨3,w,0,0⟩,0) else(z0,150)
def tokP:List Nat->Tok×Int
 | []=>(z0,150)
 |c::r=>if isL c then(if 32<spn isLD (c::r) then(z0,2) else(⟨1,(c::r).take (spn isLD (c::r)),0,0⟩,0))
  else if isD c then(⟨2,(c::r).take (spn isD (c::r)),(numb ((c::r).take (spn isD (c::r)))).1,0⟩,(numb ((c::r).take (spn isD (c::r)))).2)
  else match sgnW c with|some w=>tokS (c::r) w|none=>(z0,150)
theorem Y7(c:Nat) (r:List Nat):tokP (c::r)=if isL c then(if 32<spn isLD (c::r) then(z0,2) else(⟨1,(c::r).take (spn isLD (c::r)),0,0⟩,0))
 else if isD c then(⟨2,(c::r).take (spn isD (c::r)),(numb ((c::r).take (spn isD (c::r)))).1,0⟩,(numb ((c::r).take (spn isD (c::r)))).2)
 else match sgnW c with|some w=>tokS (c::r) w|none=>(z0,150):=rfl
theorem Znt{f:Int->Bool}:∀{s:List Nat} {c:Nat},c∈s.take (spn f s)->f c=ac
 | [],c,h=>by simp at h
 |x::r,c,h=>by
  unfold spn at h
  split at h
  ·rename_i I
   rw[jt,aM] at h
   rcases h with rfl|h
   ·exact I
   ·exact Znt h
  ·simp at h
theorem Zbp(s w:List Nat) (k:Int) (J:k=w.length):
 (decide ((↑(aa s):Int)>=k)=ac->(0<=k/\k<=(↑(aa s):Int))/\((aw (ag k) s==w)=ac->(3=cA (tokS s w).1/\w=cN (tokS s w).1/\0=fE (tokS s w).1/\0=dj (tokS s w).1/\True)/\0=(tokS s w).2/\True)/\
  ((aw (ag k) s==w)=ab->(0=cA (tokS s w).1/\ []=cN (tokS s w).1/\0=fE (tokS s w).1/\0=dj (tokS s w).1/\True)/\150=(tokS s w).2/\True))/\
 (decide ((↑(aa s):Int)>=k)=ab->(0=cA (tokS s w).1/\ []=cN (tokS s w).1/\0=fE (tokS s w).1/\0=dj (tokS s w).1/\True)/\150=(tokS s w).2/\True):=by
 have e:ag k=w.length:=by omega
 rw[e]
 unfold tokS
 refine⟨λh=> ?_,λh=> ?_⟩
 ·have h:(s.length:Int)>=k:=by simpa using h
  refine⟨⟨by omega,by omega⟩,λI=> ?_,λI=> ?_⟩
  ·have I:aw w.length s=w:=by simpa using I
   rw[jQ I]
   exact⟨⟨rfl,rfl,rfl,rfl,jU⟩,rfl,jU⟩
  ·have I:aw w.length s≠w:=by simpa using I
   rw[jG I]
   exact⟨⟨rfl,rfl,rfl,rfl,jU⟩,rfl,jU⟩
 ·have h:¬(s.length:Int)>=k:=by simpa using h
  have I:aw w.length s≠w:=λe=>by
   have:=km aa e
   rw[bj] at this
   omega
  rw[jG I]
  exact⟨⟨rfl,rfl,rfl,rfl,jU⟩,rfl,jU⟩
theorem Z0c(s : List Nat) (h0 : 0 < s.length) (hs : s.length ≤ 1000000000) : PureC E 56 [.str ab s] (.tup [tokV (tokP s).1, .int ab .i64 (tokP s).2]) := by
  refine Za E_ok (Zd E_ok Yiu 400) ?_;rw[Z0b]; delta qCD5 qCD8 qCD6 qCD7 qCD9 qCDc qCDa qCDb;unfold Wi Wh Yr;cases s with
  | nil => exact kc h0 (by simp)
  | cons c r =>
  refine⟨bZ 0, by simp only[aC]; omega, λx R => ?_⟩;have R : (c :: r)[0]? = ae x := R;rw[dr] at R;cases R;refine⟨jU, λU => ?_, λU => ?_⟩
  ·refine⟨hs, λy J => ?_⟩
   have J : y = spn isLD (c :: r) := J;have a0 : y ≤ (c :: r).length := J ▸ Zq3;have hm : min y (c :: r).length = y := iR a0;have e1 : ag (y : Int) = y := by omega
   rw[e1, bj, hm];rw[Y7, jQ U, ← J];refine⟨⟨by omega, by omega⟩, λh => ?_, λh => ?_⟩
   ·have h : (32 : Int) < y := by simpa using h
    rw[jQ (by omega)];exact⟨⟨rfl, rfl, rfl, rfl, jU⟩, rfl, jU⟩
   ·have h : ¬ (32 : Int) < y := by simpa using h
    rw[jG (by omega)];exact⟨⟨rfl, rfl, rfl, rfl, jU⟩, rfl, jU⟩
  refine⟨jU, λhd => ?_, λhd => ?_⟩
  ·refine⟨hs, λy J => ?_⟩
   have J : y = spn isD (c :: r) := J;have a0 : y ≤ (c :: r).length := J ▸ Zq3;have hm : min y (c :: r).length = y := iR a0;have e1 : ag (y : Int) = y := by omega
   rw[e1, bj, hm];rw[Y7, jG (by rw[U]; decide), jQ hd, ← J];refine⟨⟨by omega, by omega⟩, ⟨by omega, λc' a1 => ?_⟩, λq hq => ?_⟩
   ·rw[J] at a1
    have := Znt a1;unfold isD at this;simp at this;omega
   ·subst hq
    exact⟨⟨rfl, rfl, rfl, rfl, jU⟩, rfl, jU⟩
  refine⟨bZ 0, by simp only[aC]; omega, λx R => ?_⟩;have R : (c :: r)[0]? = ae x := R;rw[dr] at R;cases R;have hp : ∀ w, sgnW c = ae w → tokP (c :: r) = tokS (c :: r) w := λw hw => by
    rw[Y7, jG (by rw[U]; decide), jG (by rw[hd]; decide), hw]
  have I : ∀ (n : Nat) (w : List Nat), sgnW n = ae w → ((c : Int) == (n : Int)) = ac → tokP (c :: r) = tokS (c :: r) w := λn w hw h => by
    have : c = n := by have : (c : Int) = n := by simpa using h
                       omega
    subst this;exact hp w hw
  refine⟨λh => by rw[I _ _ rfl h]; exact Zbp _ _ _ rfl, λh1 => ?_⟩;refine⟨λh => by rw[I _ _ rfl h]; exact Zbp _ _ _ rfl, λh2 => ?_⟩;refine⟨λh => by rw[I _ _ rfl h]; exact Zbp _ _ _ rfl, λh3 => ?_⟩;refine⟨λh => by rw[I _ _ rfl h]; exact Zbp _ _ _ rfl, λh4 => ?_⟩;refine⟨λh => by rw[I _ _ rfl h]; exact Zbp _ _ _ rfl, λh5 => ?_⟩;refine⟨λh => by rw[I _ _ rfl h]; exact Zbp _ _ _ rfl, λh6 => ?_⟩;refine⟨λh => by rw[I _ _ rfl h]; exact Zbp _ _ _ rfl, λh7 => ?_⟩;refine⟨λh => by rw[I _ _ rfl h]; exact Zbp _ _ _ rfl, λh8 => ?_⟩
  refine⟨λh => by rw[I _ _ rfl h]; exact Zbp _ _ _ rfl, λh9 => ?_⟩;refine⟨λh => by rw[I _ _ rfl h]; exact Zbp _ _ _ rfl, λa2 => ?_⟩;refine⟨λh => by rw[I _ _ rfl h]; exact Zbp _ _ _ rfl, λa3 => ?_⟩;have hn : sgnW c = none := by
    have f : ∀ n : Nat, ((c : Int) == (n : Int)) = ab → c ≠ n := λn h e => by subst e; simp at h
    unfold sgnW;rw[jG (f _ h1), jG (f _ h2), jG (f _ h3), jG (f _ h4), jG (f _ h5), jG (f _ h6), jG (f _ h7), jG (f _ h8), jG (f _ h9), jG (f _ a2), jG (f _ a3)]
  have : tokP (c :: r) = (z0, 150) := by
    rw[Y7, jG (by rw[U]; decide), jG (by rw[hd]; decide), hn]
  rw[this];exact⟨⟨rfl, rfl, rfl, rfl, jU⟩, rfl, jU⟩
noncomputable def Ydv:Sum thy:=Wn (dA1 dS) (λx=>0<x.1.length/\x.1.length<=1000000000) (λx=>tokP x.1) λy=> .tup [tokV y.1,.int ab .i64 y.2]
theorem Z69:SumOk E 56 Ydv:=Zz E_ok (Zc (f:=56) rfl) λx h=>Z0c x.1 h.1 h.2
structure TkX where
 at_:Nat
 ts:List Tok
 r:Nat
def Atk:Fr thy->Hp thy->Nat->Ann thy:=λT h i=>{X:=Bool×TkX,fr:=λx=> [(0,T 0),(5,match x.1 with|true=> .sl i 0 x.2.ts.length 4 ar|false=> .val (.slice ar 0 0)),(6,.int ab .i64 x.2.at_)],bl:=λx=>(match x.1 with|true=> [(i,.rows di x.2.ts 0)]|false=> []),src:=λx=>(match x.1 with|true=> [(i,5)]|false=> []),md:= [],ih:=i+1,M:=i+60,meas:=λx=>x.2.r,ex:=ex2,al:=al2,exOk:=Zij,alOk:=Zik}
noncomputable def Ftk:Fns thy:=addL (addS F0 56 Ydv) 24 5 Atk E
theorem Ymq:FnsOk E Ftk:=Zm E_ok (Zb F0_ok Z69) _ _ _
abbrev Zbq(R:Bool×TkX->Prop) (y:TkX) (s:List Nat):Prop:=
 ∃(I:TkX),R (ab,I)/\I.3+(1:Nat)<=y.3/\ac=ac/\(s=s/\aH ar (0:Nat) (0:Nat)=aH ar (0:Nat) (0:Nat)/\wr af
 ((↑(TkX.at_ y):Int)+(1:Int))=(↑(TkX.at_ I):Int)/\True)/\True
abbrev Zbr(R:Bool×TkX->Prop) (y:TkX) (s:List Nat):Prop:=
 ∃(I:TkX),R (ab,I)/\I.3+(1:Nat)<=y.3/\ac=ac/\(s=s/\False/\wr af ((↑(TkX.at_ y):Int)+(1:Int))=(↑(TkX.at_ I):Int)/\True)/\True
abbrev Zbs(s:List Nat) (y:TkX) (I:TkX):Prop:=
 s=s/\((0:Nat)=(0:Nat)/\aa (TkX.ts y)=aa (TkX.ts I)/\True)/\wr af ((↑(TkX.at_ y):Int)+(1:Int))=(↑(TkX.at_ I):Int)/\True
abbrev Zbt(y:TkX) (s:List Nat):Prop:=
 idxL (ag (10:Int)%(256:Nat)) (0:Nat) (cy (ag (↑(TkX.at_ y):Int)) s)<(0:Int)
abbrev Ze4(y:TkX) (s:List Nat):=
 ((↑(TkX.at_ y):Int)+wr af (idxL (ag (10:Int)%(256:Nat)) (0:Nat) (cy (ag (↑(TkX.at_ y):Int)) s)+(1:Int)))
abbrev Zbu(y:TkX) (s:List Nat):Prop:=
 (0:Int)<=(↑(TkX.at_ y):Int)/\(↑(TkX.at_ y):Int)<=(↑(aa s):Int)
abbrev Zbv(y:TkX) (I:Tok×Int):=
 ((↑(TkX.at_ y):Int)+(↑(aa (cN (ao I))):Int))
abbrev Zjx(y:TkX) (s:List Nat):Prop:=
 (0:Nat)+(1:Nat)<=aa (cy (ag (↑(TkX.at_ y):Int)) s)/\aa (cy (ag (↑(TkX.at_ y):Int)) s)<=(1000000000:Nat)
abbrev qCDd(I:TkX):=(↑(TkX.at_ I):Int)
abbrev qCDe:=(0:Nat)
abbrev qCDf(I:List Nat):=(↑(aa I):Int)
abbrev qCDg:=(1:Nat)
abbrev qCDh:=(0:Int)
abbrev qCDi(I:TkX) (J:TkX):=(TkX.ts I=TkX.ts J/\qCDe=qCDe)
abbrev qCDj(I:TkX) (J:List Tok):=(qCDe+aa (TkX.ts I)<=aa (TkX.ts I)/\aw (aa (TkX.ts I)) (TkX.ts I)=J)
theorem Zub(s:List Nat) (l:List Tok) (a e:Int):Zk E Ftk (vc E Ftk 400) 24 [.str ab s] hp0 0 (λr=>ret E (patch hp0 0 r) r.v (.tup [.psl di l ab,.int ab .i64 a,.int ab .i64 e]))=(
 (decide ((qCDf s)>2000)=ac->l= []/\qCDh=a/\2=e/\True)/\(decide ((qCDf s)>2000)=ab->∃(R:Bool×TkX->Prop),((∃(y:TkX),R (ab,y)/\ac=ac/\(s=s/\aH ar qCDe qCDe=aH ar qCDe qCDe/\qCDh=(qCDd y)/\True)/\True)\/∃(y:TkX),R (ac,y)/\ac=ac/\False)/\(∀(y:TkX),R (ab,y)->(decide ((qCDd y)<(qCDf s))=ac->qCDh<=(qCDd y)/\(qCDd y)+1<=(qCDf s)/\∀(x:Nat),s[ag (qCDd y)]? =ae x->(((↑x:Int)==32)=ac->(Zbq R y s)\/∃(I:TkX),R (ac,I)/\I.3+qCDg<=y.3/\ac=ac/\False)/\(((↑x:Int)==32)=ab->(((↑x:Int)==9)=ac->(Zbq R y s)\/∃(I:TkX),R (ac,I)/\I.3+qCDg<=y.3/\ac=ac/\False)/\(((↑x:Int)==9)=ab->(((↑x:Int)==13)=ac->(Zbq R y s)\/∃(I:TkX),R (ac,I)/\I.3+qCDg<=y.3/\ac=ac/\False)/\(((↑x:Int)==13)=ab->(((↑x:Int)==10)=ac->(Zbq R y s)\/∃(I:TkX),R (ac,I)/\I.3+qCDg<=y.3/\ac=ac/\False)/\(((↑x:Int)==10)=ab->(((↑x:Int)==35)=ac->(Zbu y s)/\(decide (Zbt y s)=ac->l= []/\qCDh=a/\qCDh=e/\True)/\(decide (Zbt y s)=ab->(∃(I:TkX),R (ab,I)/\I.3+qCDg<=y.3/\ac=ac/\(s=s/\aH ar qCDe qCDe=aH ar qCDe qCDe/\wr af (Ze4 y s)=(qCDd I)/\True)/\True)\/∃(I:TkX),R (ac,I)/\I.3+qCDg<=y.3/\ac=ac/\False))/\(((↑x:Int)==35)=ab->(Zbu y s)/\(Zjx y s)/\∀(I:Tok×Int),I=tokP (cy (ag (qCDd y)) s)->((ay I !=qCDh)=ac->l= []/\(qCDd y)=a/\ay I=e/\True)/\((ay I !=qCDh)=ab->(∃(J:TkX),R (ab,J)/\J.3+qCDg<=y.3/\ac=ac/\(s=s/\False/\wr af (Zbv y I)=(qCDd J)/\True)/\True)\/∃(J:TkX),R (ac,J)/\J.3+qCDg<=y.3/\ac=ac/\(s=s/\(qCDe=qCDe/\qCDg=aa (TkX.ts J)/\True)/\wr af (Zbv y I)=(qCDd J)/\True)/\([Tok.mk (cA (ao I)) (cN (ao I)) (fE (ao I)) (qCDd y)]=TkX.ts J/\qCDe=qCDe)/\True)))))))/\(decide ((qCDd y)<(qCDf s))=ab->l= []/\qCDh=a/\qCDh=e/\True))/\∀(y:TkX),R (ac,y)->(decide ((qCDd y)<(qCDf s))=ac->qCDh<=(qCDd y)/\(qCDd y)+1<=(qCDf s)/\∀(x:Nat),s[ag (qCDd y)]? =ae x->(((↑x:Int)==32)=ac->(Zbr R y s)\/∃(I:TkX),R (ac,I)/\I.3+qCDg<=y.3/\ac=ac/\(Zbs s y I)/\(qCDi y I)/\True)/\(((↑x:Int)==32)=ab->(((↑x:Int)==9)=ac->(Zbr R y s)\/∃(I:TkX),R (ac,I)/\I.3+qCDg<=y.3/\ac=ac/\(Zbs s y I)/\(qCDi y I)/\True)/\(((↑x:Int)==9)=ab->(((↑x:Int)==13)=ac->(Zbr R y s)\/∃(I:TkX),R (ac,I)/\I.3+qCDg<=y.3/\ac=ac/\(Zbs s y I)/\(qCDi y I)/\True)/\(((↑x:Int)==13)=ab->(((↑x:Int)==10)=ac->(Zbr R y s)\/∃(I:TkX),R (ac,I)/\I.3+qCDg<=y.3/\ac=ac/\(Zbs s y I)/\(qCDi y I)/\True)/\(((↑x:Int)==10)=ab->(((↑x:Int)==35)=ac->(Zbu y s)/\(decide (Zbt y s)=ac->(qCDj y l)/\qCDh=a/\qCDh=e/\True)/\(decide (Zbt y s)=ab->(∃(I:TkX),R (ab,I)/\I.3+qCDg<=y.3/\ac=ac/\(s=s/\False/\wr af (Ze4 y s)=(qCDd I)/\True)/\True)\/∃(I:TkX),R (ac,I)/\I.3+qCDg<=y.3/\ac=ac/\(s=s/\(qCDe=qCDe/\aa (TkX.ts y)=aa (TkX.ts I)/\True)/\wr af (Ze4 y s)=(qCDd I)/\True)/\(qCDi y I)/\True))/\(((↑x:Int)==(35:
Int))=ab->(Zbu y s)/\(Zjx y s)/\∀(I:Tok×Int),I=tokP (cy (ag (qCDd y)) s)->((ay I !=qCDh)=ac->l= []/\(qCDd y)=a/\ay I=e/\True)/\((ay I !=qCDh)=ab->(aa (TkX.ts y)<=aa (TkX.ts y)/\qCDe<=aa (TkX.ts y)/\(aa (TkX.ts y)+qCDg)*40<=140737488355328)/\((∃(J:TkX),R (ab,J)/\J.3+qCDg<=y.3/\ac=ac/\(s=s/\False/\wr af (Zbv y I)=(qCDd J)/\True)/\True)\/∃(J:TkX),R (ac,J)/\J.3+qCDg<=y.3/\ac=ac/\(s=s/\(qCDe=qCDe/\aa (TkX.ts y)+qCDg=aa (TkX.ts J)/\True)/\wr af (Zbv y I)=(qCDd J)/\True)/\(aw (aa (TkX.ts y)) (TkX.ts y)++ [Tok.mk (cA (ao I)) (cN (ao I)) (fE (ao I)) (qCDd y)]=TkX.ts J/\qCDe=qCDe)/\True))))))))/\(decide ((qCDd y)<(qCDf s))=ab->(qCDj y l)/\qCDh=a/\qCDh=e/\True))):=by kernel_rfl
def blk(c:Nat):Bool:=c=32||c=9||c=13||c=10
def tksL:Nat->List Nat->Nat->List Tok->List Tok×Int×Int
 |0,_,_,ts=>(ts,0,0)
 |k+1,s,p,ts=>match s[p]? with
  |none=>(ts,0,0)
  |some c=>if blk c then tksL k s (p+1) ts
   else if c=35 then(if idxL 10 0 (s.drop p)<0 then(ts,0,0) else tksL k s (p+(idxL 10 0 (s.drop p)).toNat+1) ts)
   else if(tokP (s.drop p)).2≠0 then([],p,(tokP (s.drop p)).2)
   else tksL k s (p+(tokP (s.drop p)).1.text.length) (ts++ [⟨(tokP (s.drop p)).1.kind,(tokP (s.drop p)).1.text,(tokP (s.drop p)).1.n,p⟩])
def Xd(s:List Nat):List Tok×Int×Int:=if 2000<s.length then([],0,2) else tksL s.length s 0 []
theorem Zuc(c:Nat):∀(l:List Nat) (j:Nat),idxL c j l<j+l.length/\ -1<=idxL c j l
 | [],j=>by unfold idxL;simp;try omega
 |x::r,j=>by
  unfold idxL
  split
  ·simp;try omega
  ·have:=Zuc c r (j+1)
   simp only[aC]
   omega
theorem Yb9{c:Nat} {w:List Nat} (h:sgnW c=ae w):1<=w.length:=by
 unfold sgnW at h
 repeat' split at h
 all_goals(cases h<;>simp)
theorem Zw2{s:List Nat} (h:(tokP s).2=0):1<=(tokP s).1.text.length/\(tokP s).1.text.length<=s.length/\(tokP s).1.text=s.take (tokP s).1.text.length:=by
 cases s with
 |nil=>cases h
 |cons c r=>
  rw[Y7] at h⊢;have go:∀n,1<=n->n<=(c::r).length->1<=((c::r).take n).length/\((c::r).take n).length<=(c::r).length/\(c::r).take n=(c::r).take ((c::r).take n).length:=λn R U=>by
   have e:((c::r).take n).length=n:=by rw[bj];omega
   rw[e];exact⟨R,U,rfl⟩
  split at h
  ·rename_i J
   rw[jQ J];split at h
   ·cases h
   ·rename_i hn
    rw[jG hn];refine go _ ?_ Zq3;have:isLD c=true:=by unfold isLD;rw[J];rfl
    unfold spn;rw[jQ this];omega
  ·rename_i J
   rw[jG J];split at h
   ·rename_i hd
    rw[jQ hd];refine go _ ?_ Zq3;unfold spn;rw[jQ hd];omega
   ·rename_i hd
    rw[jG hd];split at h
    ·rename_i w hw
     unfold tokS at h⊢;split at h
     ·rename_i I
      have e:=km aa I;rw[bj] at e;refine⟨?_,?_,?_⟩
      ·simp only[jQ I]
       exact Yb9 hw
      ·simp only[jQ I]
       omega
      ·simp only[jQ I]
       exact I.symm
     ·cases h
    ·cases h
def TkI(s:List Nat) (I:List Tok×Int×Int) (y:TkX):Prop:=y.at_<=s.length/\s.length<=y.at_+y.r/\y.ts.length<=y.at_/\tksL y.r s y.at_ y.ts=I
theorem Ydw{s:List Nat} {I} {y:TkX} (h:TkI s I y) (hq:¬y.at_<s.length):I=(y.ts,0,0):=by
 obtain⟨R,U,h3,J⟩:=h;rw[<-J];cases hr:y.r with
 |zero=>rfl
 |succ k=>
  unfold tksL;rw[List.getElem?_eq_none (by omega)]
theorem Zjy{s:List Nat} {res} {y:TkX} {c:Nat} (h:TkI s res y) (J:s[y.at_]? =ae c):∃k,y.r=k+1/\s.length<=y.at_+(k+1)/\y.at_<s.length/\(if blk c then tksL k s (y.at_+1) y.ts
 else if c=35 then(if idxL 10 0 (s.drop y.at_)<0 then(y.ts,0,0) else tksL k s (y.at_+(idxL 10 0 (s.drop y.at_)).toNat+1) y.ts)
 else if(tokP (s.drop y.at_)).2≠0 then([],y.at_,(tokP (s.drop y.at_)).2)
 else tksL k s (y.at_+(tokP (s.drop y.at_)).1.text.length) (y.ts++ [⟨(tokP (s.drop y.at_)).1.kind,(tokP (s.drop y.at_)).1.text,(tokP (s.drop y.at_)).1.n,y.at_⟩]))=res:=by
 obtain⟨h1,h2,h3,I⟩:=h
 have R:=(aj.1 J).1
 cases U:y.r with
 |zero=>omega
 |succ k=>
  refine⟨k,rfl,by omega,R,?_⟩
  rw[U] at I
  unfold tksL at I
  rw[J] at I
  exact I
theorem Zw3{s:List Nat} {R} {y:TkX} {c:Nat} (h:TkI s R y) (hc:s[y.at_]? =ae c) (U:blk c=ac):TkI s R ⟨y.at_+1,y.ts,y.r-1⟩/\y.r-1+1<=y.r/\y.at_<s.length:=by
 obtain⟨k,hr,hk,J,I⟩:=Zjy h hc;rw[jQ U] at I;have h3:=h.2.2.1;refine⟨⟨J,?_,?_,?_⟩,by omega,J⟩
 ·show s.length<=y.at_+1+(y.r-1)
  omega
 ·show y.ts.length<=y.at_+1
  omega
 ·rw[hr]
  exact I
theorem Ydx{s:List Nat} {R} {y:TkX} {c:Nat} (h:TkI s R y) (hc:s[y.at_]? =ae c) (I:blk c=ab) (U:c=35) (hi:¬idxL 10 0 (s.drop y.at_)<0):TkI s R ⟨y.at_+(idxL 10 0 (s.drop y.at_)).toNat+1,y.ts,y.r-1⟩/\y.r-1+1<=y.r/\y.at_+(idxL 10 0 (s.drop y.at_)).toNat+1<=s.length:=by
 obtain⟨k,hr,hk,hl,J⟩:=Zjy h hc;rw[jG (by rw[I];decide),jQ U,jG hi] at J;have h3:=h.2.2.1;have I:=(Zuc 10 (s.drop y.at_) 0).1;rw[cR] at I;refine⟨⟨?_,?_,?_,?_⟩,by omega,by omega⟩
 ·show y.at_+(idxL 10 0 (s.drop y.at_)).toNat+1<=s.length
  omega
 ·show s.length<=y.at_+(idxL 10 0 (s.drop y.at_)).toNat+1+(y.r-1)
  omega
 ·show y.ts.length<=y.at_+(idxL 10 0 (s.drop y.at_)).toNat+1
  omega
 ·rw[hr]
  exact J
theorem Z7a{s:List Nat} {J} {y:TkX} {c:Nat} (h:TkI s J y) (hc:s[y.at_]? =ae c) (U:blk c=ab) (R:c=35) (hi:idxL 10 0 (s.drop y.at_)<0):J=(y.ts,0,0):=by
 obtain⟨k,hr,hk,hl,I⟩:=Zjy h hc;rw[jG (by rw[U];decide),jQ R,jQ hi] at I;exact I.symm
theorem Ydy{s:List Nat} {J} {y:TkX} {c:Nat} (h:TkI s J y) (hc:s[y.at_]? =ae c) (U:blk c=ab) (R:c≠35) (hi:(tokP (s.drop y.at_)).2≠0):J=([],(y.at_:Int),(tokP (s.drop y.at_)).2):=by
 obtain⟨k,hr,hk,hl,I⟩:=Zjy h hc;rw[jG (by rw[U];decide),jG R,jQ hi] at I;exact I.symm
theorem Ydz{s:List Nat} {J} {y:TkX} {c:Nat} (h:TkI s J y) (hc:s[y.at_]? =ae c) (U:blk c=ab) (R:c≠35) (hi:(tokP (s.drop y.at_)).2=0):TkI s J ⟨y.at_+(tokP (s.drop y.at_)).1.text.length,y.ts++ [⟨(tokP (s.drop y.at_)).1.kind,(tokP (s.drop y.at_)).1.text,(tokP (s.drop y.at_)).1.n,y.at_⟩],y.r-1⟩/\y.r-1+1<=y.r/\y.at_+(tokP (s.drop y.at_)).1.text.length<=s.length:=by
 obtain⟨k,hr,hk,hl,I⟩:=Zjy h hc;rw[jG (by rw[U];decide),jG R,jG (by rw[hi];decide)] at I;have h3:=h.2.2.1;obtain⟨n1,n2,_⟩:=Zw2 hi;rw[cR] at n2;refine⟨⟨?_,?_,?_,?_⟩,by omega,by omega⟩
 ·show y.at_+(tokP (s.drop y.at_)).1.text.length<=s.length
  omega
 ·show s.length<=y.at_+(tokP (s.drop y.at_)).1.text.length+(y.r-1)
  omega
 ·show(y.ts++ [_]).length<=y.at_+(tokP (s.drop y.at_)).1.text.length
  rw[aB];simp;omega
 ·rw[hr]
  exact I
theorem Zud(s:List Nat):PureC E 24 [.str ab s] (.tup [.psl di (Xd s).1 ab,.int ab .i64 (Xd s).2.1,.int ab .i64 (Xd s).2.2]):=by
 refine Za E_ok (Zd E_ok Ymq 400) ?_;rw[Zub];delta qCDd qCDe qCDf qCDg qCDh qCDi qCDj;unfold Zjx Zbv Zbu Ze4 Zbt Zbs Zbr Zbq;refine⟨λh=> ?_,λh=> ?_⟩
 ·have h:(s.length:Int)>2000:=by simpa using h
  unfold Xd;rw[jQ (by omega)];exact⟨rfl,rfl,rfl,jU⟩
 have h:¬(s.length:Int)>2000:=by simpa using h
 have hp:Xd s=tksL s.length s 0 []:=by unfold Xd;rw[jG (by omega)]
 generalize Xd s=a2 at hp;refine⟨λx=>(x.1=ab->x.2.ts= [])/\TkI s a2 x.2,jm ⟨⟨0,[],s.length⟩,⟨λ_=>rfl,aX _,by show s.length<=0+s.length;omega,av _,hp.symm⟩,rfl,⟨rfl,rfl,rfl,jU⟩,jU⟩,?_,?_⟩
 all_goals
  rintro y ⟨h0,R⟩
  replace R:TkI s a2 y:=R
  refine⟨λhq=> ?_,λhq=> ?_⟩
 ·have h0:y.ts= []:=h0 rfl
  have hq:(y.at_:Int)<s.length:=by simpa using hq
  refine⟨by omega,by omega,λc J=> ?_⟩;have J:s[y.at_]? =ae c:=J;have bl:∀n:Nat,((c:Int)==(n:Int))=ac->c=n:=λn h=>by
   have:(c:Int)=n:=by simpa using h
   omega
  have nb:∀n:Nat,((c:Int)==(n:Int))=ab->c≠n:=λn h e=>by subst e;simp at h
  have gb:blk c=ac->(∃(a1:TkX),((ab=ab->a1.ts= [])/\TkI s a2 a1)/\a1.3+1<=y.3/\ac=ac/\(s=s/\aH ar 0 0=aH ar 0 0/\wr af ((↑(TkX.at_ y):Int)+1)=(↑(TkX.at_ a1):Int)/\True)/\True):=λU=>
   ⟨⟨y.at_+1,y.ts,y.r-1⟩,⟨λ_=>h0,(Zw3 R J U).1⟩,(Zw3 R J U).2.1,rfl,⟨rfl,rfl,wr64 (by omega) (by omega),jU⟩,jU⟩
  refine⟨λh1=>jm (gb (by rw[bl 32 h1];rfl)),λh1=>⟨λh2=>jm (gb (by rw[bl 9 h2];rfl)),λh2=>⟨λh3=>jm (gb (by rw[bl 13 h3];rfl)),λh3=>⟨λh4=>jm (gb (by rw[bl 10 h4];rfl)),λh4=> ?_⟩⟩⟩⟩;have U:blk c=false:=by
   unfold blk;simp[nb 32 h1,nb 9 h2,nb 13 h3,nb 10 h4]
  have ea:ag (y.at_:Int)=y.at_:=by omega
  rw[ea];refine⟨λh5=> ?_,λh5=> ?_⟩
  ·have a0:c=35:=bl 35 h5
   refine⟨⟨by omega,by omega⟩,λI=> ?_,λI=> ?_⟩
   ·have I:idxL 10 0 (s.drop y.at_)<0:=by simpa using I
    have:=Z7a R J U a0 I;rw[this,h0];exact⟨rfl,rfl,rfl,jU⟩
   ·have I:¬idxL 10 0 (s.drop y.at_)<0:=by simpa using I
    obtain⟨g1,g2,g3⟩:=Ydx R J U a0 I;refine jm ⟨⟨y.at_+(idxL 10 0 (s.drop y.at_)).toNat+1,y.ts,y.r-1⟩,⟨λ_=>h0,g1⟩,g2,rfl,⟨rfl,rfl,?_,jU⟩,jU⟩;show wr af ((y.at_:Int)+wr af (idxL 10 0 (s.drop y.at_)+1))=((y.at_+(idxL 10 0 (s.drop y.at_)).toNat+1:Nat):Int);rw[show wr af (idxL 10 0 (s.drop y.at_)+1)=idxL 10 0 (s.drop y.at_)+1 from wr64 (by omega) (by omega)];rw[wr64 (by omega) (by omega)];omega
  ·have a0:c≠35:=nb 35 h5
   refine⟨⟨by omega,by omega⟩,⟨by rw[cR];omega,by rw[cR];omega⟩,λz hz=> ?_⟩;subst hz;refine⟨λI=> ?_,λI=> ?_⟩
   ·have I:(tokP (s.drop y.at_)).2≠0:=by simpa using I
    rw[Ydy R J U a0 I];exact⟨rfl,rfl,rfl,jU⟩
   ·have I:(tokP (s.drop y.at_)).2=0:=by simpa using I
    obtain⟨g1,g2,g3⟩:=Ydz R J U a0 I;rw[h0] at g1;refine iS ⟨_,⟨(λh=>by cases h),g1⟩,g2,rfl,⟨rfl,⟨rfl,rfl,jU⟩,?_,jU⟩,⟨rfl,rfl⟩,jU⟩;show wr af ((y.at_:Int)+((tokP (s.drop y.at_)).1.text.length:Int))=((y.at_+(tokP (s.drop y.at_)).1.text.length:Nat):Int);rw[wr64 (by omega) (by omega)];omega
 ·have hq:¬(y.at_:Int)<s.length:=by simpa using hq
  rw[Ydw R (by omega),h0 rfl];exact⟨rfl,rfl,rfl,jU⟩
 ·have hq:(y.at_:Int)<s.length:=by simpa using hq
  refine⟨by omega,by omega,λc J=> ?_⟩;have J:s[y.at_]? =ae c:=J;have bl:∀n:Nat,((c:Int)==(n:Int))=ac->c=n:=λn h=>by
   have:(c:Int)=n:=by simpa using h
   omega
  have nb:∀n:Nat,((c:Int)==(n:Int))=ab->c≠n:=λn h e=>by subst e;simp at h
  have gb:blk c=ac->∃(a1:TkX),((ac=ab->a1.ts= [])/\TkI s a2 a1)/\a1.3+1<=y.3/\ac=ac/\(s=s/\(0=0/\aa (TkX.ts y)=aa (TkX.ts a1)/\True)/\wr af ((↑(TkX.at_ y):Int)+1)=(↑(TkX.at_ a1):Int)/\True)/\(TkX.ts y=TkX.ts a1/\0=0)/\True:=λU=>
   ⟨⟨y.at_+1,y.ts,y.r-1⟩,⟨(λh=>by cases h),(Zw3 R J U).1⟩,(Zw3 R J U).2.1,rfl,⟨rfl,⟨rfl,rfl,jU⟩,wr64 (by omega) (by omega),jU⟩,⟨rfl,rfl⟩,jU⟩
  refine⟨λh1=>iS (gb (by rw[bl 32 h1];rfl)),λh1=>⟨λh2=>iS (gb (by rw[bl 9 h2];rfl)),λh2=>⟨λh3=>iS (gb (by rw[bl 13 h3];rfl)),λh3=>⟨λh4=>iS (gb (by rw[bl 10 h4];rfl)),λh4=> ?_⟩⟩⟩⟩;have U:blk c=false:=by
   unfold blk;simp[nb 32 h1,nb 9 h2,nb 13 h3,nb 10 h4]
  have ea:ag (y.at_:Int)=y.at_:=by omega
  have h3:=R.2.2.1;rw[ea];refine⟨λh5=> ?_,λh5=> ?_⟩
  ·have a0:c=35:=bl 35 h5
   refine⟨⟨by omega,by omega⟩,λI=> ?_,λI=> ?_⟩
   ·have I:idxL 10 0 (s.drop y.at_)<0:=by simpa using I
    have:=Z7a R J U a0 I;rw[this];exact⟨⟨by omega,aU⟩,rfl,rfl,jU⟩
   ·have I:¬idxL 10 0 (s.drop y.at_)<0:=by simpa using I
    obtain⟨g1,g2,g3⟩:=Ydx R J U a0 I;refine iS ⟨_,⟨(λh=>by cases h),g1⟩,g2,rfl,⟨rfl,⟨rfl,rfl,jU⟩,?_,jU⟩,⟨rfl,rfl⟩,jU⟩;show wr af ((y.at_:Int)+wr af (idxL 10 0 (s.drop y.at_)+1))=((y.at_+(idxL 10 0 (s.drop y.at_)).toNat+1:Nat):Int);rw[show wr af (idxL 10 0 (s.drop y.at_)+1)=idxL 10 0 (s.drop y.at_)+1 from wr64 (by omega) (by omega)];rw[wr64 (by omega) (by omega)];omega
  ·have a0:c≠35:=nb 35 h5
   refine⟨⟨by omega,by omega⟩,⟨by rw[cR];omega,by rw[cR];omega⟩,λz hz=> ?_⟩;subst hz;refine⟨λI=> ?_,λI=> ?_⟩
   ·have I:(tokP (s.drop y.at_)).2≠0:=by simpa using I
    rw[Ydy R J U a0 I];exact⟨rfl,rfl,rfl,jU⟩
   ·have I:(tokP (s.drop y.at_)).2=0:=by simpa using I
    obtain⟨g1,g2,g3⟩:=Ydz R J U a0 I;refine⟨⟨av _,aX _,by omega⟩,iS ⟨_,⟨(λh=>by cases h),g1⟩,g2,rfl,⟨rfl,⟨rfl,?_,jU⟩,?_,jU⟩,⟨?_,rfl⟩,jU⟩⟩
    ·show y.ts.length+1=(y.ts++ [_]).length
     rw[aB];rfl
    ·show wr af ((y.at_:Int)+((tokP (s.drop y.at_)).1.text.length:Int))=((y.at_+(tokP (s.drop y.at_)).1.text.length:Nat):Int)
     rw[wr64 (by omega) (by omega)];omega
    ·show aw y.ts.length y.ts++_=y.ts++_
     rw[aU]
 ·have hq:¬(y.at_:Int)<s.length:=by simpa using hq
  rw[Ydw R (by omega)];exact⟨⟨by omega,aU⟩,rfl,rfl,jU⟩
end
section
open Go.RowKit
section
variable {Y:Thy} {E:Eng Y}
def frzH(h:Hp Y) (bs:List Nat):Hp Y:=λb=>match memB b bs with|true=>frzB (h b)|false=>h b
noncomputable def frzA(E:Eng Y) (gth:List (SV Y)->Option Y.Th) (n:Nat) (S:Sum Y):Sum Y:=λargs h i k=>
 match args with
 |a::rest=>frzL (frzK E gth h n) rest λI bs=>S (a::I) (frzH h bs) i λr=>Um (bs++r.mods) λm=>k ⟨r.v,r.n,m,patch (frzH h bs) i r,ar⟩
 | []=>False
theorem Zey{h:Hp Y} {bs:List Nat} {b:Nat} (I:frzH h bs b≠ar):h b≠none:=by
 intro e;apply I;unfold frzH;rw[e];cases memB b bs<;>rfl
theorem Ybh{h:Hp Y} {bs:List Nat} {b:Nat} (I:b∉bs):frzH h bs b=h b:=by
 unfold frzH;cases J:memB b bs with
 |true=>exact kc (memB_iff.1 J) I
 |false=>rfl
theorem Zcf(h:Hp Y) (bs:List Nat) (i:Nat) (r:Res Y):patch h i ⟨r.v,r.n,bs++r.mods,patch (frzH h bs) i r,ar⟩=patch (frzH h bs) i r:=by
 funext b;rw[Zp];by_cases c:b∈bs++r.mods\/(i<=b/\b<i+r.n)
 ·rw[jQ c]
 ·rw[jG c,Zp]
  have I:b∉bs:=λh=>c (.inl (eQ _ h));rw[jG (λh=>c (h.elim (λh=> .inl (dz _ h)) .inr)),Ybh I]
theorem Znj{h:Hp Y} {bs:List Nat} {i n:Nat} {a0:List Nat} {σ σ':Pl} {g g':GH} {w w':World} {B:Nat} (hI:Inv E B σ h g w) (I:Stp i n a0 σ (frzG E h σ bs g w) w σ' g' w'):Stp i n (bs++a0) σ g w σ' g' w':=by
 refine⟨I.sig,I.snew,(Zah hI).trans I.gle,λr o v hv=> ?_,I.gmnew,λr hr hx=>I.heap r hr λb U=>hx b (dz _ U),I.size,I.os,I.tape,I.output,λb r z J R=> ?_⟩
 ·rcases I.gcnew r o v hv with J|J|⟨b,U,J⟩
  ·rcases Zbm J with⟨_,b,U,z,x,R,_⟩|R
   ·exact .inr (.inr ⟨b,eQ _ U,z,R⟩)
   ·exact .inl R
  ·exact .inr (.inl J)
  ·exact .inr (.inr ⟨b,dz _ U,J⟩)
 ·rcases I.blk b r z J R with h3|⟨b',a1,h3⟩
  ·exact .inl h3
  ·exact .inr ⟨b',dz _ a1,h3⟩
theorem Yhz(hE:EngOk E) {gth:List (SV Y)->Option Y.Th} {n:Nat} {f:Nat} {S:Sum Y} (hS:SumOk E f S):SumOk E f (frzA E gth n S):=by
 refine⟨hS.good,λargs h i k hD R=> ?_⟩;unfold frzA at R;split at R
 case h_2=>exact R.elim
 rename_i a rest;obtain⟨a3,bs,R,o⟩:=Uq (Zbl hE n) R;obtain⟨r,R,hR,a8⟩:=hS.ok (a::a3) (frzH h bs) i _ (λb U=>hD b (Zey U)) R;rw[X3] at R;have a4:∀(B:Nat) (σ:Pl) (g:GH) (w:World) (vals:List Value),Inv E B σ h g w->DenL E σ g (a::rest) vals->DenL E σ (frzG E h σ bs g w) (a::a3) vals:=by
  intro B σ g w vals J hd;have a6:=Zah (bs:=bs) J;refine⟨by rw[<-hd.1];simp[o.len],λj sv' u I h2=> ?_⟩;cases j with
  |zero=>
   simp at I;subst I;exact(hd.2 0 _ u rfl h2).mono (.refl _) a6
  |succ j=>
   have I:a3[j]? =ae sv':=by simpa using I
   have a5:j<rest.length:=by rw[<-o.len];exact(aj.1 I).1
   exact(o.den h σ g w B _ (λ_ _=>rfl) J a6 Ze1 j _ sv' u (ak a5) I (hd.2 (j+1) _ u (by simpa using ak a5) h2)).mono (λb p h=>by cases h) (.refl _)
 refine⟨_,R,λb U=> ?_,?_⟩
 ·have U:b∈bs++r.mods:=U
  rcases cf.1 U with I|I
  ·obtain⟨y,hy,_⟩:=o.blk b I
   rw[hy];simp
  ·exact Zey (hR b I)
 rcases a8 with ht|⟨p,hp,ht⟩
 ·refine .inl ?_
  intro B σ g w vals hh a7 J hB a1 hd;obtain rfl:hh=h:=funext λb=>a7 b jU;refine(ht B σ _ w vals (frzH hh bs) (λ_ _=>rfl) (Zjr hE o.blk J) hB a1 (a4 B σ g w _ J hd)).mono ?_;rintro en w' ⟨u,he,σ',g',a2,a0,hv⟩;refine⟨u,he,σ',g',Znj J a2,?_,hv⟩;rw[Zcf];exact a0
 ·refine .inr ⟨p,hp,λB σ g w vals J hB a1 hd=> ?_⟩
  refine(ht B σ _ w vals (Zjr hE o.blk J) hB a1 (a4 B σ g w _ J hd)).mono ?_;rintro en w' ⟨he,σ',g',a2,a0⟩;refine⟨he,σ',g',Znj J a2,?_⟩;rw[Zcf];exact a0
noncomputable def Zqq(E:Eng Y) (gth:List (SV Y)->Option Y.Th) (n:Nat) (S:Sum Y):Sum Y:=λargs h i k=>
 frzL (frzK E gth h n) args λI bs=>S I (frzH h bs) i λr=>Um (bs++r.mods) λm=>k ⟨r.v,r.n,m,patch (frzH h bs) i r,ar⟩
theorem Zjn(hE:EngOk E) {gth:List (SV Y)->Option Y.Th} {n:Nat} {f:Nat} {S:Sum Y} (hS:SumOk E f S):SumOk E f (Zqq E gth n S):=by
 refine⟨hS.good,λargs h i k hD J=> ?_⟩;unfold Zqq at J;obtain⟨a5,bs,J,o⟩:=Uq (Zbl hE n) J;obtain⟨r,J,hR,a8⟩:=hS.ok a5 (frzH h bs) i _ (λb U=>hD b (Zey U)) J;rw[X3] at J;have a3:∀(B:Nat) (σ:Pl) (g:GH) (w:World) (vals:List Value),Inv E B σ h g w->DenL E σ g args vals->DenL E σ (frzG E h σ bs g w) a5 vals:=by
  intro B σ g w vals I hd;have a6:=Zah (bs:=bs) I;refine⟨by rw[<-hd.1];exact o.len,λj a9 u R h2=> ?_⟩;have a4:j<args.length:=by rw[<-o.len];exact(aj.1 R).1
  exact(o.den h σ g w B _ (λ_ _=>rfl) I a6 Ze1 j _ a9 u (ak a4) R (hd.2 j _ u (ak a4) h2)).mono (λb p h=>by cases h) (.refl _)
 refine⟨_,J,λb U=> ?_,?_⟩
 ·have U:b∈bs++r.mods:=U
  rcases cf.1 U with R|R
  ·obtain⟨y,hy,_⟩:=o.blk b R
   rw[hy];simp
  ·exact Zey (hR b R)
 rcases a8 with ht|⟨p,hp,ht⟩
 ·refine .inl ?_
  intro B σ g w vals hh a7 I hB a1 hd;obtain rfl:hh=h:=funext λb=>a7 b jU;refine(ht B σ _ w vals (frzH hh bs) (λ_ _=>rfl) (Zjr hE o.blk I) hB a1 (a3 B σ g w _ I hd)).mono ?_;rintro en w' ⟨u,he,σ',g',a2,a0,hv⟩;refine⟨u,he,σ',g',Znj I a2,?_,hv⟩;rw[Zcf];exact a0
 ·refine .inr ⟨p,hp,λB σ g w vals I hB a1 hd=> ?_⟩
  refine(ht B σ _ w vals (Zjr hE o.blk I) hB a1 (a3 B σ g w _ I hd)).mono ?_;rintro en w' ⟨he,σ',g',a2,a0⟩;refine⟨he,σ',g',Znj I a2,?_⟩;rw[Zcf];exact a0
end
end
section
open Go
noncomputable def Z3s:Sum thy:=Wn (dA1 dS) (λ_=>True) (λx=>Xd x.1) λy=> .tup [.psl di y.1 ab,.int ab .i64 y.2.1,.int ab .i64 y.2.2]
theorem Zyz:SumOk E 24 Z3s:=Zz E_ok (Zc (f:=24) rfl) λx _=>Zud x.1
noncomputable def Z3t:Sum thy:=frzA E (λ_=>ar) 2 (sumM (mI (dA1 dCls) (n1 λ_=>rfl) dCl (λ_=>rfl)) (λx a=>x.1.length<1000000000/\a.1.length<=1000000000) λx a=>Yi a.1 x.1 x.2.1)
theorem Zy0:SumOk E 31 Z3t:=Yhz E_ok (X9 E_ok (Zc rfl) λx a h=>Zyy a.1 x.1 x.2.1 h.1 h.2)
structure QX where
 cs:List Cls
 fz:Nat
 l:List Tok
 ed:Int
 p:Int
 k:Nat
def Apa:Fr thy->Hp thy->Nat->Ann thy:=λT h i=>{X:=Bool×QX,fr:=λx=> [(0,T 0),(2,T 2),(3,T 3),(4,T 4),(6,T 6),(7,.int ab .i64 x.2.p)],bl:=λx=>(bOf (T 6),.raw [.psl di x.2.l ab,.int ab .i64 x.2.ed] 0 ar)::(bOf (T 2),.raw ((cellsOf h (T 2)).take 2++ [match x.1 with|true=> .sl i 0 x.2.cs.length 9 ar|false=> .val (.slice ar 0 0)]) 0 ar)::((match x.1 with|true=> [(i,.rows bu x.2.cs x.2.fz)]|false=> [])++(blkP h (T 3)++blkP h (T 4))),src:=λx=>(match x.1 with|true=> [(i,3002)]|false=> []),md:= [bOf (T 6),bOf (T 2)],ih:=i+1,M:=i+60,meas:=λx=>x.2.k,ex:=ex2,al:=al2,exOk:=Zij,alOk:=Zik}
noncomputable def Fpa:Fns thy:=addL (addS (addS (addS Fme 29 Z8p) 24 Z3s) 31 Z3t) 7 12 Apa E
theorem Yko:FnsOk E Fpa:=Zm E_ok (Zb (Zb (Zb Zh4 Zvb) Zyz) Zy0) _ _ _
abbrev Xq(t:Tar):Prop:=
 []=bP t/\0=bG t/\au t= []/\True
abbrev Zmz(R:Bool×QX->Prop) (a0:QX) (s:List Nat) (a1:Int) (x':PX) (J:List Nat) (U:Int) (y:List Tok×Int×Int):Prop:=
 ∃(I:QX),R (ab,I)/\I.6+1<=a0.6/\ac=ac/\(s=s/\0=0/\0=0/\0=0/\0=0/\
 a1=QX.p I/\True)/\((ao x'=QX.l I/\(ab=ac->ab=ac))/\ao (ay x')=QX.ed I/\True)/\(J=J/\wr af (1+U)=
 wr af (1+U)/\False/\True)/\(ao (ay y)=ao (ay y)/\True)/\(ay (ay y)=ay (ay y)/\True)/\True
abbrev Zm0(I:Cls):=
 (bY (aJ (aE I)) (cd (aE I)) (bC (aE I)) (bD (aE I)) (bE (aE I)) (bF (aE I)) (bx (aE I)))
abbrev Zm1(I:QX) (t:Tar) (a:Int) (e:Int):Prop:=
 decide ((↑(aa (bw (QX.l I))):Int)>0)=ac->∀(y:Int),y=hdT (QX.ed I) (bw (QX.l I))->(Xq t)/\y=a/\160=e/\
 True
abbrev Zg1(I:QX):=
 (aw (aa (QX.cs I)) (cy 0 (QX.cs I)))
abbrev qCF1:=0
abbrev qCF2(I:List Nat) (J:Int) (R:QX):=(I=I/\qCF1=qCF1/\qCF1=qCF1/\qCF1=qCF1/\qCF1=qCF1/\J=QX.p R/\True)
abbrev qCF3(I:PX):=(ao (ay I))
abbrev qCF4(I:QX):=(bw (QX.l I))
abbrev qCF5(I:QX):=(aa (QX.cs I))
abbrev qCF6(I:PX) (J:QX):=((ao I=QX.l J/\(ab=ac->ab=ac))/\ao (ay I)=QX.ed J/\True)
abbrev qCF7(I:List Tok×Int×Int):=(ao (ay I)=ao (ay I)/\True)
abbrev qCF8(I:List Tok×Int×Int):=(ay (ay I)=ay (ay I)/\True)
theorem Zy1(s:List Nat) (t:Tar) (a e:Int):Zk E Fpa (vc E Fpa 400) 7 [.str ab s] hp0 0 (λr=>ret E (patch hp0 0 r) r.v (.tup [.agg [.str ab t.name,.int ab .i64 t.for_,.psl bu t.clauses ab],.int ab .i64 a,.int ab .i64 e]))=(
 True/\∀(y:List Tok×Int×Int),y=Xd s->((ay (ay y) !=0)=ac->(Xq t)/\ao (ay y)=a/\ay (ay y)=e/\True)/\((ay (ay y) !=0)=ab->(isW [116,97,114,105,102,102] (ao y)=ac->True/\(∀(a0:List Nat) (x':PX),Zar (bw (ao y)) (↑(aa s):Int)=aT (a0,x')->(isW [102,111,114] (ao x')=ac->(gk=dI\/gk=gk\/gk=eN)/\(∀(a1:Int) (a2:PX),Yw (dJ gk) (bw (ao x')) (qCF3 x')=aT (a1,a2)->(isW [123] (ao a2)=ac->∀(a5:Int),a5=hdT (qCF3 a2) (bw (ao a2))->∃(R:Bool×QX->Prop),((∃(I:QX),R (ab,I)/\ac=ac/\(qCF2 s a5 I)/\((bw (ao a2)=QX.l I/\(ab=ac->ab=ac))/\ao (ay a2)=QX.ed I/\True)/\(a0=a0/\wr af (1+a1)=wr af (1+a1)/\aH ar qCF1 qCF1=aH ar qCF1 qCF1/\True)/\(qCF7 y)/\(qCF8 y)/\True)\/∃(y:QX),R (ac,y)/\ac=ac/\False)/\(∀(I:QX),R (ab,I)->(isW [99,108,97,117,115,101] (QX.l I)=ac->(aa (qCF4 I)+1<=1000000000/\qCF1<=1000000000)/\(∀(a3:Cls) (x':PX),Yi [] (qCF4 I) (QX.ed I)=aT (a3,x')->∀(a4:Int),a4=hdT (qCF3 x') (ao x')->(Zmz R I s a4 x' a0 a1 y)\/∃(U:QX),R (ac,U)/\U.6+1<=I.6/\ac=ac/\(qCF2 s a4 U)/\(qCF6 x' U)/\(a0=a0/\wr af (1+a1)=wr af (1+a1)/\(qCF1=qCF1/\1=aa (QX.cs U)/\True)/\True)/\([fb (aP a3) (aY a3) (Zm0 a3)]=QX.cs U/\qCF1=QX.fz U)/\(qCF7 y)/\(qCF8 y)/\True)/\∀(J:Int×Int),Yi [] (qCF4 I) (QX.ed I)=aA J->(Xq t)/\ao J=a/\ay J=e/\True)/\(isW [99,108,97,117,115,101] (QX.l I)=ab->(isW [125] (QX.l I)=ac->(Zm1 I t a e)/\(decide ((↑(aa (qCF4 I)):Int)>0)=ab->(a0=bP t/\wr af (1+a1)=bG t/\au t= []/\True)/\0=a/\0=e/\True))/\(isW [125] (QX.l I)=ab->(Xq t)/\hdT (QX.ed I) (QX.l I)=a/\160=e/\True)))/\∀(I:QX),R (ac,I)->(isW [99,108,97,117,115,101] (QX.l I)=ac->(((↑(qCF5 I):Int)==64)=ac->(Xq t)/\QX.p I=a/\2=e/\True)/\(((↑(qCF5 I):Int)==64)=ab->qCF1+aa (QX.cs I)<=aa (QX.cs I)/\(aa (qCF4 I)+1<=1000000000/\aa (Zg1 I)<=1000000000)/\(∀(a3:Cls) (x':PX),Yi (Zg1 I) (qCF4 I) (QX.ed I)=aT (a3,x')->(aa (QX.cs I)<=aa (QX.cs I)/\mx2 (QX.fz I) (qCF5 I)<=aa (QX.cs I)/\(aa (QX.cs I)+1)*112<=140737488355328)/\∀(a4:Int),a4=hdT (qCF3 x') (ao x')->(Zmz R I s a4 x' a0 a1 y)\/∃(U:QX),R (ac,U)/\U.6+1<=I.6/\ac=ac/\(qCF2 s a4 U)/\(qCF6 x' U)/\(a0=a0/\wr af (1+a1)=wr af (1+a1)/\(qCF1=qCF1/\aa (QX.cs I)+1=aa (QX.cs U)/\True)/\True)/\(aw (qCF5 I) (QX.cs I)++ [fb (aP a3) (aY a3) (Zm0 a3)]=QX.cs U/\mx2 (QX.fz I) (qCF5 I)=QX.fz U)/\(qCF7 y)/\(qCF8 y)/\True)/\∀(J:Int×Int),Yi (Zg1 I) (qCF4 I) (QX.ed I)=aA
J->(Xq t)/\ao J=a/\ay J=e/\True))/\(isW [99,108,97,117,115,101] (QX.l I)=ab->(isW [125] (QX.l I)=ac->(Zm1 I t a e)/\(decide ((↑(aa (qCF4 I)):Int)>0)=ab->(a0=bP t/\wr af (1+a1)=bG t/\(qCF1+aa (QX.cs I)<=aa (QX.cs I)/\aw (qCF5 I) (QX.cs I)=au t)/\True)/\0=a/\0=e/\True))/\(isW [125] (QX.l I)=ab->(Xq t)/\hdT (QX.ed I) (QX.l I)=a/\160=e/\True)))/\(isW [123] (ao a2)=ab->(Xq t)/\hdT (qCF3 a2) (ao a2)=a/\160=e/\True))/\∀(J:Int×Int),Yw (dJ gk) (bw (ao x')) (qCF3 x')=aA J->(Xq t)/\ao J=a/\ay J=e/\True)/\(isW [102,111,114] (ao x')=ab->(Xq t)/\hdT (qCF3 x') (ao x')=a/\160=e/\True))/\∀(J:Int×Int),Zar (bw (ao y)) (↑(aa s):Int)=aA J->(Xq t)/\ao J=a/\ay J=e/\True)/\(isW [116,97,114,105,102,102] (ao y)=ab->(Xq t)/\hdT (↑(aa s):Int) (ao y)=a/\160=e/\True))):=by kernel_rfl
theorem Zs5:∀{k:Nat} {more:Bool} {ts:List Tst} {l:List Tok} {e:Int} {I:List Tst} {x:PX},pTs k more ts l e= .ok (I,x)->x.1.length<=l.length
 |0,more,ts,l,e,I,x,h=>by
  unfold pTs at h
  injection h with h
  injection h with _ h
  subst h
  exact av _
 |k+1,more,ts,l,e,I,x,h=>by
  unfold pTs at h
  split at h
  ·split at h
   ·cases h
   ·rename_i t z R
    have U:=(Zip R).1
    have J:=Zs5 h
    split at J
    ·rw[dM] at J
     omega
    ·omega
  ·injection h with h
   injection h with _ h
   subst h
   exact av _
theorem Ykp{l:List Tok} {e:Int} {y:Ex} {x:PX} (h:pX l e= .ok (y,x)):x.1.length<=l.length:=by
 have:=Zo6 l e y x h;omega
theorem Z9t{nm:List Nat} {ts:List Tst} {l:List Tok} {e:Int} {c:Cls} {x:PX} (h:pPay nm ts l e= .ok (c,x)):x.1.length<=l.length:=by
 unfold pPay at h;split at h
 ·split at h
  ·cases h
  ·rename_i y z J
   have I:=Ykp J;rw[dM] at I;split at h
   ·cases h
   ·split at h
    ·injection h with h
     injection h with _ h
     subst h;show z.1.tail.length<=l.length;rw[dM];omega
    ·cases h
 ·cases h
theorem U9{bs:List Cls} {l:List Tok} {e:Int} {c:Cls} {x:PX} (h:Yi bs l e= .ok (c,x)):x.1.length<=l.length:=by
 unfold Yi at h;split at h
 ·cases h
 ·rename_i nm z R
  have U:=Ux R;split at h
  ·cases h
  ·unfold pAft at h
   split at h
   ·cases h
   ·rename_i ts y J
    have I:=Zs5 J;have h3:=Z9t h;split at I
    ·rw[dM] at I
     omega
    ·omega
def Wx:List Nat:= [99,108,97,117,115,101]
def pCls:Nat->List Cls->List Tok->Int->PR (List Cls)
 |0,cs,l,e=> .ok (cs,l,e,())
 |k+1,cs,l,e=>if isW [99,108,97,117,115,101] l then(if cs.length=64 then .error (hdT e l,2) else match Yi cs l.tail e with
  | .error I=> .error I
  | .ok (c,x)=>pCls k (cs++ [c]) x.1 x.2.1) else .ok (cs,l,e,())
def pEnd(nm:List Nat) (J:Int):PR (List Cls)->PR Tar
 | .error I=> .error I
 | .ok (cs,x)=>if isW [125] x.1 then(if 0<x.1.tail.length then .error (hdT x.2.1 x.1.tail,160) else .ok (⟨nm,J,cs⟩,x.1.tail,x.2.1,())) else .error (hdT x.2.1 x.1,160)
def pTar(l:List Tok) (e:Int):PR Tar:=
 if isW [116,97,114,105,102,102] l then
  match Zar l.tail e with
  | .error I=> .error I
  | .ok (nm,x)=>
   if isW [102,111,114] x.1 then
    match Yw gk.words x.1.tail x.2.1 with
    | .error I=> .error I
    | .ok (k,z)=>if isW [123] z.1 then pEnd nm (wr .i64 (1+k)) (pCls (z.1.tail.length+1) [] z.1.tail z.2.1) else .error (hdT z.2.1 z.1,160)
   else .error (hdT x.2.1 x.1,160)
 else .error (hdT e l,160)
def zT:Tar:=⟨[],0,[]⟩
def outT:PR Tar->Tar×Int×Int
 | .ok y=>(y.1,0,0)
 | .error I=>(zT,I.1,I.2)
def Xf(s:List Nat):Tar×Int×Int:=if(Xd s).2.2≠0 then(zT,(Xd s).2.1,(Xd s).2.2) else outT (pTar (Xd s).1 s.length)
theorem Zg2:∀{k:Nat} {s:List Nat} {p:Nat} {ts:List Tok},ts.length<=p->p<=s.length->(tksL k s p ts).1.length<=s.length
 |0,s,p,ts,I,J=>by unfold tksL;exact bT I J
 |k+1,s,p,ts,I,J=>by
  unfold tksL
  split
  ·exact bT I J
  ·rename_i c U
   have a0:=(aj.1 U).1
   split
   ·exact Zg2 (by omega) a0
   ·split
    ·split
     ·exact bT I J
     ·have:=(Zuc 10 (s.drop p) 0).1
      rw[cR] at this
      exact Zg2 (by omega) (by omega)
    ·split
     ·exact aX _
     ·rename_i R
      have R:(tokP (s.drop p)).2=0:=by simpa using R
      obtain⟨n1,n2,_⟩:=Zw2 R
      rw[cR] at n2
      exact Zg2 (by rw[aB];simp;omega) (by omega)
theorem Zit(s:List Nat):(Xd s).1.length<=2000:=by
 unfold Xd;split
 ·exact aX _
 ·have:=Zg2 (k:=s.length) (s:=s) (p:=0) (ts:= []) (av _) (aX _)
  omega
theorem Ziu(c:Cls):fb (aP c) (aY c) (bY (aJ (aE c)) (cd (aE c)) (bC (aE c)) (bD (aE c)) (bE (aE c)) (bF (aE c)) (bx (aE c)))=c:=by
 obtain⟨a,b,p⟩:=c;cases p;rfl
theorem Zy2(s:List Nat):PureC E 7 [.str ab s] (.tup [.agg [.str ab (Xf s).1.name,.int ab .i64 (Xf s).1.for_,.psl bu (Xf s).1.clauses ab],.int ab .i64 (Xf s).2.1,.int ab .i64 (Xf s).2.2]):=by
 refine Za E_ok (Zd E_ok Yko 400) ?_;rw[Zy1];delta qCF1 qCF2 qCF3 qCF4 qCF5 qCF6 qCF7 qCF8;unfold Zg1 Zm1 Zm0 Zmz Xq;refine⟨jU,λy hy=> ?_⟩;have a0:y.1.length<=2000:=hy▸Zit s;have I:Xf s=if y.2.2≠0 then(zT,y.2.1,y.2.2) else outT (pTar y.1 s.length):=by subst hy;rfl
 generalize Xf s=res at I;refine⟨λh=> ?_,λh=> ?_⟩
 ·have h:y.2.2≠0:=by simpa using h
  rw[jQ h] at I;subst I;exact⟨⟨rfl,rfl,rfl,jU⟩,rfl,rfl,jU⟩
 have h:y.2.2=0:=by simpa using h
 rw[jG (by rw[h];decide)] at I;unfold pTar at I;refine⟨λh1=>⟨jU,λnm x hx=>⟨λh2=>⟨.inr (.inl rfl),λfo z hz=>⟨λh3=> ?_,λh3=> ?_⟩,λer he=> ?_⟩,λh2=> ?_⟩,λer he=> ?_⟩,λh1=> ?_⟩
 rotate_left
 ·rw[jQ h1,hx] at I
  simp only[jQ h2,hz,h3] at I;subst I;exact⟨⟨rfl,rfl,rfl,jU⟩,rfl,rfl,jU⟩
 ·rw[jQ h1,hx] at I
  simp only[jQ h2,he] at I;subst I;exact⟨⟨rfl,rfl,rfl,jU⟩,rfl,rfl,jU⟩
 ·rw[jQ h1,hx] at I
  simp only[h2] at I;subst I;exact⟨⟨rfl,rfl,rfl,jU⟩,rfl,rfl,jU⟩
 ·rw[jQ h1,he] at I
  subst I;exact⟨⟨rfl,rfl,rfl,jU⟩,rfl,rfl,jU⟩
 ·rw[h1] at I
  subst I;exact⟨⟨rfl,rfl,rfl,jU⟩,rfl,rfl,jU⟩
 rw[jQ h1,hx] at I;simp only[jQ h2,hz,jQ h3] at I;have l1:=Zv h1;have l2:=Ux hx;have l3:=Zv h2;have l4:z.1.length<=x.1.tail.length:=by
  unfold Yw at hz;split at hz
  ·injection hz with hz
   injection hz with _ hz
   subst hz;show x.1.tail.tail.length<=_;rw[dM (l:=x.1.tail)];omega
  ·cases hz
 have l5:=Zv h3;intro q hq;subst hq
 refine⟨λv=>(v.1=ab->v.2.cs= [])/\outT (pEnd nm (wr .i64 (1+fo)) (pCls v.2.k v.2.cs v.2.l v.2.ed))=res/\v.2.p=hdT v.2.ed v.2.l/\v.2.l.length<v.2.k/\v.2.l.length<=2000/\v.2.fz<=v.2.cs.length/\v.2.cs.length<=64,
  .inl ⟨⟨[],0,z.1.tail,z.2.1,hdT z.2.1 z.1.tail,z.1.tail.length+1⟩,⟨λ_=>rfl,I.symm,rfl,dx _,?_,av _,aX _⟩,rfl,⟨rfl,rfl,rfl,rfl,rfl,rfl,jU⟩,⟨⟨rfl,λh=>h⟩,rfl,jU⟩,⟨rfl,rfl,rfl,jU⟩,⟨rfl,jU⟩,⟨rfl,jU⟩,jU⟩,?_,?_⟩
 ·show z.1.tail.length<=2000
  omega
 all_goals
  rintro v ⟨v0,v1,v2,v3,v4,v5,v6⟩
  replace v1:outT (pEnd nm (wr .i64 (1+fo)) (pCls v.k v.cs v.l v.ed))=res:=v1
  replace v2:v.p=hdT v.ed v.l:=v2
  replace v3:v.l.length<v.k:=v3
  replace v4:v.l.length<=2000:=v4
  replace v5:v.fz<=v.cs.length:=v5
  replace v6:v.cs.length<=64:=v6
  obtain⟨k,hk⟩:∃k,v.k=k+1:=⟨v.k-1,by omega⟩;rw[hk] at v1;unfold pCls at v1;refine⟨λU=> ?_,λU=>⟨λw2=>⟨λJ=> ?_,λJ=> ?_⟩,λw2=> ?_⟩⟩
 ·have v0:v.cs= []:=v0 rfl
  rw[jQ U,v0,jG (by simp)] at v1;have l6:=Zv U;refine⟨⟨by omega,by omega⟩,λc x' hc a ha=> ?_,λer he=> ?_⟩
  ·subst ha
   rw[hc] at v1;have l7:=U9 hc;refine .inr ⟨⟨[c],0,x'.1,x'.2.1,hdT x'.2.1 x'.1,k⟩,⟨λh=>(by cases h),v1,rfl,(by show x'.1.length<k;omega),(by show x'.1.length<=2000;omega),aX _,(by show 1<=64;decide)⟩,(by show k+1<=v.k;omega),rfl,⟨rfl,rfl,rfl,rfl,rfl,rfl,jU⟩,⟨⟨rfl,λh=>h⟩,rfl,jU⟩,⟨rfl,rfl,⟨rfl,rfl,jU⟩,jU⟩,⟨?_,rfl⟩,⟨rfl,jU⟩,⟨rfl,jU⟩,jU⟩;rw[Ziu]
  ·rw[he] at v1
   subst v1;exact⟨⟨rfl,rfl,rfl,jU⟩,rfl,rfl,jU⟩
 ·rw[jG (by rw[U];decide)] at v1
  simp only[pEnd,jQ w2] at v1;have J:0<v.l.tail.length:=by
   have:(0:Int)<v.l.tail.length:=by simpa only[fK] using J
   omega
  rw[jQ J] at v1;intro a ha;subst ha;subst v1;exact⟨⟨rfl,rfl,rfl,jU⟩,rfl,rfl,jU⟩
 ·have v0:v.cs= []:=v0 rfl
  rw[jG (by rw[U];decide)] at v1;simp only[pEnd,jQ w2] at v1;have J:¬0<v.l.tail.length:=by
   have:¬(0:Int)<v.l.tail.length:=by simpa only[fC] using J
   omega
  rw[jG J,v0] at v1;subst v1;exact⟨⟨rfl,rfl,rfl,jU⟩,rfl,rfl,jU⟩
 ·rw[jG (by rw[U];decide)] at v1
  simp only[pEnd,w2] at v1;subst v1;exact⟨⟨rfl,rfl,rfl,jU⟩,rfl,rfl,jU⟩
 ·have l6:=Zv U
  rw[jQ U] at v1;rw[ee,aU];refine⟨λR=> ?_,λR=>⟨by omega,⟨by omega,by omega⟩,λc x' hc=>⟨⟨av _,by rw[Zll];omega,by omega⟩,λa ha=> ?_⟩,λer he=> ?_⟩⟩
  ·have R:v.cs.length=64:=by
    have w5:(v.cs.length:Int)=64:=eq_of_beq R;omega
   rw[jQ R] at v1;subst v1;exact⟨⟨rfl,rfl,rfl,jU⟩,v2,rfl,jU⟩
  ·subst ha
   have R:v.cs.length≠64:=λe=>by rw[e] at R;simp at R
   rw[jG R,hc] at v1;have l7:=U9 hc;refine .inr ⟨⟨v.cs++ [c],mx2 v.fz v.cs.length,x'.1,x'.2.1,hdT x'.2.1 x'.1,k⟩,⟨λh=>(by cases h),v1,rfl,(by show x'.1.length<k;omega),(by show x'.1.length<=2000;omega),?_,?_⟩,(by show k+1<=v.k;omega),rfl,⟨rfl,rfl,rfl,rfl,rfl,rfl,jU⟩,⟨⟨rfl,λh=>h⟩,rfl,jU⟩,⟨rfl,rfl,⟨rfl,?_,jU⟩,jU⟩,⟨?_,rfl⟩,⟨rfl,jU⟩,⟨rfl,jU⟩,jU⟩
   ·show mx2 v.fz v.cs.length<=(v.cs++ [c]).length
    rw[Zll,aB];omega
   ·show(v.cs++ [c]).length<=64
    rw[aB];simp;omega
   ·show v.cs.length+1=(v.cs++ [c]).length
    rw[aB];rfl
   ·rw[Ziu]
  ·have R:v.cs.length≠64:=λe=>by rw[e] at R;simp at R
   rw[jG R,he] at v1;subst v1;exact⟨⟨rfl,rfl,rfl,jU⟩,rfl,rfl,jU⟩
 ·rw[jG (by rw[U];decide)] at v1
  simp only[pEnd,jQ w2] at v1;have J:0<v.l.tail.length:=by
   have:(0:Int)<v.l.tail.length:=by simpa only[fK] using J
   omega
  rw[jQ J] at v1;intro a ha;subst ha;subst v1;exact⟨⟨rfl,rfl,rfl,jU⟩,rfl,rfl,jU⟩
 ·rw[jG (by rw[U];decide)] at v1
  simp only[pEnd,jQ w2] at v1;have J:¬0<v.l.tail.length:=by
   have:¬(0:Int)<v.l.tail.length:=by simpa only[fC] using J
   omega
  rw[jG J] at v1;subst v1;exact⟨⟨rfl,rfl,⟨by omega,aU⟩,jU⟩,rfl,rfl,jU⟩
 ·rw[jG (by rw[U];decide)] at v1
  simp only[pEnd,w2] at v1;subst v1;exact⟨⟨rfl,rfl,rfl,jU⟩,rfl,rfl,jU⟩
end
section
open Go
def decN(n:Int):List Nat:=(gO n).map cX
theorem Ztt(w:World):Ext w w:=⟨rfl,rfl,rfl,av _,λ_ _=>rfl⟩
theorem Zzp(x:Int) (I:0<=x) (J:x<=18446744073709551615):PureC E 168 [.int ab .u64 x] (.int ab .i64 (fT x.toNat)):=by
 refine U3 λg w U hd=> ?_;obtain⟨u,rfl,R⟩:=Yfb hd;cases R;refine(Any.bits_Len64 Tryz.lays129 x w I J).mono ?_;rintro e w' ⟨rfl,rfl⟩;exact⟨_,rfl,.int _ _ _,Ztt _⟩
theorem Ybi(x:Nat) (h:x<=64):PureC E 167 [.int ab .i64 x] (.int ab .i64 (jW x)):=by
 refine U3 λg w J hd=> ?_;obtain⟨u,rfl,I⟩:=Yfb hd;cases I;refine(Any.internal_strconv_log10Pow2 Tryz.lays317 x h w).mono ?_;rintro e R ⟨rfl,rfl⟩;exact⟨_,rfl,.int _ _ _,Ztt _⟩
theorem Yl5(l:List UInt8):toL ⟨l.toArray⟩=l.map cX:=rfl
theorem Zzq(x:Nat) (h:x<100):PureC E 159 [.int ab .i64 x] (.str ab ((eT x).map cX)):=by
 refine U3 λg w J hd=> ?_;obtain⟨u,rfl,I⟩:=Yfb hd;cases I;refine(Any.internal_strconv_small Tryz.lays283 x h w).mono ?_;rintro e R ⟨rfl,rfl⟩;exact⟨_,rfl,.str _ (Yl5 _),Ztt _⟩
noncomputable def dU64:Dc E Int:=dInt .u64
noncomputable def Ydr:Sum thy:=Wn (dA1 dU64) (λx=>0<=x.1/\x.1<=18446744073709551615) (λx=>fT x.1.toNat) λ(y:Nat)=> .int ab .i64 y
theorem Z6a:SumOk E 168 Ydr:=Zz E_ok (Zc rfl) λx h=>Zzp x.1 h.1 h.2
noncomputable def Sl10:Sum thy:=Wn (dA1 dN) (λx=>0<=x.1/\x.1<=64) (λx=>jW x.1.toNat) λ(y:Nat)=> .int ab .i64 y
theorem Yh0:SumOk E 167 Sl10:=Zz E_ok (Zc rfl) λx h=>by
 have:=Ybi x.1.toNat (by omega);rw[show((x.1.toNat:Nat):Int)=x.1 by omega] at this;exact this
noncomputable def Fnd:Fns thy:=addS (addS F0 168 Ydr) 167 Sl10
abbrev Yh1(I:Nat):=
 ((↑I:Int)==(↑(0+1+1+1+1+1+1+1+1+1+1+1+1+(1
 :Nat)+1+1+1+1+1+1):Int))
abbrev Yh2(I:Nat):=
 ((↑I:Int)==(↑(0+1+1+1+1+1+1+1+1+1+1+1+1+(1
 :Nat)+1+1+1+1+1):Int))
abbrev Yh3(I:Nat):=
 ((↑I:Int)==(↑(0+1+1+1+1+1+1+1+1+1+1+1+1+(1
 :Nat)+1+1+1+1):Int))
abbrev Yh4(I:Nat):=
 ((↑I:Int)==(↑(0+1+1+1+1+1+1+1+1+1+1+1+1+(1
 :Nat)+1+1+1):Int))
abbrev Yh5(I:Nat):=
 ((↑I:Int)==(↑(0+1+1+1+1+1+1+1+1+1+1+1+1+(1
 :Nat)+1+1):Int))
abbrev Yh6(I:Nat):=
 ((↑I:Int)==(↑(0+1+1+1+1+1+1+1+1+1+1+1+1+(1
 :Nat)+1):Int))
abbrev Yh7(I:Nat):=
 ((↑I:Int)==(↑(0+1+1+1+1+1+1+1+1+1+1+1+1+(1
 :Nat)):Int))
abbrev Yh8(I:Nat):=
 ((↑I:Int)==(↑(0+1+1+1+1+1+1+1+1+1+1+1+1):
 Int))
abbrev Yh9(I:Nat):=
 ((↑I:Int)==(↑(0+1+1+1+1+1+1+1+1+1+1+1):Int))
abbrev Yia(I:Nat):=
 ((↑I:Int)==(↑(0+1+1+1+1+1+1+1+1+1+1):Int))
abbrev Z6b(I:Nat):=
 ((↑I:Int)==(↑(0+1+1+1+1+1+1+1+1+1):Int))
abbrev Z6c(I:Nat):=
 ((↑I:Int)==(↑(0+1+1+1+1+1+1+1+1):Int))
abbrev Z6d(I:Nat):=
 ((↑I:Int)==(↑(0+1+1+1+1+1+1+1):Int))
abbrev Z6e(I:Nat):=
 ((↑I:Int)==(↑(0+1+1+1+1+1+1):Int))
abbrev qCG1(I:Nat):=((↑I:Int)+1)
abbrev qCG2(I:Nat):=((↑I:Int)+0)
abbrev qCG3:=1
abbrev qCG4:=0
abbrev qCG5:=(↑(qCG4+qCG3+qCG3+qCG3+qCG3+qCG3):Int)
theorem Yib(u:Int) (v:Int):Zk E Fnd (vc E Fnd 400) 160 [.int ab .u64 u] hp0 0 (λr=>ret E (patch hp0 0 r) r.v (.int ab .i64 v))=(
 (0<=u/\u<=18446744073709551615)/\∀(y:Nat),y=fT (ag u)->(0<=(↑y:Int)/\(↑y:Int)<=64)/\∀(I:Nat),I=jW (ag (↑y:Int))->0<=(↑I:Int)/\(↑I:Int)+1<=(↑20:Int)/\(((↑I:Int)==(↑qCG4:Int))=ac->(decide (u>=1)=ac->wr af (qCG1 I)=v)/\(decide (u>=1)=ab->wr af (qCG2 I)=v))/\(((↑I:Int)==(↑qCG4:Int))=ab->(((↑I:Int)==(↑(qCG4+qCG3):Int))=ac->(decide (u>=10)=ac->wr af (qCG1 I)=v)/\(decide (u>=10)=ab->wr af (qCG2 I)=v))/\(((↑I:Int)==(↑(qCG4+qCG3):Int))=ab->(((↑I:Int)==(↑(qCG4+qCG3+qCG3):Int))=ac->(decide (u>=100)=ac->wr af (qCG1 I)=v)/\(decide (u>=100)=ab->wr af (qCG2 I)=v))/\(((↑I:Int)==(↑(qCG4+qCG3+qCG3):Int))=ab->(((↑I:Int)==(↑(qCG4+qCG3+qCG3+qCG3):Int))=ac->(decide (u>=1000)=ac->wr af (qCG1 I)=v)/\(decide (u>=1000)=ab->wr af (qCG2 I)=v))/\(((↑I:Int)==(↑(qCG4+qCG3+qCG3+qCG3):Int))=ab->(((↑I:Int)==(↑(qCG4+qCG3+qCG3+qCG3+qCG3):Int))=ac->(decide (u>=10000)=ac->wr af (qCG1 I)=v)/\(decide (u>=10000)=ab->wr af (qCG2 I)=v))/\(((↑I:Int)==(↑(qCG4+qCG3+qCG3+qCG3+qCG3):Int))=ab->(((↑I:Int)==qCG5)=ac->(decide (u>=100000)=ac->wr af (qCG1 I)=v)/\(decide (u>=100000)=ab->wr af (qCG2 I)=v))/\(((↑I:Int)==qCG5)=ab->((Z6e I)=ac->(decide (u>=1000000)=ac->wr af (qCG1 I)=v)/\(decide (u>=1000000)=ab->wr af (qCG2 I)=v))/\((Z6e I)=ab->((Z6d I)=ac->(decide (u>=10000000)=ac->wr af (qCG1 I)=v)/\(decide (u>=10000000)=ab->wr af (qCG2 I)=v))/\((Z6d I)=ab->((Z6c I)=ac->(decide (u>=100000000)=ac->wr af (qCG1 I)=v)/\(decide (u>=100000000)=ab->wr af (qCG2 I)=v))/\((Z6c I)=ab->((Z6b I)=ac->(decide (u>=1000000000)=ac->wr af (qCG1 I)=v)/\(decide (u>=1000000000)=ab->wr af (qCG2 I)=v))/\((Z6b I)=ab->((Yia I)=ac->(decide (u>=10000000000)=ac->wr af (qCG1 I)=v)/\(decide (u>=10000000000)=ab->wr af (qCG2 I)=v))/\((Yia I)=ab->((Yh9 I)=ac->(decide (u>=100000000000)=ac->wr af (qCG1 I)=v)/\(decide (u>=100000000000)=ab->wr af (qCG2 I)=v))/\((Yh9 I)=ab->((Yh8 I)=ac->(decide (u>=1000000000000)=ac->wr af (qCG1 I)=v)/\(decide (u>=1000000000000)=ab->wr af (qCG2 I)=v))/\((Yh8 I)=ab->((Yh7 I)=ac->(decide (u>=10000000000000)=ac->wr af (qCG1 I)=v)/\(decide (u>=10000000000000)=ab->wr af (qCG2 I)=v))/\((Yh7 I)=ab->((Yh6 I)=ac->(decide (u>=100000000000000)=ac->wr af (qCG1 I)=v)/\(decide (u>=100000000000000)=ab->wr af (qCG2 I)=v))/\((Yh6 I)=ab->((Yh5 I)=ac->(decide (u>=1000000000000000)=ac->wr af (qCG1 I)=v)/\(decide (u>=1000000000000000)=ab->wr af (qCG2 I)=v))/\((Yh5 I)=ab->((Yh4 I)=ac->(decide (u>=10000000000000000)=ac->wr af (qCG1 I)=v)/\(decide (u>=10000000000000000)=ab->wr af (qCG2 I)=v))/\((Yh4 I)=ab->((Yh3 I)=
ac->(decide (u>=100000000000000000)=ac->wr af (qCG1 I)=v)/\(decide (u>=100000000000000000)=ab->wr af (qCG2 I)=v))/\((Yh3 I)=ab->((Yh2 I)=ac->(decide (u>=1000000000000000000)=ac->wr af (qCG1 I)=v)/\(decide (u>=1000000000000000000)=ab->wr af (qCG2 I)=v))/\((Yh2 I)=ab->((Yh1 I)=ac->(decide (u>=10000000000000000000)=ac->wr af (qCG1 I)=v)/\(decide (u>=10000000000000000000)=ab->wr af (qCG2 I)=v))/\((Yh1 I)=ab->True))))))))))))))))))))):=by kernel_rfl
theorem Yl6:FnsOk E Fnd:=Zb (Zb F0_ok Z6a) Yh0
theorem blA:∀f x,kO f x<=f
 |0,x=>av _
 |f+1,x=>by
  unfold kO
  split
  ·exact aX _
  ·have:=blA f (x/2)
   omega
theorem bl64(x:Nat):fT x<=64:=blA 64 x
theorem Yic(u:Nat) (R:1<=u) (h2:u<18446744073709551616):PureC E 160 [.int ab .u64 (u:Int)] (.int ab .i64 (eE u)):=by
 refine Za E_ok (Zd E_ok Yl6 400) ?_;rw[Yib];delta qCG1 qCG2 qCG3 qCG4 qCG5;unfold Z6e Z6d Z6c Z6b Yia Yh9 Yh8 Yh7 Yh6 Yh5 Yh4 Yh3 Yh2 Yh1;refine⟨⟨by omega,by omega⟩,λy hy=> ?_⟩;have U:y=fT u:=by rw[hy,show ag (u:Int)=u by omega]
 obtain⟨J,k2⟩:=Lib.numDigits_eq u R h2;have a0:fT u<=64:=bl64 u;refine⟨⟨by omega,by omega⟩,λt I=> ?_⟩;have I:t=jW (fT u):=by rw[I,show ag (y:Int)=y by omega,U]
 rw[<-I] at J k2;generalize eE u=d at*;clear I U hy a0;refine⟨by omega,by omega,?_⟩;have hc:t=0\/t=1\/t=2\/t=3\/t=4\/t=5\/t=6\/t=7\/t=8\/t=9\/t=10\/t=11\/t=12\/t=13\/t=14\/t=15\/t=16\/t=17\/t=18\/t=19:=by omega
 have w:∀n:Int,0<=n->n<=20->wr .i64 n=n:=λn h0 R=>wr64 (by omega) (by omega);rcases hc with rfl|rfl|rfl|rfl|rfl|rfl|rfl|rfl|rfl|rfl|rfl|rfl|rfl|rfl|rfl|rfl|rfl|rfl|rfl|rfl
 all_goals
  simp;refine⟨λh=> ?_,λh=> ?_⟩
  ·rw[w _ (by decide) (by decide)]
   rw[jQ (by omega)] at J;omega
  ·rw[w _ (by decide) (by decide)]
   rw[jG (by omega)] at J;omega
end
section
open Go
def tightF(op:Int):Int:=if op=3\/op=4 then 1 else if op=5 then 2 else 3
def idxI(v:Int):Nat->List Int->Int
 |_,[]=> -1
 |k,x::r=>if v=x then(k:Int) else idxI v (k+1) r
def txU(d:List Int):List (List Nat):=
 (if 0<=idxI 1 0 d then[eN.words.getD (idxI 1 0 d).toNat []] else[])++(if 0<=idxI (-1) 0 d then[sPer,eN.words.getD (idxI (-1) 0 d).toNat []] else[])
def txS:List (List (List Nat))->List (List Nat)->List (List Nat)
 |t::r,s::I=>t++s::txS r I
 |_,_=> []
def par(op least:Int) (t:List (List Nat)):List (List Nat):=if least<=tightF op then t else X4::(t++ [Ye])
def sgnO(op:Int):List Nat:=if op=3 then Zdb else if op=4 then Uu else sMul
def txN(op n:Int) (u:List Int) (os:List Int) (ts:List (List (List Nat))):List (List Nat):=
 if op=1 then decN n::txU u
 else if op=2 then[dI.words.getD n.toNat []]
 else if op=11 then sIf::X4::txS ts [Zew,Yg,Yg,Ye]
 else if op=3\/op=4\/op=5 then par (os.getD 0 0) (tightF op) (ts.getD 0 [])++sgnO op::par (os.getD 1 0) (tightF op+1) (ts.getD 1 [])
 else gC.words.getD (op-6).toNat []::X4::txS ts [Yg,Ye]
mutual
def txX:Ex->List (List Nat)
 | .mk op n d0 d1 d2 d3 l=>txN op n [d0,d1,d2,d3] (l.map aJ) (txL l)
def txL:List Ex->List (List (List Nat))
 | []=> []
 |x::r=>txX x::txL r
end
def sPay:List Nat:= [112,97,121]
def Zhi:List Nat:= [59]
def Zhj:List Nat:= [116,97,114,105,102,102]
def sFor:List Nat:= [102,111,114]
def sLb:List Nat:= [123]
def sRb:List Nat:= [125]
def txW(w:Tst):List (List Nat):=dI.words.getD w.attr.toNat []::(if w.low=w.high then[sIs,decN w.low] else[sIn,decN w.low,Zd6,decN w.high])
def txTs:Nat->List Tst->List (List Nat)
 |_,[]=> []
 |i,w::r=>(if i=0 then Zh3 else sAnd)::(txW w++txTs (i+1) r)
def txC(c:Cls):List (List Nat):=Wx::c.name::(txTs 0 c.when_++sPay::(txX c.pay++ [Zhi]))
def txCs:List Cls->List (List Nat)
 | []=> []
 |c::r=>txC c++txCs r
def Zax(t:Tar):List (List Nat):=Zhj::t.name::sFor::gk.words.getD (t.for_-1).toNat []::sLb::(txCs t.clauses++ [sRb])
def Vx:List (List Nat)->List Nat
 | []=> []
 | [w]=>w
 |w::r=>w++32::Vx r
noncomputable def W6(t:Tar):List Nat×Int:=if Z8 t≠0 then([],Z8 t) else if 2000<(Vx (Zax t)).length then([],2) else(Vx (Zax t),0)
theorem Zkr{w:List Nat} {r:List (List Nat)} (h:r≠ []):Vx (w::r)=w++32::Vx r:=by
 cases r with
 |nil=>exact kc rfl h
 |cons x r=>rfl
def SepL(s t:List Nat):Prop:=(∀c,s.getLast? =ae c->isLD c=ab)\/(∀c,t.head? =ae c->isLD c=ab)
def atT(p:Nat) (t:Tok):Tok:=⟨t.kind,t.text,t.n,p⟩
def TokW(w:List Nat):Prop:=(tokP w).2=0/\(tokP w).1.text=w/\w≠ []
inductive Lx:List Nat->Nat->List Tok->Prop
 |nil (p:Nat):Lx [] p []
 |blank (c:Nat) (s:List Nat) (p:Nat) (l:List Tok) (hc:blk c=ac) (h:Lx s (p+1) l):Lx (c::s) p l
 |tok (w s:List Nat) (p:Nat) (l:List Tok) (hw:TokW w) (hs:SepL w s) (h:Lx s (p+w.length) l):Lx (w++s) p (atT p (tokP w).1::l)
theorem Vy{f:Int->Bool}:∀{w:List Nat},(∀c∈w,f c=ac)->spn f w=w.length
 | [],_=>rfl
 |c::r,h=>by
  unfold spn
  rw[jQ (h c (by simp)),Vy λc I=>h c (by simp[I])]
  rfl
theorem Zrl{f:Int->Bool}:∀{w s:List Nat},(∀c∈w,f c=ac)->(∀c,s.head? =ae c->f c=ab)->spn f (w++s)=w.length
 | [],s,_,h=>by
  cases s with
  |nil=>rfl
  |cons c r=>
   rw[dU]
   unfold spn
   rw[jG (by rw[h c rfl];decide)]
   rfl
 |c::r,s,I,h=>by
  rw[bW]
  unfold spn
  rw[jQ (I c (by simp)),Zrl (λc J=>I c (by simp[J])) h]
  rfl
theorem Zut{f:Int->Bool} {w:List Nat} (h:w.take (spn f w)=w):∀c∈w,f c=true:=λc I=>Znt (by rw[h];exact I)
theorem Z08{w:List Nat} (J:w≠ []) (h:∀c∈w,isLD c=ac) {s:List Nat} (U:SepL w s):∀c,s.head? =ae c->isLD c=false:=by
 rcases U with I|I
 ·have R:=I (w.getLast J) (List.getLast?_eq_some_getLast J)
  rw[h _ (List.getLast_mem J)] at R;cases R
 ·exact I
theorem Yjh{n:Int} (h:isD n=ac):isLD n=true:=by unfold isLD;rw[h,Bool.or_true]
theorem Yji{n:Int} (h:isLD n=ab):isD n=false:=by
 unfold isLD at h;rw[bB] at h;exact h.2
theorem Z7w{w s:List Nat} (h:TokW w) (hs:SepL w s):tokP (w++s)=tokP w:=by
 obtain⟨J,I,h3⟩:=h;cases w with
 |nil=>exact kc rfl h3
 |cons c r=>
  rw[Y7] at J I;rw[bW,Y7,Y7];split at J
  ·rename_i U
   rw[jQ U] at I;rw[jQ U,jQ U];split at J
   ·cases J
   ·rename_i hn
    rw[jG hn] at I;have R:=Zut (show(c::r).take (spn isLD (c::r))=c::r from I);have hb:=Z08 h3 R hs;have e1:spn isLD (c::(r++s))=(c::r).length:=Zrl (w:=c::r) R hb;have e2:spn isLD (c::r)=(c::r).length:=Vy R;rw[e1,e2];rw[e2] at hn;rw[jG hn,jG hn,<-bW,iJ,aU]
  ·rename_i U
   rw[jG U] at I;rw[jG U,jG U];split at J
   ·rename_i hd
    rw[jQ hd] at I;rw[jQ hd,jQ hd];have R:=Zut (show(c::r).take (spn isD (c::r))=c::r from I);have hb:=Z08 h3 (λc hc=>Yjh (R c hc)) hs;have e1:spn isD (c::(r++s))=(c::r).length:=Zrl (w:=c::r) R λc hc=>Yji (hb c hc);have e2:spn isD (c::r)=(c::r).length:=Vy R;rw[e1,e2,<-bW,iJ,aU]
   ·rename_i hd
    rw[jG hd] at I;rw[jG hd,jG hd];split at J
    ·rename_i w hw
     rw[hw] at I;simp only at I;unfold tokS at J I⊢;split at J
     ·rename_i ht
      rw[jQ ht] at I;have I:w=c::r:=I;subst I;rw[jQ ht,jQ];rw[<-bW,iJ]
     ·cases J
    ·cases J
theorem TokW.head{w:List Nat} (h:TokW w) {s:List Nat}:∃c,(w++s)[0]? =ae c/\blk c=ab/\c≠35:=by
 obtain⟨I,h2,U⟩:=h;cases w with
 |nil=>exact kc rfl U
 |cons c r=>
  refine⟨c,rfl,?_⟩;rw[Y7] at I;have key:(isL c=ac\/isD c=ac\/(sgnW c).isSome=ac):=by
   split at I
   ·exact .inl (by assumption)
   ·split at I
    ·exact .inr (.inl (by assumption))
    ·split at I
     ·rename_i w hw
      exact .inr (.inr (by rw[hw];rfl))
     ·cases I
  have R:97<=c\/(48<=c/\c<=57)\/(sgnW c).isSome=true:=by
   rcases key with h|h|h
   ·unfold isL at h
    simp at h;omega
   ·unfold isD at h
    simp at h;omega
   ·exact .inr (.inr h)
  constructor
  ·cases J:blk c with
   |false=>rfl
   |true=>
    exfalso;unfold blk at J;simp at J;rcases J with((rfl|rfl)|rfl)|rfl<;>simp[sgnW] at R
  ·rintro rfl
   simp[sgnW] at R
theorem Z7x{S w s:List Nat} {p:Nat} (h:S.drop p=w++s):S.drop (p+w.length)=s:=by
 rw[<-eO,h,List.drop_left]
theorem Yjj{s:List Nat} {p:Nat} {l:List Tok} (h:Lx s p l):∀(k:Nat) (S:List Nat) (J:List Tok),S.drop p=s->s.length<=k->tksL k S p J=(J++l,0,0):=by
 have U:∀(S:List Nat) (p:Nat),S[p]? =(S.drop p)[0]? :=λS p=>by rw[List.getElem?_drop];rfl
 induction h with
 |nil p=>
  intro k S J I R;have e:S[p]? =none:=by rw[U,I];rfl
  cases k with
  |zero=>unfold tksL;rw[cK]
  |succ k=>
   unfold tksL;rw[e,cK]
 |blank c s p l hc h ih=>
  intro k S J I R;cases k with
  |zero=>simp at R
  |succ k=>
   have e:S[p]? =ae c:=by rw[U,I];rfl
   unfold tksL;simp only[e,jQ hc];refine ih k S J ?_ (by simpa using R);rw[<-eO,I];rfl
 |tok w s p l hw hs h ih=>
  intro k S J I R;obtain⟨c,h0,hb,a0⟩:=hw.head (s:=s);have hp:=Z7w hw hs;have a1:=hw;obtain⟨h1,h2,h3⟩:=a1;have a2:1<=w.length:=by
   cases w with
   |nil=>exact kc rfl h3
   |cons c r=>simp
  cases k with
  |zero=>rw[aB] at R;omega
  |succ k=>
   have e:S[p]? =ae c:=by rw[U,I];exact h0
   unfold tksL;simp only[e,jG (show¬blk c=ac by rw[hb];decide),jG a0,I,hp];rw[jG (by rw[h1];decide),h2];rw[ih k S _ (Z7x I) (by rw[aB] at R;omega)];rw[bd];unfold atT;rw[h2];rfl
theorem Z09{s:List Nat} {l:List Tok} (h:Lx s 0 l) (I:s.length<=2000):Xd s=(l,0,0):=by
 unfold Xd;rw[jG (by omega),Yjj h s.length s [] rfl (av _)];rfl
theorem SepL.tail{w s t:List Nat} (J:s≠ []) (h:SepL (w++s) t):SepL s t:=by
 rcases h with h|h
 ·refine .inl λc I=>h c ?_
  rw[List.getLast?_append,I];rfl
 ·exact .inr h
def tkA:Nat->List (List Nat)->List Tok
 |_,[]=> []
 |p,w::r=>atT p (tokP w).1::tkA (p+w.length+1) r
theorem Ym3:blk 32=true:=rfl
theorem Ym4(w s:List Nat):SepL w (32::s):= .inr λc I=>by cases I;rfl
theorem Z1a:∀{ws:List (List Nat)} (p:Nat),(∀w∈ws,TokW w)->Lx (Vx ws) p (tkA p ws)
 | [],p,_=> .nil p
 | [w],p,h=>by
  have:=Lx.tok w [] p [] (h w (by simp)) (.inr λc I=>by cases I) (.nil _)
  rw[cK] at this
  exact this
 |w::x::r,p,h=>by
  refine .tok w (32::Vx (x::r)) p _ (h w (by simp)) (Ym4 _ _) (.blank 32 _ _ _ Ym3 ?_)
  exact Z1a (ws:=x::r) _ λw J=>h w (aW _ J)
def tkS(w:List Nat):Tok:=atT 0 (tokP w).1
def sT(t:Tok):Tok:=atT 0 t
theorem Ycr:∀(ws:List (List Nat)) (p:Nat),(tkA p ws).map sT=ws.map tkS
 | [],_=>rfl
 |w::r,p=>by
  unfold tkA
  rw[bS,Ycr r,bS]
  rfl
end
section
open Go
def ndZ(u:Int) (k:Res thy->Prop):List Int->Prop
 | []=>True
 |j::r=>((eE u.toNat:Int)=j->k (quiet [] (.int ac .i64 j)))/\ndZ u k r
noncomputable def SndZ:Sum thy:=λargs _ _ k=>
 match args with
 | [.int _ .u64 u]=>(1<=u/\u<10000000000000000)/\ndZ u k [1,2,3,4,5,6,7,8,9,10,11,12,13,14,15,16]
 |_=>False
noncomputable def SsmZ:Sum thy:=Wn (dA1 dN) (λx=>0<=x.1/\x.1<100) (λx=>(gO x.1).map cX) λy=> .str ab y
noncomputable def FitZ:Fns thy:=addS (addS F0 160 SndZ) 159 SsmZ
def smZ:List Nat:= [48,48,48,49,48,50,48,51,48,52,48,53,48,54,48,55,48,56,48,57,49,48,49,49,49,50,49,51,49,52,49,53,49,54,49,55,49,56,49,57,50,48,50,49,50,50,50,51,50,52,50,53,50,54,50,55,50,56,50,57,51,48,51,49,51,50,51,51,51,52,51,53,51,54,51,55,51,56,51,57,52,48,52,49,52,50,52,51,52,52,52,53,52,54,52,55,52,56,52,57,53,48,53,49,53,50,53,51,53,52,53,53,53,54,53,55,53,56,53,57,54,48,54,49,54,50,54,51,54,52,54,53,54,54,54,55,54,56,54,57,55,48,55,49,55,50,55,51,55,52,55,53,55,54,55,55,55,56,55,57,56,48,56,49,56,50,56,51,56,52,56,53,56,54,56,55,56,56,56,57,57,48,57,49,57,50,57,51,57,52,57,53,57,54,57,55,57,56,57,57]
def pZ(b:Int) (K:Nat->Nat->Prop):Prop:=0<=wr .u32 (b+1)/\wr .u32 (b+1)+1<=(smZ.length:Int)/\∀x:Nat,smZ[(wr .u32 (b+1)).toNat]? =ae x->0<=b/\b+1<=(smZ.length:Int)/\∀y:Nat,smZ[b.toNat]? =ae y->K (ag (x:Int)%256) (ag (y:Int)%256)
def e8Z(u:Int) (L:List Nat) (K:List Nat->Prop):Prop:=
 pZ (wr .u32 (eV (eV (wr .u32 (eV u 100000000)) 10000) 100*2)) λa b=>
 pZ (wr .u32 (wr .u32 (dk (eV (wr .u32 (eV u 100000000)) 10000) 100)*2)) λc d=>
 pZ (wr .u32 (eV (wr .u32 (dk (wr .u32 (eV u 100000000)) 10000)) 100*2)) λe f=>
 pZ (wr .u32 (wr .u32 (dk (wr .u32 (dk (wr .u32 (eV u 100000000)) 10000)) 100)*2)) λg h=>K (h::g::f::e::d::c::b::a::L)
def e4Z(v:Int) (L:List Nat) (K:List Nat->Prop):Prop:=
 pZ (wr .u32 (eV (eV v 10000) 100*2)) λa b=>
 pZ (wr .u32 (wr .u32 (dk (eV v 10000) 100)*2)) λc d=>K (d::c::b::a::L)
def e2Z(v:Int) (L:List Nat) (K:List Nat->Prop):Prop:=pZ (wr .u32 (eV v 100*2)) λa b=>K (b::a::L)
def e1Z(v:Int) (L:List Nat) (K:List Nat->Prop):Prop:=K (ag (wr .u8 (wr .u32 (48+v)))%256::L)
def loZ:Nat->Int->List Nat->(List Nat->Prop)->Prop
 |0,_,L,K=>K L
 |1,v,L,K=>e1Z v L K
 |2,v,L,K=>e2Z v L K
 |3,v,L,K=>e2Z v L λL=>e1Z (wr .u32 (dk v 100)) L K
 |4,v,L,K=>e4Z v L K
 |5,v,L,K=>e4Z v L λL=>e1Z (wr .u32 (dk v 10000)) L K
 |6,v,L,K=>e4Z v L λL=>e2Z (wr .u32 (dk v 10000)) L K
 |7,v,L,K=>e4Z v L λL=>e2Z (wr .u32 (dk v 10000)) L λL=>e1Z (wr .u32 (dk (wr .u32 (dk v 10000)) 100)) L K
 |_,_,_,_=>False
def hiZ(j:Nat) (u:Int) (L:List Nat) (K:List Nat->Prop):Prop:=
 if j<8 then loZ j (wr .u32 u) L K
 else e8Z u L λL=>if j<16 then loZ (j-8) (wr .u32 (wr .u64 (dk u 100000000))) L K else e8Z (wr .u64 (dk u 100000000)) L K
def finZ(n:Int) (v:List Nat) (L:List Nat):Prop:=(decide (n<0)=ac->ag 45%256::L=v)/\(decide (n<0)=ab->L=v)
def allZ(u n:Int) (v:List Nat):List Nat->Prop
 | []=>True
 |j::r=>((eE u.toNat:Int)=j->hiZ j u [] (finZ n v))/\allZ u n v r
def itZ(u n:Int) (v:List Nat):Prop:=(1<=u/\u+1<=10000000000000000)/\allZ u n v [1,2,3,4,5,6,7,8,9,10,11,12,13,14,15,16]
theorem Zyn(n:Int) (v:List Nat):Zk E FitZ (vc E FitZ 2000) 115 [.int ab .i64 n] hp0 0 (λr=>ret E (patch hp0 0 r) r.v (.str ab v))=(
 ∃(Q:Bool->Prop),((decide (0<=n)=ac->(decide (n<100)=ac->Q ac)/\(decide (n<100)=ab->Q ab))/\(decide (0<=n)=ab->Q ab))/\(Q ac->(0<=n/\n+1<=100)/\∀(y:List Nat),y=List.map cX (gO n)->y=v)/\
  (Q ab->(decide (n<0)=ac->itZ (wr .u64 (0-wr .u64 n)) n v)/\(decide (n<0)=ab->itZ (wr .u64 n) n v))):=by kernel_rfl
theorem Z2s{u:Int} {k:Res thy->Prop}:∀{l:List Int},ndZ u k l->∀j∈l,(eE u.toNat:Int)=j->k (quiet [] (.int ac .i64 j))
 | [],_,j,I,_=>by cases I
 |x::r,h,j,I,e=>by
  rcases aM.1 I with rfl|I
  ·exact h.1 e
  ·exact Z2s h.2 j I e
theorem Z2t:∀(k u:Nat),u<10^(k+1)->eE u<=k+1
 |0,u,h=>by rw[jX (by simpa using h)];exact av _
 |k+1,u,h=>by
  by_cases I:u<10
  ·rw[jX I];omega
  ·rw[Lib.nDigits_big I]
   rw[Nat.pow_succ] at h
   have:=Z2t k (u/10) (by omega)
   omega
theorem in16(d:Nat) (I:1<=d) (J:d<=16):(d:Int)∈ [(1:Int),2,3,4,5,6,7,8,9,10,11,12,13,14,15,16]:=by
 have:d=1\/d=2\/d=3\/d=4\/d=5\/d=6\/d=7\/d=8\/d=9\/d=10\/d=11\/d=12\/d=13\/d=14\/d=15\/d=16:=by omega
 rcases this with rfl|rfl|rfl|rfl|rfl|rfl|rfl|rfl|rfl|rfl|rfl|rfl|rfl|rfl|rfl|rfl<;>decide
theorem Yfv:SumOk E 160 SndZ:=by
 have U:SumOk E 160 (Wn (dA1 dU64) (λx=>1<=x.1/\x.1<10000000000000000) (λx=>eE x.1.toNat) λ(y:Nat)=> .int ac .i64 y):=Zz E_ok (Zc rfl) λx h=>by
  have:=Yic x.1.toNat (by omega) (by omega);rw[show((x.1.toNat:Nat):Int)=x.1 by omega] at this;intro g w a0 hI hd;refine(this g w a0 hI hd).mono ?_;rintro en w' ⟨u,he,g',J,R,h3⟩;cases h3;exact⟨_,he,g',J,R,.int _ _ _⟩
 refine⟨U.good,λargs h i k hD I=> ?_⟩;unfold SndZ at I;split at I
 case h_2=>exact I.elim
 rename_i l u;obtain⟨⟨J,R⟩,I⟩:=I;refine U.ok _ h i k hD ⟨⟨J,R⟩,λy hy=> ?_⟩;subst hy;have hn:=Z2t 15 u.toNat (by show u.toNat<10000000000000000;omega);have hp:=Lib.nDigits_pos u.toNat;refine Z2s I _ (in16 _ hp hn) rfl
theorem Yfw:SumOk E 159 SsmZ:=Zz E_ok (Zc rfl) λx h=>by
 have:=Zzq x.1.toNat (by omega);rw[show((x.1.toNat:Nat):Int)=x.1 by omega] at this;have e:gO x.1=eT x.1.toNat:=by unfold gO;rw[jG (by omega)]
 rw[e];exact this
theorem Yfx:FnsOk E FitZ:=Zb (Zb F0_ok Yfv) Yfw
def smVZ(i:Nat):Nat:=if i%2=0 then 48+i/2/10 else 48+i/2%10
theorem Z2u:∀i,i<200->smZ[i]? =ae (smVZ i):=by decide+kernel
theorem Yfy:smZ.length=200:=by decide+kernel
theorem Yj9(x:Int):wr .u64 x=x%18446744073709551616:=rfl
theorem Zfq(x:Int):wr .u32 x=x%4294967296:=rfl
theorem wuZ8(x:Int):wr .u8 x=x%256:=rfl
theorem Zst{m:Nat} (hm:m<100) {b:Int} (hb:b=((m*2:Nat):Int)) {K:Nat->Nat->Prop} (h:K (48+m%10) (48+m/10)):pZ b K:=by
 have e1:wr .u32 (b+1)=((m*2+1:Nat):Int):=by rw[Zfq];omega
 unfold pZ;rw[e1,Yfy,bA];refine⟨by omega,by omega,λx I=>⟨by omega,by omega,λy J=> ?_⟩⟩;rw[Z2u _ (by omega)] at I;rw[hb,bA,Z2u _ (by omega)] at J;cases I;cases J;rw[bA,bA];have R:smVZ (m*2+1)%256=48+m%10:=by unfold smVZ;rw[jG (by omega)];omega
 have U:smVZ (m*2)%256=48+m/10:=by unfold smVZ;rw[jQ (by omega)];omega
 rw[R,U];exact h
def dgZ(u j:Nat):Nat:=48+u/10^j%10
theorem Yc2(u:Nat) {L:List Nat} {K:List Nat->Prop} (h:K (dgZ u 7::dgZ u 6::dgZ u 5::dgZ u 4::dgZ u 3::dgZ u 2::dgZ u 1::dgZ u 0::L)):e8Z (u:Int) L K:=by
 refine Zst (m:=u%100000000%10000%100) (by omega) (by simp(disch:=omega) only[Zfq,db,cB];omega) ?_;refine Zst (m:=u%100000000%10000/100) (by omega) (by simp(disch:=omega) only[Zfq,db,cB];omega) ?_;refine Zst (m:=u%100000000/10000%100) (by omega) (by simp(disch:=omega) only[Zfq,db,cB];omega) ?_;refine Zst (m:=u%100000000/10000/100) (by omega) (by simp(disch:=omega) only[Zfq,db,cB];omega) ?_
 refine Eq.mp (km K ?_) h;simp only[dgZ,ec,and_true,cS]
 repeat' apply aD
 all_goals omega
theorem Zvn(v:Nat) {L:List Nat} {K:List Nat->Prop} (h:K (dgZ v 3::dgZ v 2::dgZ v 1::dgZ v 0::L)):e4Z (v:Int) L K:=by
 refine Zst (m:=v%10000%100) (by omega) (by simp(disch:=omega) only[Zfq,db,cB];omega) ?_;refine Zst (m:=v%10000/100) (by omega) (by simp(disch:=omega) only[Zfq,db,cB];omega) ?_;refine Eq.mp (km K ?_) h;simp only[dgZ,ec,and_true,cS]
 repeat' apply aD
 all_goals omega
theorem Zvo(v:Nat) {L:List Nat} {K:List Nat->Prop} (h:K (dgZ v 1::dgZ v 0::L)):e2Z (v:Int) L K:=by
 refine Zst (m:=v%100) (by omega) (by simp(disch:=omega) only[Zfq,db,cB];omega) ?_;refine Eq.mp (km K ?_) h;simp only[dgZ,ec,and_true,cS]
 repeat' apply aD
 all_goals omega
theorem Zvp(v:Nat) (I:v<10) {L:List Nat} {K:List Nat->Prop} (h:K (dgZ v 0::L)):e1Z (v:Int) L K:=by
 have e:ag (wr .u8 (wr .u32 (48+(v:Int))))%256=dgZ v 0:=by unfold dgZ;rw[wuZ8,Zfq];simp only[cS];omega
 unfold e1Z;rw[e];exact h
theorem q2Z(v:Nat) (I:v<10000):wr .u32 (dk (v:Int) 100)=((v/100:Nat):Int):=by simp(disch:=omega) only[Zfq,cB];omega
theorem q4Z(v:Nat) (I:v<4294967296):wr .u32 (dk (v:Int) 10000)=((v/10000:Nat):Int):=by simp(disch:=omega) only[Zfq,cB];omega
def dlZ(u j:Nat):List Nat:=(dh j).map λt=>dgZ u (j-1-t)
theorem Yc3:∀(j:Nat),j<=7->∀(v:Nat),v<10^j->∀{L:List Nat} {K:List Nat->Prop},K (dlZ v j++L)->loZ j (v:Int) L K
 |0,_,v,_,L,K,h=>h
 |1,_,v,I,L,K,h=>Zvp v (by simpa using I) h
 |2,_,v,_,L,K,h=>Zvo v h
 |3,_,v,I,L,K,h=>by
  show e2Z (v:Int) L λL=>e1Z (wr .u32 (dk (v:Int) 100)) L K
  refine Zvo v ?_
  rw[q2Z v (by simp only[cS] at I;omega)]
  refine Zvp _ (by simp only[cS] at I;omega) (Eq.mp (km K ?_) h)
  simp only[dlZ,dgZ,dh,fg,bS,dK,bW,dU,ec,and_true,hH,cS]
  repeat' apply aD
  all_goals omega
 |4,_,v,_,L,K,h=>Zvn v h
 |5,_,v,I,L,K,h=>by
  show e4Z (v:Int) L λL=>e1Z (wr .u32 (dk (v:Int) 10000)) L K
  refine Zvn v ?_
  rw[q4Z v (by simp only[cS] at I;omega)]
  refine Zvp _ (by simp only[cS] at I;omega) (Eq.mp (km K ?_) h)
  simp only[dlZ,dgZ,dh,fg,bS,dK,bW,dU,ec,and_true,hH,cS]
  repeat' apply aD
  all_goals omega
 |6,_,v,I,L,K,h=>by
  show e4Z (v:Int) L λL=>e2Z (wr .u32 (dk (v:Int) 10000)) L K
  refine Zvn v ?_
  rw[q4Z v (by simp only[cS] at I;omega)]
  refine Zvo _ (Eq.mp (km K ?_) h)
  simp only[dlZ,dgZ,dh,fg,bS,dK,bW,dU,ec,and_true,hH,cS]
  repeat' apply aD
  all_goals omega
 |7,_,v,I,L,K,h=>by
  show e4Z (v:Int) L λL=>e2Z (wr .u32 (dk (v:Int) 10000)) L λL=>e1Z (wr .u32 (dk (wr .u32 (dk (v:Int) 10000)) 100)) L K
  refine Zvn v ?_
  rw[q4Z v (by simp only[cS] at I;omega)]
  refine Zvo _ ?_
  rw[q2Z _ (by simp only[cS] at I;omega)]
  refine Zvp _ (by simp only[cS] at I;omega) (Eq.mp (km K ?_) h)
  simp only[dlZ,dgZ,dh,fg,bS,dK,bW,dU,ec,and_true,hH,cS]
  repeat' apply aD
  all_goals omega
 |j+8,J,_,_,_,_,_=>by omega
theorem Ync(u j:Nat):dlZ u (j+8)=dlZ (u/100000000) j++ [dgZ u 7,dgZ u 6,dgZ u 5,dgZ u 4,dgZ u 3,dgZ u 2,dgZ u 1,dgZ u 0]:=by
 unfold dlZ;rw[List.range_add,eY]
 congr 1
 ·refine ju λt I=> ?_
  have I:=List.mem_range.1 I;unfold dgZ;rw[Nat.div_div_eq_div_mul,show(100000000:Nat)=10^8 by decide,<-kY,show 8+(j-1-t)=j+8-1-t by omega]
 ·simp only[dh,fg,bS,dK]
  rw[show j+8-1-(j+0)=7 by omega,show j+8-1-(j+1)=6 by omega,show j+8-1-(j+2)=5 by omega,show j+8-1-(j+3)=4 by omega,show j+8-1-(j+4)=3 by omega,show j+8-1-(j+5)=2 by omega,show j+8-1-(j+6)=1 by omega,show j+8-1-(j+7)=0 by omega]
theorem Yka(j u:Nat) (hj:j<=16) (I:u<10^j) (a1:u<18446744073709551616) {K:List Nat->Prop} (h:K (dlZ u j)):hiZ j (u:Int) [] K:=by
 unfold hiZ;have J:wr .u64 (dk (u:Int) 100000000)=((u/100000000:Nat):Int):=by simp(disch:=omega) only[Yj9,cB];omega
 split
 ·rename_i U
  have R:u<10000000:=cg I (gQ (by decide) (by omega:j<=7));rw[show wr .u32 (u:Int)=(u:Int) by rw[Zfq];omega];exact Yc3 j (by omega) u I (by rw[cK];exact h)
 ·rename_i U
  obtain⟨k,rfl⟩:∃k,j=k+8:=⟨j-8,by omega⟩;have hd:u/100000000<10^k:=by
   rw[kY] at I;exact Nat.div_lt_of_lt_mul (by rw[Nat.mul_comm];exact I)
  rw[Ync] at h;refine Yc2 u ?_;split
  ·rename_i a0
   rw[J,Nat.add_sub_cancel];have R:u/100000000<10000000:=cg hd (gQ (by decide) (by omega:k<=7));rw[show wr .u32 ((u/100000000:Nat):Int)=((u/100000000:Nat):Int) by rw[Zfq];omega];exact Yc3 k (by omega) _ hd h
  ·obtain rfl:k=8:=by omega
   rw[J];refine Yc2 _ ?_;exact h
theorem Z2v(u k:Nat) (h:eE u=k):(eT u).map cX=dlZ u k:=by
 rw[Lib.decDigits_eq,kP,h];refine ju λt _=> ?_;show(Lib.dg u (k-1-t)).toNat=_;unfold Lib.dg dgZ;rw[gY];omega
theorem Z2w{u n:Int} {v:List Nat}:∀{l:List Nat},(∀j∈l,eE u.toNat=j->hiZ j u [] (finZ n v))->allZ u n v l
 | [],_=>jU
 |j::r,h=>⟨λe=>h j List.mem_cons_self (Int.ofNat.inj e),Z2w λi hi=>h i (aW _ hi)⟩
theorem Zyo(u:Nat) (hu:u<10000000000000000):PureC E 115 [.int ab .i64 (u:Int)] (.str ab (decN u)):=by
 refine Za E_ok (Zd E_ok Yfx 2000) ?_;rw[Zyn];have a0:decN (u:Int)=(eT u).map cX:=by
  unfold decN gO;rw[jG (by omega)];rfl
 by_cases hs:u<100
 ·refine⟨λb=>b=ac,⟨λ_=>⟨λ_=>rfl,λh=> ?_⟩,λh=> ?_⟩,λ_=>⟨⟨by omega,by omega⟩,λy hy=>hy⟩,λh=>by cases h⟩
  ·exact kc h (by simp;omega)
  ·exact kc h (by simp)
 refine⟨λb=>b=ab,⟨λ_=>⟨λh=> ?_,λ_=>rfl⟩,λ_=>rfl⟩,λh=>(by cases h),λ_=>⟨λh=> ?_,λ_=> ?_⟩⟩
 ·exact kc h (by simp;omega)
 ·exact kc h (by simp)
 have U:wr .u64 (u:Int)=u:=by rw[Yj9];omega
 rw[U];refine⟨⟨by omega,by omega⟩,Z2w λj _ I=> ?_⟩;rw[bA] at I;have R:=Lib.lt_pow_nDigits u;have J:=Z2t 15 u hu;rw[I] at R J;refine Yka j u J R (by omega) ⟨λh=> ?_,λ_=> ?_⟩
 ·exact kc h (by simp)
 ·rw[a0,Z2v u j I]
theorem Z2x(u:Nat) (I:u<10000000000000):PureC E 115 [.int ab .i64 (u:Int)] (.str ab (decN u)):=Zyo u (by omega)
end
section
open Go.RowKit
section
variable {Y:Thy} {E:Eng Y}
def celS(E:Eng Y) (th:Y.Th) (I:Option (List (Y.dom th)×Nat)) (c:Nat):SV Y:=
 match I with
 |some p=> .sl c 0 p.1.length (E.w th) ar
 |none=> .val (.slice ar 0 0)
def hpP(E:Eng Y) (th:Y.Th) (I:Option (List (Y.dom th)×Nat)):Hp Y:=λb=>
 match aK b 0 with
 |true=>ae (.raw [celS E th I 1] 0 ar)
 |false=>(match aK b 1 with
  |true=>(match I with|some p=>ae (.rows th p.1 p.2)|none=>ar)
  |false=>ar)
def fzO{α:Type} (I:Option (α×Nat)):Nat:=match I with|some p=>p.2|none=>0
def mdO{α:Type} (I:Option (α×Nat)) (b c:Nat):List Nat:=match I with|some _=> [b,c]|none=> [b]
def prnR(E:Eng Y) (th:Y.Th) (J:Option (List (Y.dom th)×Nat)) (b c i:Nat) (I:List (Y.dom th)):Res Y:=
 ⟨.tup [],1,mdO J b c,λx=>match aK x b with|true=>ae (.raw [.sl i 0 I.length (E.w th) ar] 0 ar)|false=>at1 i (ae (.rows th I (fzO J))) x,ar⟩
def PrnC(E:Eng Y) (f:Nat) (th:Y.Th) (args:List (SV Y)) (I:Option (List (Y.dom th)×Nat)) (J:List (Y.dom th)):Prop:=
 ∀(b c:Nat) (h:Hp Y) (i:Nat) (tg:Option Y.Th),h b=ae (.raw [celS E th I c] 0 tg)->(∀p,I=ae p->h c=ae (.rows th p.1 p.2)/\b≠c)->Vg E f (.ptr b 0::args) h i (prnR E th I b c i J)
def prnK(E:Eng Y) (th:Y.Th) (I:Option (List (Y.dom th)×Nat)) (J:List (Y.dom th)) (r:Res Y):Prop:=
 match r.v,patch (hpP E th I) 2 r 0 with
 | .tup [],ae (.raw [.sl c 0 n w ar] 0 _)=>
  (match Nat.ble 1 c&&aK w (E.w th),patch (hpP E th I) 2 r c with
  |true,ae (.rows U L R)=>U2 L λL=>L=J/\n=J.length/\R=fzO I
  |_,_=>False)
 |_,_=>False
theorem Yna(th:Y.Th) (I:Option (List (Y.dom th)×Nat)):hpP E th I 0=ae (.raw [celS E th I 1] 0 ar):=rfl
theorem Za9{th:Y.Th} {I:Option (List (Y.dom th)×Nat)} {x:Nat} {y:Blk Y} (h:hpP E th I x=ae y):(x=0/\y= .raw [celS E th I 1] 0 ar)\/(x=1/\∃p,I=ae p/\y= .rows th p.1 p.2):=by
 match x,h with
 |0,h=>rw[Yna] at h;cases h;exact .inl ⟨rfl,rfl⟩
 |1,h=>
  cases I with
  |none=>cases h
  |some p=>
   have h:ae (Blk.rows th p.1 p.2:Blk Y)=ae y:=h;cases h;exact .inr ⟨rfl,p,rfl,rfl⟩
 |x+2,h=>cases h
theorem Yfg(th:Y.Th) (R:Option (List (Y.dom th)×Nat)):DomLt (hpP E th R) 2:=λb I=>by
 obtain⟨y,J⟩:=aV.1 I;rcases Za9 J with⟨rfl,_⟩|⟨rfl,_⟩<;>omega
def σP{α:Type} (I:Option α) (σ:Pl) (b c:Nat):Pl:=λx=>
 match aK x 0 with
 |true=>σ b
 |false=>(match aK x 1 with
  |true=>(match I with|some _=>σ c|none=>ar)
  |false=>ar)
theorem σP_cases{α:Type} {I:Option α} {σ:Pl} {b c x:Nat} {q:Nat×Nat} (h:σP I σ b c x=ae q):(x=0/\σ b=ae q)\/(x=1/\(∃p,I=ae p)/\σ c=ae q):=by
 match x,h with
 |0,h=>exact .inl ⟨rfl,h⟩
 |1,h=>
  cases I with
  |none=>cases h
  |some p=>exact .inr ⟨rfl,⟨p,rfl⟩,h⟩
 |x+2,h=>cases h
theorem mdO_mem{α:Type} {I:Option (α×Nat)} {b c x:Nat}:x∈mdO I b c↔x=b\/(x=c/\∃p,I=ae p):=by
 cases I with
 |none=>simp[mdO]
 |some p=>simp[mdO]
open Classical in
theorem X2(hE:EngOk E) {call:Nat->List (SV Y)->Hp Y->Nat->(Res Y->Prop)->Prop} (d8:W8 E call) {f:Nat} {th:Y.Th} {args:List (SV Y)} {st:Option (List (Y.dom th)×Nat)} {l':List (Y.dom th)} (ha:nidL 0 args=ac)
 (hk:call f (.ptr 0 0::args) (hpP E th st) 2 (prnK E th st l')):PrnC E f th args st l':=by
 intro b c h i tg hb hc
 obtain⟨r,hr,hR,b4⟩:=d8 f _ _ _ _ (Yfg th st) hk
 have f7:∀x∈r.mods,x=0\/(x=1/\∃p,st=ae p):=by
  intro x U
  obtain⟨y,hy⟩:=aV.1 (hR x U)
  rcases Za9 hy with⟨R,_⟩|⟨R,p,h2,_⟩
  ·exact .inl R
  ·exact .inr ⟨R,p,h2⟩
 unfold prnK at hr
 split at hr
 case h_2=>exact hr.elim
 rename_i c' n' w' f8 hv hp0
 split at hr
 case h_2=>exact hr.elim
 rename_i a0 L c8 b1 a8
 obtain⟨e,hr⟩:=Y3 hr
 subst e
 obtain⟨rfl,rfl,rfl⟩:l'=L/\n'=l'.length/\c8=fzO st:=⟨hr.1.symm,hr.2⟩
 rw[aq,Nat.ble_eq] at b1
 obtain⟨b1,hw⟩:=b1
 have hw:=ax hw
 subst hw
 replace b4:Vg E f (.ptr 0 0::args) (hpP E a0 st) 2 r:=b4.resolve_right (by rintro⟨p,J,_⟩;rw[hv] at J;cases J)
 intro B σ g W c7 hh f1 hI hB e0 hd
 obtain rfl:hh=h:=funext λb=>f1 b jU
 obtain⟨rb,zb,a2,d7⟩:=hI.blk b _ hb
 have b7:hh b≠none:=by rw[hb];simp
 have F0:σP st σ b c 0=σ b:=rfl
 have F1:∀p,st=ae p->σP st σ b c 1=σ c:=by rintro p rfl;rfl
 have bc:∀p,st=ae p->b≠c:=λp J=>(hc p J).2
 have cn:∀p,st=ae p->hh c≠none:=λp J=>by rw[(hc p J).1];simp
 have c6:∀p q z z',st=ae p->σ b=ae (q,z)->σ c=ae (q,z')->False:=λp q z z' J R h2=>bc p J (hI.inj b c q z z' b7 (cn p J) R h2)
 have c9:Inv E B (σP st σ b c) (hpP E a0 st) g W:=by
  refine⟨hI.gc,hI.gm,λx y U=> ?_,λx x' r z z' R h2 h3 h4=> ?_,λx r' z' I=> ?_,λx y r' z' o v U I hv=> ?_,λx y r' z' U I=> ?_,hI.glob⟩
  ·rcases Za9 U with⟨rfl,rfl⟩|⟨rfl,p,J,rfl⟩
   ·refine⟨rb,zb,a2,?_⟩
    obtain⟨arr,e,k1,k2,k3,k4,k5⟩:=d7
    refine⟨arr,e,k1,k2,k3,λj sv hj=> ?_,jU⟩
    cases j with
    |succ j=>cases hj
    |zero=>
     have hj:ae (celS E a0 st 1)=ae sv:=hj
     cases hj
     obtain⟨v,m1,m2⟩:=k4 0 _ (show([celS E a0 st c]:List (SV Y))[0]? =ae _ from rfl)
     refine⟨v,m1,?_⟩
     cases st with
     |none=>exact Zx hE m2 (λb p hb=>by omega) (show nid 0 (celS E a0 ar 1)=ac from rfl)
     |some p=>
      obtain⟨r1,z1,c1,rfl,k1,k2,k3,k4,k5⟩:=W9 (show Den E σ g (.sl c 0 p.1.length (E.w a0) ar) v from m2)
      exact .sl (E:=E) (b:=1) k1 k2 k3 k4 k5
   ·obtain⟨r1,z1,k1,arr,e,k2,k3,k4,k5,k6⟩:=hI.blk c _ (hc p J).1
    refine⟨r1,z1,(F1 p J).trans k1,arr,e,k2,k3,k4,λj sv hj=> ?_,k6⟩
    obtain⟨v,m1,m2⟩:=k5 j sv hj
    have hn:nid 0 sv=true:=by
     obtain⟨q,p,x,rfl,J,hq,I⟩:=Y0 hE a0 _ hj
     exact Zs (hE.encI _ _ _) I
    exact⟨v,m1,Zx hE m2 (λb p hb=>by omega) hn⟩
  ·rcases σP_cases h3 with⟨rfl,h3⟩|⟨rfl,⟨p,J⟩,h3⟩<;>rcases σP_cases h4 with⟨rfl,h4⟩|⟨rfl,⟨p',e9⟩,h4⟩
   ·rfl
   ·exact(c6 p' _ _ _ e9 h3 h4).elim
   ·exact(c6 p _ _ _ J h4 h3).elim
   ·rfl
  ·rcases σP_cases I with⟨rfl,I⟩|⟨rfl,_,I⟩
   ·exact hI.base b _ _ I
   ·exact hI.base c _ _ I
  ·rcases Za9 U with⟨rfl,rfl⟩|⟨rfl,p,J,rfl⟩
   ·have h2:o<0:=hI.fz b _ _ _ o v hb I hv
    omega
   ·rw[F1 p J] at I
    exact hI.fz c _ _ _ o v (hc p J).1 I hv
  ·rcases Za9 U with⟨rfl,rfl⟩|⟨rfl,p,J,rfl⟩
   ·exact hI.fm b _ _ _ hb I
   ·rw[F1 p J] at I
    exact hI.fm c _ _ _ (hc p J).1 I
 have d9:DenL E (σP st σ b c) g (.ptr 0 0::args) c7.toList:=by
  refine⟨by rw[<-hd.1];rfl,λj sv u R h2=> ?_⟩
  cases j with
  |zero=>
   simp at R;subst R
   have:=hd.2 0 _ u rfl h2
   cases this
   rename_i I
   exact .ptr (E:=E) (b:=0) I
  |succ j=>
   have R:args[j]? =ae sv:=by simpa using R
   exact Zx hE (hd.2 (j+1) sv u (by simpa using R) h2) (λb p hb=>by omega) (Zs ha R)
 refine(b4 B _ g W c7 _ (λ_ _=>rfl) c9 hB (λx R h2=>by match x,R with|x+2,_=>rfl) d9).mono ?_
 rintro en w' ⟨u,he,σ',g',hS,a3,c4⟩
 have b0:σ' 0=ae (rb,zb):=hS.sig 0 _ a2
 obtain⟨r1,z1,k1⟩:∃r1 z1,σ' c'=ae (r1,z1):=by
  obtain⟨r1,z1,m1,_⟩:=a3.blk c' _ a8
  exact⟨r1,z1,m1⟩
 have b8:c'≠0:=by omega
 have e6:patch (hpP E a0 st) 2 r 0≠none:=by rw[hp0];simp
 have e8:patch (hpP E a0 st) 2 r c'≠none:=by rw[a8];simp
 have b2:r1≠rb:=by
  rintro rfl
  exact b8 (a3.inj c' 0 _ _ _ e8 e6 k1 b0)
 have c2:W.heap.size<=r1\/∃z' p,st=ae p/\σ c=ae (r1,z'):=by
  cases b3:σP st σ b c c' with
  |some q=>
   have:=hS.sig c' _ b3
   rw[k1] at this;cases this
   rcases σP_cases b3 with⟨h0,_⟩|⟨_,⟨p,J⟩,h2⟩
   ·exact kc h0 b8
   ·exact .inr ⟨z1,p,J,h2⟩
  |none=>
   rcases hS.blk c' r1 z1 b3 k1 with R|⟨b',R,z',h2⟩
   ·exact .inl R
   ·rcases σP_cases h2 with⟨rfl,h3⟩|⟨_,⟨p,J⟩,h3⟩
    ·rw[a2] at h3;cases h3;exact kc rfl b2
    ·exact .inr ⟨z',p,J,h3⟩
 have c0:∀q,q<W.heap.size->q≠rb->(∀p z,st=ae p->σ c≠ae (q,z))->w'.heap[q]? =W.heap[q]? :=by
  intro q hq a9 e7
  refine hS.heap q hq λb' f5 z' f3=> ?_
  rcases σP_cases f3 with⟨rfl,h2⟩|⟨_,⟨p,J⟩,h2⟩
  ·rw[a2] at h2;cases h2;exact a9 rfl
  ·exact e7 p z' J h2
 have hi:σ i=none:=e0 i (av _) (by show i<i+1;omega)
 have a5:b≠i:=by rintro rfl;rw[a2] at hi;cases hi
 have f6:∀p,st=ae p->c≠i:=by
  rintro p J rfl
  obtain⟨r2,z2,m1,_⟩:=hI.blk c _ (hc p J).1
  rw[hi] at m1;cases m1
 have f0:∀x,patch hh i (prnR E a0 st b c i l') x=if x=b then ae (.raw [.sl i 0 l'.length (E.w a0) ar] 0 ar) else if x=i then ae (.rows a0 l' (fzO st)) else if x=c/\(∃p,st=ae p) then ar else hh x:=by
  intro x
  rw[Zp]
  by_cases e1:x=b
  ·subst e1
   rw[jQ (.inl (mdO_mem.2 (.inl rfl))),jQ rfl]
   show(match aK x x with|true=>_|false=>_)=_
   rw[fL]
  ·rw[jG e1]
   have d6:aK x b=false:=by
    cases e:aK x b with
    |true=>exact kc (ax e) e1
    |false=>rfl
   have b9:(prnR E a0 st b c i l').h x=at1 i (ae (.rows a0 l' (fzO st))) x:=by
    show(match aK x b with|true=>_|false=>_)=_
    rw[d6]
   by_cases e2:x=i
   ·subst e2
    rw[jQ (.inr ⟨av _,(by show x<x+1;omega)⟩),jQ rfl,b9]
    unfold at1
    rw[fL]
   ·rw[jG e2]
    have d5:at1 i (ae (.rows a0 l' (fzO st):Blk Y)) x=none:=by
     unfold at1
     cases e:aK x i with
     |true=>exact kc (ax e) e2
     |false=>rfl
    by_cases e3:x=c/\∃p,st=ae p
    ·rw[jQ e3,jQ (.inl (mdO_mem.2 (.inr e3))),b9,d5]
    ·rw[jG e3,jG]
     rintro(k|k)
     ·rcases mdO_mem.1 k with k|k
      ·exact e1 k
      ·exact e3 k
     ·have k:i<=x/\x<i+1:=k
      omega
 have src:∀x y,patch hh i (prnR E a0 st b c i l') x=ae y->(x=b/\y= .raw [.sl i 0 l'.length (E.w a0) ar] 0 ar)\/(x=i/\y= .rows a0 l' (fzO st))\/(x≠i/\x≠b/\(∀p,st=ae p->x≠c)/\hh x=ae y):=by
  intro x y hy
  rw[f0] at hy
  split at hy
  ·rename_i e
   cases hy
   exact .inl ⟨e,rfl⟩
  ·rename_i e
   split at hy
   ·rename_i e2
    cases hy
    exact .inr (.inl ⟨e2,rfl⟩)
   ·rename_i e2
    split at hy
    ·cases hy
    ·rename_i e3
     exact .inr (.inr ⟨e2,e,λp J U=>e3 ⟨U,p,J⟩,hy⟩)
 have a4:(match aK i i with|true=>σ' c'|false=>σ i)=ae (r1,z1):=by rw[fL];exact k1
 have a1:∀x,x≠i->(match aK x i with|true=>σ' c'|false=>σ x)=σ x:=by
  intro x U
  cases e:aK x i with
  |true=>exact kc (ax e) U
  |false=>rfl
 have a6:∀x y q z',x≠b->(∀p,st=ae p->x≠c)->hh x=ae y->σ x=ae (q,z')->q<W.heap.size/\q≠rb/\(∀p z,st=ae p->σ c≠ae (q,z)):=by
  intro x y q z' U b5 hy I
  have c5:hh x≠none:=by rw[hy];simp
  refine⟨(hI.base x q z' I).2,?_,λp z J hq=>b5 p J (hI.inj x c _ _ _ c5 (cn p J) I hq)⟩
  rintro rfl
  exact U (hI.inj x b _ _ _ c5 b7 I a2)
 have b6:∀x y q z',x≠b->(∀p,st=ae p->x≠c)->hh x=ae y->σ x=ae (q,z')->q≠r1:=by
  rintro x y q z' U b5 hy I rfl
  obtain⟨m1,m2,m3⟩:=a6 x y q z' U b5 hy I
  rcases c2 with R|⟨z2,p,J,R⟩
  ·omega
  ·exact m3 p z2 J R
 have f4:rb<W.heap.size:=(hI.base b _ _ a2).2
 refine⟨_,he,λx=>match aK x i with|true=>σ' c'|false=>σ x,g',⟨λx p U=> ?_,λx p U=> ?_,hS.gle,λq o v hv=> ?_,hS.gmnew,λq hq a9=> ?_,hS.size,hS.os,hS.tape,hS.output,λx q z' U a7=> ?_⟩,?_,?_⟩
 ·exact(a1 x (λe=>by rw[e,hi] at U;cases U)).trans U
 ·by_cases e:x=i
  ·exact .inr (by show i<=x/\x<i+1;omega)
  ·have U:(match aK x i with|true=>σ' c'|false=>σ x)=ae p:=U
   rw[a1 x e] at U
   exact .inl U
 ·rcases hS.gcnew q o v hv with R|R|⟨b',R,z',h2⟩
  ·exact .inl R
  ·exact .inr (.inl R)
  ·rcases σP_cases h2 with⟨rfl,h2⟩|⟨_,J,h2⟩
   ·exact .inr (.inr ⟨b,mdO_mem.2 (.inl rfl),_,h2⟩)
   ·exact .inr (.inr ⟨c,mdO_mem.2 (.inr ⟨rfl,J⟩),_,h2⟩)
 ·exact c0 q hq (λe=>a9 b (mdO_mem.2 (.inl rfl)) zb (by rw[a2,e])) λp z J=>a9 c (mdO_mem.2 (.inr ⟨rfl,p,J⟩)) z
 ·have a7:(match aK x i with|true=>σ' c'|false=>σ x)=ae (q,z'):=a7
  by_cases e:x=i
  ·subst e
   rw[a4] at a7;cases a7
   rcases c2 with R|⟨z2,p,J,R⟩
   ·exact .inl R
   ·exact .inr ⟨c,mdO_mem.2 (.inr ⟨rfl,p,J⟩),z2,R⟩
  ·rw[a1 x e,U] at a7;cases a7
 ·refine⟨a3.gc,a3.gm,λx y U=> ?_,λx x' q f9 g0 R h2 h3 h4=> ?_,λx q z' I=> ?_,λx y q z' o v U I hv=> ?_,λx y q z' U I=> ?_,a3.glob⟩
  ·rcases src x y U with⟨rfl,rfl⟩|⟨rfl,rfl⟩|⟨e1,e2,e3,e4⟩
   ·refine⟨rb,zb,(a1 x a5).trans a2,?_⟩
    obtain⟨r2,z2,m1,arr,e,n1,n2,n3,n4,n5⟩:=a3.blk 0 _ hp0
    rw[b0] at m1;cases m1
    refine⟨arr,e,n1,n2,n3,λj sv hj=> ?_,jU⟩
    cases j with
    |succ j=>cases hj
    |zero=>
     have hj:ae (SV.sl i 0 l'.length (E.w a0) ar:SV Y)=ae sv:=hj
     cases hj
     obtain⟨v,q1,q2⟩:=n4 0 _ (show([.sl c' 0 l'.length (E.w a0) ar]:List (SV Y))[0]? =ae _ from rfl)
     refine⟨v,q1,?_⟩
     obtain⟨r3,z3,c3,rfl,u1,u2,u3,u4,u5⟩:=W9 (show Den E σ' g' (.sl c' 0 l'.length (E.w a0) ar) v from q2)
     refine .sl (E:=E) (b:=i) (z:=z3) ?_ u2 u3 u4 u5
     show(match aK i i with|true=>σ' c'|false=>σ i)=_
     rw[fL]
     exact u1
   ·refine⟨r1,z1,a4,?_⟩
    obtain⟨r2,z2,m1,m2⟩:=a3.blk c' _ a8
    rw[k1] at m1;cases m1
    obtain⟨arr,e,m1,m3,m4,m5,m6⟩:=m2
    refine⟨arr,e,m1,m3,m4,λj sv hj=> ?_,m6⟩
    obtain⟨v,n1,n2⟩:=m5 j sv hj
    have hn:nid 0 sv=true:=by
     obtain⟨q,p,x,rfl,J,hq,I⟩:=Y0 hE a0 _ hj
     exact Zs (hE.encI _ _ _) I
    exact⟨v,n1,Zx hE n2 (λb p hb=>by omega) hn⟩
   ·obtain⟨q,z',m1,m2⟩:=hI.blk x y e4
    obtain⟨m3,m4,m5⟩:=a6 x y q z' e2 e3 e4 m1
    refine⟨q,z',(a1 x e1).trans m1,?_⟩
    refine m2.mono (λx p U=> ?_) hS.gle (c0 q m3 m4 m5)
    show(match aK x i with|true=>σ' c'|false=>σ x)=ae p
    rw[a1 x (λe=>by rw[e,hi] at U;cases U)]
    exact U
  ·obtain⟨y,hy⟩:=aV.1 R
   obtain⟨y',f2⟩:=aV.1 h2
   rcases src x y hy with⟨rfl,rfl⟩|⟨rfl,rfl⟩|⟨e1,e2,e3,e4⟩<;>rcases src x' y' f2 with⟨rfl,rfl⟩|⟨rfl,rfl⟩|⟨d1,d2,d3,d4⟩
   ·rfl
   ·rw[a1 x a5,a2] at h3;cases h3
    rw[a4] at h4;cases h4
    exact kc rfl b2
   ·rw[a1 x a5,a2] at h3;cases h3
    rw[a1 x' d1] at h4
    exact kc rfl (a6 x' y' _ _ d2 d3 d4 h4).2.1
   ·rw[a4] at h3;cases h3
    rw[a1 x' a5,a2] at h4;cases h4
    exact kc rfl b2
   ·rfl
   ·rw[a4] at h3;cases h3
    rw[a1 x' d1] at h4
    exact kc rfl (b6 x' y' _ _ d2 d3 d4 h4)
   ·rw[a1 x' a5,a2] at h4;cases h4
    rw[a1 x e1] at h3
    exact kc rfl (a6 x y _ _ e2 e3 e4 h3).2.1
   ·rw[a4] at h4;cases h4
    rw[a1 x e1] at h3
    exact kc rfl (b6 x y _ _ e2 e3 e4 h3)
   ·rw[a1 x e1] at h3
    rw[a1 x' d1] at h4
    exact hI.inj x x' q _ _ (by rw[e4];simp) (by rw[d4];simp) h3 h4
  ·by_cases e:x=i
   ·subst e
    rw[a4] at I;cases I
    exact a3.base c' _ _ k1
   ·rw[a1 x e] at I
    exact⟨(hI.base x q z' I).1,cg (hI.base x q z' I).2 hS.size⟩
  ·rcases src x y U with⟨rfl,rfl⟩|⟨rfl,rfl⟩|⟨e1,e2,e3,e4⟩
   ·rw[a1 x a5,a2] at I;cases I
    have h2:o<0:=a3.fz 0 _ _ _ o v hp0 b0 hv
    omega
   ·rw[a4] at I;cases I
    exact a3.fz c' _ _ _ o v a8 k1 hv
   ·rw[a1 x e1] at I
    obtain⟨m3,m4,m5⟩:=a6 x y q z' e2 e3 e4 I
    rcases hS.gcnew q o v hv with R|R|⟨b',R,z2,h2⟩
    ·exact hI.fz x y q z' o v e4 I R
    ·omega
    ·rcases σP_cases h2 with⟨rfl,h3⟩|⟨_,⟨p,J⟩,h3⟩
     ·rw[a2] at h3;cases h3;exact kc rfl m4
     ·exact kc h3 (m5 p z2 J)
  ·rcases src x y U with⟨rfl,rfl⟩|⟨rfl,rfl⟩|⟨e1,e2,e3,e4⟩
   ·rw[a1 x a5,a2] at I;cases I
    exact a3.fm 0 _ _ _ hp0 b0
   ·rw[a4] at I;cases I
    exact a3.fm c' _ _ _ a8 k1
   ·rw[a1 x e1] at I
    obtain⟨m3,m4,m5⟩:=a6 x y q z' e2 e3 e4 I
    cases e5:g'.obj q with
    |none=>rfl
    |some es=>
     rcases hS.gmnew q es e5 with k|k
     ·rw[hI.fm x y q z' e4 I] at k;cases k
     ·omega
 ·rw[hv] at c4
  exact Zx hE c4 (λb p hb=>by omega) (show nid 0 (SV.tup ([]:List (SV Y)))=ac from rfl)
def sumB(E:Eng Y) (th:Y.Th) {α:Type} (d:DcL E α) (pre:List (Y.dom th)->α->Prop) (f:List (Y.dom th)->α->List (Y.dom th)):Sum Y:=λargs h i k=>
 match args with
 | .ptr b 0::rest=>
  (match h b,d.dec rest with
  |some (.raw [.sl c 0 len w ar] 0 _),ae x=>
   (match h c,aK w (E.w th)&& !(aK b c) with
   |some (.rows J l fz),ac=>U2 l λl=>(len=l.length/\fz<=l.length/\pre l x)/\∀I,I=f l x->k (prnR E th (ae (l,fz)) b c i I)
   |_,_=>False)
  |some (.raw [.val (.slice ar 0 0)] 0 _),ae x=>pre [] x/\∀I,I=f [] x->k (prnR E th ar b 0 i I)
  |_,_=>False)
 |_=>False
def Yfh(E:Eng Y) (f:Nat) (th:Y.Th) (args:List (SV Y)) (F:List (Y.dom th)->List (Y.dom th)) (P:List (Y.dom th)->Prop):Prop:=
 (∀l fz,fz<=l.length->P l->PrnC E f th args (ae (l,fz)) (F l))/\(P []->PrnC E f th args ar (F []))
theorem PrnC.of_dec{α:Type} {d:DcL E α} {f:Nat} {th:Y.Th} {args:List (SV Y)} {x:α} {U:Option (List (Y.dom th)×Nat)} {l':List (Y.dom th)} (hd:d.dec args=ae x) (h:PrnC E f th (d.enc x) U l'):PrnC E f th args U l':=by
 obtain⟨k1,k2,k3⟩:=d.ok _ _ hd;intro b c hp i tg h1 h2 B σ g w a3 hh a2 hI hB a1 I;refine h b c hp i tg h1 h2 B σ g w a3 hh a2 hI hB a1 ⟨?_,λj a0 u J R=> ?_⟩
 ·rw[<-I.1,aC,aC,k2]
 ·cases j with
  |zero=>exact I.2 0 a0 u J R
  |succ j=>
   obtain⟨sv,h7,h8⟩:=k3 σ g j a0 (by simpa using J);exact h8 u (I.2 (j+1) sv u (by simpa using h7) R)
theorem Zfm(hE:EngOk E) {th:Y.Th} {α:Type} {f:Nat} (hg:FnGood E.P f) {d:DcL E α} {pre:List (Y.dom th)->α->Prop} {F:List (Y.dom th)->α->List (Y.dom th)} (J:∀x,Yfh E f th (d.enc x) (λl=>F l x) (λl=>pre l x)):SumOk E f (sumB E th d pre F):=by
 refine⟨hg,λargs h i k hD I=> ?_⟩;unfold sumB at I;split at I
 case h_2=>exact I.elim
 rename_i b rest;split at I
 case h_3=>exact I.elim
 ·rename_i c len w tg x U hx
  split at I
  case h_2=>exact I.elim
  rename_i a6 l fz hc R;rw[aq,Bool.not_eq_true'] at R;obtain⟨R,a1⟩:=R;have R:=ax R;have a1:=nb a1;obtain⟨e,a5⟩:=Y3 I;clear I;subst e;subst R;obtain⟨⟨rfl,a4,a3⟩,a2⟩:=a5;refine⟨_,a2 _ rfl,λb' a0=> ?_,.inl (PrnC.of_dec hx ((J x).1 l fz a4 a3) b c h i tg U λp J=> ?_)⟩
  ·rcases mdO_mem.1 (show b'∈mdO (ae (l,fz)) b c from a0) with rfl|⟨rfl,_⟩
   ·rw[U];simp
   ·rw[hc];simp
  ·cases J
   exact⟨hc,a1⟩
 ·rename_i tg x U hx
  obtain⟨a3,a2⟩:=I;refine⟨_,a2 _ rfl,λb' a0=> ?_,.inl (PrnC.of_dec hx ((J x).2 a3) b 0 h i tg U λp J=>by cases J)⟩;rcases mdO_mem.1 (show b'∈mdO (ar:Option (List (Y.dom th)×Nat)) b 0 from a0) with rfl|⟨_,_,h2⟩
  ·rw[U];simp
  ·cases h2
end
end
section
open Go
theorem Z4n{F:Fns thy} (J:FnsOk E F) {n:Nat} {f:Nat} {th:Th} {args:List (SV thy)} {I:Option (List (thy.dom th)×Nat)} {l':List (thy.dom th)} (R:nidL 0 args=ac) (U:Zk E F (vc E F n) f (.ptr 0 0::args) (hpP E th I) 2 (prnK E th I l')):PrnC E f th args I l':=
 X2 E_ok (Zd E_ok J n) R U
def Aixi:Fr thy->Hp thy->Nat->Ann thy:=λT h i=>{X:=LX,fr:=λx=> [(0,T 0),(1,T 1),(7,T 7),(8,.int ab .i64 x.k)],bl:=λx=> [],src:=λ_=> [],md:= [],ih:=i,M:=i+30,meas:=λx=>x.r}
noncomputable def Fixi:Fns thy:=addL F0 143 2 Aixi E
theorem Z99(l:List Int) (s:Int) (v:Int):Zk E Fixi (vc E Fixi 400) 143 [.psl kq l ab,.int ab .i64 s] hp0 0 (λr=>ret E (patch hp0 0 r) r.v (.int ab .i64 v))=(
∃(R:LX->Prop),(∃(x:LX),R x/\ac=ac/\((l=l/\(ab=ac->ab=ac))/\s=s/\(↑(aa l):Int)=(↑(aa l):Int)/\0=(↑(LX.k x):Int)/\True)/\True)/\∀(x:LX),R x->(decide ((↑(LX.k x):Int)<(↑(aa l):Int))=ac->0<=(↑(LX.k x):Int)/\(↑(LX.k x):Int)+1<=(↑(aa l):Int)/\∀(I:Int),l[ag (↑(LX.k x):Int)]? =ae I->((s==I)=ac->(↑(LX.k x):Int)=v)/\((s==I)=ab->∃(J:LX),R J/\J.2+1<=x.2/\ac=ac/\((l=l/\(ab=ac->ab=ac))/\s=s/\(↑(aa l):Int)=(↑(aa l):Int)/\wr af ((↑(LX.k x):Int)+1)=(↑(LX.k J):Int)/\True)/\True))/\(decide ((↑(LX.k x):Int)<(↑(aa l):Int))=ab->(-1:Int)=v)):=by kernel_rfl
noncomputable def dIs:Dc E (List Int):=(Zfi (E:=E) kq:Dc E (List (thy.dom kq)))
noncomputable def Sixi:Sum thy:=Zqq E (λ_=>ar) 2 (Wn (dA2 dIs dN) (λx=>x.1.length<=1000000000) (λx=>idxI x.2.1 0 x.1) λy=> .int ab .i64 y)
noncomputable def Yky:Sum thy:=Wn (dA1 dN) (λx=>0<=x.1/\x.1<10000000000000) (λx=>decN x.1) λy=> .str ab y
noncomputable def Fpu:Fns thy:=addS (addS (addS F0 36 Zmu) 143 Sixi) 115 Yky
abbrev qCK4:=(0:Int)
abbrev qCK6:=(↑(4:Nat):Int)
abbrev qCK3:=(ag qCK6-ag qCK4)
abbrev qCK1(I:Int) (J:Int) (R:Int) (d0:Int):=(aw qCK3 (cy (ag qCK4) [I,J,R,d0]))
abbrev qCK2:=((4:Nat)=(4:Nat)/\qCK4<=qCK4/\qCK4<=qCK6/\qCK6<=qCK6/\(qCK4+(1:Int)<=qCK6\/qCK4=qCK4))
abbrev qCK5:=(↑(aa (dJ eN)):Int)
theorem Zze(l:List (List Nat)) (fz:Nat) (a b c d:Int) (I:List (List Nat)):Zk E Fpu (vc E Fpu 400) 117 [.ptr 0 0,dimA a b c d] (hpP E dp (ae (l,fz))) 2 (prnK E dp (ae (l,fz)) I)=(
 qCK2/\ag qCK4+qCK3<=4/\aa (qCK1 a b c d)<=1000000000/\∀(y:Int),y=idxI 1 0 (qCK1 a b c d)->(decide (y>=qCK4)=ac->qCK4<=y/\y+1<=qCK5/\∀(x:List Nat),(dJ eN)[ag y]? =ae x->(aa l<=aa l/\fz<=aa l/\(aa l+1)*16<=140737488355328)/\qCK2/\ag qCK4+qCK3<=4/\aa (qCK1 a b c d)<=1000000000/\∀(y:Int),y=idxI (-1:Int) 0 (qCK1 a b c d)->(decide (y>=qCK4)=ac->qCK4<=y/\y+1<=qCK5/\∀(J:List Nat),(dJ eN)[ag y]? =ae J->(aa l+1<=aa (aw (aa l) l++ [x])/\fz<=aa l+1/\(aa l+1+2)*16<=140737488355328)/\aw (aa l+1) (aw (aa l) l++ [x])++ [[112,101,114],J]=I/\aa l+1+2=aa I/\fz=fzO (ae (l,fz)))/\(decide (y>=qCK4)=ab->aw (aa l) l++ [x]=I/\aa l+1=aa I/\fz=fzO (ae (l,fz))))/\(decide (y>=qCK4)=ab->qCK2/\ag qCK4+qCK3<=4/\aa (qCK1 a b c d)<=1000000000/\∀(y:Int),y=idxI (-1:Int) 0 (qCK1 a b c d)->(decide (y>=qCK4)=ac->qCK4<=y/\y+1<=qCK5/\∀(x:List Nat),(dJ eN)[ag y]? =ae x->(aa l<=aa l/\fz<=aa l/\(aa l+2)*16<=140737488355328)/\aw (aa l) l++ [[112,101,114],x]=I/\aa l+2=aa I/\fz=fzO (ae (l,fz)))/\(decide (y>=qCK4)=ab->l=I/\aa l=aa I/\fz=fzO (ae (l,fz))))):=by kernel_rfl
theorem Z4o{v:Int} {l:List Int}:∀{k:Nat} {x:Int},l[k]? =ae x->idxI v k (l.drop k)=if v=x then(k:Int) else idxI v (k+1) (l.drop (k+1)):=by
 intro k x h;rw[Z2 h];rfl
theorem Yaa(l:List Int) (s:Int) (hl:l.length<=1000000000):PureC E 143 [.psl kq l ab,.int ab .i64 s] (.int ab .i64 (idxI s 0 l)):=by
 have R:FnsOk E Fixi:=Zm E_ok F0_ok _ _ _;refine Za E_ok (Zd E_ok R 400) ?_;rw[Z99];simp only[and_true,true_and,fK,fC,hJ,fR,ko];refine⟨λx=>x.k<=l.length/\idxI s x.k (l.drop x.k)=idxI s 0 l/\x.r=l.length-x.k,⟨⟨0,l.length,[],0⟩,⟨(by dsimp only;omega),rfl,rfl⟩,rfl⟩,?_⟩;rintro x ⟨hk,I,hr⟩;refine aD (λU=>⟨by omega,by omega,λy J=> ?_⟩) (λU=> ?_)
 ·have J:l[x.k]? =ae y:=J
  rw[Z4o J] at I;refine⟨λe=> ?_,λe=> ?_⟩
  ·rw[jQ e] at I;exact I
  ·rw[jG e] at I
   exact⟨⟨x.k+1,l.length-(x.k+1),[],0⟩,⟨(by dsimp only;omega),I,rfl⟩,by show l.length-(x.k+1)+1<=x.r;omega,wr64 (by omega) (by omega)⟩
 ·rw[bJ (by omega)] at I
  exact I
theorem Yg7:SumOk E 143 Sixi:=Zjn E_ok (Zz E_ok (Zc rfl) λx h=>Yaa x.1 x.2.1 h)
theorem Yab:SumOk E 115 Yky:=Zz E_ok (Zc rfl) λx h=>by
 have:=Z2x x.1.toNat (by omega);rw[show((x.1.toNat:Nat):Int)=x.1 by omega] at this;exact this
theorem Zv6:FnsOk E Fpu:=Zb (Zb (Zb F0_ok Zfs) Yg7) Yab
theorem Zta:∀{v:Int} {l:List Int} {k:Nat},idxI v k l<k+l.length
 |v,[],k=>by unfold idxI;simp;omega
 |v,x::l,k=>by
  unfold idxI
  split
  ·simp;omega
  ·have:=Zta (v:=v) (l:=l) (k:=k+1)
   simp at this⊢;omega
theorem Zv7{y:Int} (J:0<=y) {x:List Nat} (I:(dJ eN)[ag y]? =ae x):eN.words.getD y.toNat []=x:=by
 simp[ah,I]
theorem Yac(l:List (List Nat)) (fz:Nat) (a b c d:Int) (hf:fz<=l.length) (hl:l.length+8<=1000000000):PrnC E 117 dp [dimA a b c d] (ae (l,fz)) (l++txU [a,b,c,d]):=by
 refine Z4n Zv6 (n:=400) rfl ?_;rw[Zze];delta qCK4 qCK6 qCK3 qCK1 qCK2 qCK5;have i1:=Zta (v:=1) (l:= [a,b,c,d]) (k:=0);have i2:=Zta (v:= -1) (l:= [a,b,c,d]) (k:=0);have U:(dJ eN).length=4:=rfl;have l4:(aa [a,b,c,d]:Int)=4:=rfl;have e:aw (ag (↑(4:Nat):Int)-ag (0:Int)) (cy (ag (0:Int)) [a,b,c,d])= [a,b,c,d]:=rfl;rw[e];clear e;refine⟨by decide,by decide,by show 4<=1000000000;decide,λy R=>⟨λh=> ?_,λh=> ?_⟩⟩
 ·have h:0<=y:=by simpa using h
  rw[<-R] at i1;refine⟨h,by rw[U];omega,λx hx=>⟨⟨av _,hf,by omega⟩,by decide,by decide,by show 4<=1000000000;decide,λz J=>⟨λI=> ?_,λI=> ?_⟩⟩⟩
  ·have I:0<=z:=by simpa using I
   rw[<-J] at i2;refine⟨I,by rw[U];omega,λx2 a0=>⟨⟨by simp,by omega,by omega⟩,?_⟩⟩;have:txU [a,b,c,d]= [x,sPer,x2]:=by
    unfold txU;rw[<-R,<-J,jQ h,jQ I,Zv7 h hx,Zv7 I a0];rfl
   rw[this,aU];have e2:aw (l.length+1) (l++ [x])=l++ [x]:=bg (by simp);rw[e2];simp[sPer,fzO]
  ·have I:¬0<=z:=by simpa using I
   have:txU [a,b,c,d]= [x]:=by
    unfold txU;rw[<-R,<-J,jQ h,jG I,Zv7 h hx];rfl
   rw[this];simp[fzO]
 ·have h:¬0<=y:=by simpa using h
  refine⟨by decide,by decide,by show 4<=1000000000;decide,λz J=>⟨λI=> ?_,λI=> ?_⟩⟩
  ·have I:0<=z:=by simpa using I
   rw[<-J] at i2;refine⟨I,by rw[U];omega,λx2 a0=>⟨⟨av _,hf,by omega⟩,?_⟩⟩;have:txU [a,b,c,d]= [sPer,x2]:=by
    unfold txU;rw[<-R,<-J,jG h,jQ I,Zv7 I a0];rfl
   rw[this];simp[sPer,fzO]
  ·have I:¬0<=z:=by simpa using I
   have:txU [a,b,c,d]= []:=by
    unfold txU;rw[<-R,<-J,jG h,jG I];rfl
   rw[this];simp[fzO]
noncomputable def Sunp:Sum thy:=sumB E dp dDim (λl x=>1<=l.length/\l.length+8<=1000000000) λ(l:List (List Nat)) x=>l++txU [x.1.getD 0 0,x.1.getD 1 0,x.1.getD 2 0,x.1.getD 3 0]
theorem Yg8:SumOk E 117 Sunp:=Zfm E_ok (Zc rfl) λx=>⟨λl fz I h=>Yac l fz _ _ _ _ I h.2,λh=>kc h.1 (by decide)⟩
noncomputable def Sxp(m:Nat):Sum thy:=sumB E dp dExp (λl x=>x.1.sz<m/\Zn x.1=ac/\1<=l.length/\l.length+8*x.1.sz+8<=1000000000) λ(l:List (List Nat)) x=>l++txX x.1
theorem Ztb(n:Int) (v:Int):Zk E F0 (vc E F0 400) 119 [.int ab .i64 n] hp0 0 (λr=>ret E (patch hp0 0 r) r.v (.int ab .i64 v))=(
((n==3)=ac->1=v)/\((n==3)=ab->((n==4)=ac->1=v)/\((n==4)=ab->((n==5)=ac->2=v)/\((n==5)=ab->3=v)))):=by kernel_rfl
noncomputable def Z4p:Sum thy:=Wn (dA1 dN) (λ_=>True) (λx=>tightF x.1) λy=> .int ab .i64 y
noncomputable def Fop'(m:Nat):Fns thy:=addS (addS F0 119 Z4p) 71 (Sxp m)
abbrev qCK7(I:Ex):=(bY (aJ I) (cd I) (bC I) (bD I) (bE I) (bF I) (bx I))
abbrev qCK8(I:List (List Nat)):=(aw (aa I) I++ [[(40:Nat)]])
theorem Zzf(m:Nat) (l:List (List Nat)) (fz:Nat) (x:Ex) (n:Int) (J:List (List Nat)):Zk E (Fop' m) (vc E (Fop' m) 400) 118 [.ptr 0 0,exA x,.int ab .i64 n] (hpP E dp (ae (l,fz))) 2 (prnK E dp (ae (l,fz)) J)=(
 True/\∀(y:Int),y=tightF (aJ x)->(decide (y>=n)=ac->(aa l=aa l/\fz<=aa l/\cZ (qCK7 x)+1<=m/\Zn (qCK7 x)=ac/\1<=aa l/\aa l+8*cZ (qCK7 x)+8<=1000000000)/\∀(I:List (List Nat)),I=l++txX (qCK7 x)->I=J/\aa I=aa J/\fzO (ae (l,fz))=fzO (ae (l,fz)))/\(decide (y>=n)=ab->(aa l<=aa l/\fz<=aa l/\(aa l+1)*16<=140737488355328)/\(aa l+1=aa (qCK8 l)/\fz<=aa (qCK8 l)/\cZ (qCK7 x)+1<=m/\Zn (qCK7 x)=ac/\1<=aa (qCK8 l)/\aa (qCK8 l)+8*cZ (qCK7 x)+8<=1000000000)/\∀(I:List (List Nat)),I=aw (aa l) l++ [[40]]++txX (qCK7 x)->(aa I<=aa I/\fzO (ae (aw (aa l) l++ [[40]],fz))<=aa I/\(aa I+1)*16<=140737488355328)/\aw (aa I) I++ [[41]]=J/\aa I+1=aa J/\fzO (ae (aw (aa l) l++ [[40]],fz))=fzO (ae (l,fz)))):=by kernel_rfl
noncomputable def Ykz(m:Nat):Sum thy:=sumB E dp Yni (λl x=>x.1.sz<m/\Zn x.1=ac/\1<=l.length/\l.length+8*x.1.sz+10<=1000000000) λ(l:List (List Nat)) x=>l++par x.1.op x.2.1 (txX x.1)
noncomputable def Fxp'(m:Nat):Fns thy:=addS (addS (addS (addS Fpu 117 Sunp) 119 Z4p) 71 (Sxp m)) 118 (Ykz m)
theorem Zzg(n:Int):PureC E 119 [.int ab .i64 n] (.int ab .i64 (tightF n)):=by
 refine Za E_ok (Zd E_ok F0_ok 400) ?_;rw[Ztb];unfold tightF;refine⟨λh=> ?_,λh=>⟨λI=> ?_,λI=>⟨λJ=> ?_,λJ=> ?_⟩⟩⟩
 all_goals simp at*
 all_goals simp[*]
theorem Zp4:SumOk E 119 Z4p:=Zz E_ok (Zc rfl) λx _=>Zzg x.1
def PxOk(m:Nat):Prop:=∀x:Ex,x.sz<m->Zn x=ac->∀(l:List (List Nat)) (fz:Nat),fz<=l.length->1<=l.length->l.length+8*x.sz+8<=1000000000->PrnC E 71 dp [exA x] (ae (l,fz)) (l++txX x)
theorem Z4q{m:Nat} (h:PxOk m):SumOk E 71 (Sxp m):=Zfm E_ok (Zc rfl) λx=>⟨λl fz J I=>h x.1 I.1 I.2.1 l fz J I.2.2.1 I.2.2.2,λI=>kc I.2.2.1 (by decide)⟩
theorem Yg9{m:Nat} (h:PxOk m):FnsOk E (Fop' m):=Zb (Zb F0_ok Zp4) (Z4q h)
mutual
theorem Xu:∀(x:Ex),(txX x).length+2<=8*x.sz
 | .mk op n a b c d l=>by
  have h:=Z4r l
  have R:∀I:List (List Nat),(txS (txL l) I).length+0<=8*kQ l:=λI=>Z4s (txL l) I (8*kQ l) h
  have hU:(txU [a,b,c,d]).length<=3:=by
   unfold txU
   rw[aB]
   split<;>split<;>simp
  have J:∀op least t,(par op least t).length<=t.length+2:=by
   intro op least t
   unfold par
   split
   ·omega
   ·simp
  have h2:=Yad (txL l) _ h
  rw[txX,cZ]
  unfold txN
  split
  ·rw[aC];omega
  ·split
   ·simp;omega
   ·split
    ·have:=R [Zew,Yg,Yg,Ye]
     rw[aC,aC]
     omega
    ·split
     ·rw[aB,aC]
      have U:=J ((l.map aJ).getD 0 0) (tightF op) ((txL l).getD 0 [])
      have a2:=J ((l.map aJ).getD 1 0) (tightF op+1) ((txL l).getD 1 [])
      omega
     ·have:=R [Yg,Ye]
      rw[aC,aC]
      omega
theorem Z4r:∀(l:List Ex),((txL l).map λt=>t.length+2).sum<=8*kQ l
 | []=>by simp[txL]
 |x::r=>by
  have I:=Xu x
  have J:=Z4r r
  rw[txL,kQ,bS,kC]
  omega
theorem Z4s:∀(ts:List (List (List Nat))) (I:List (List Nat)) (b:Nat),(ts.map λt=>t.length+2).sum<=b->(txS ts I).length+0<=b
 | [],_,_,h=>by simp[txS]
 |t::r,[],_,h=>by simp[txS]
 |t::r,s::I,b,h=>by
  rw[bS,kC] at h
  have:=Z4s r I (b-(t.length+2)) (by omega)
  rw[txS,aB,aC]
  omega
theorem Yad:∀(ts:List (List (List Nat))) (b:Nat),(ts.map λt=>t.length+2).sum<=b->(ts.getD 0 []).length+(ts.getD 1 []).length<=b
 | [],_,_=>by simp
 | [t],_,h=>by simp at h⊢;omega
 |t::u::r,_,h=>by simp at h⊢;omega
end
theorem Yae{m:Nat} (hm:PxOk m) (l:List (List Nat)) (fz:Nat) (x:Ex) (n:Int) (J:x.sz<m) (R:Zn x=ac) (I:fz<=l.length) (U:1<=l.length) (hl:l.length+8*x.sz+10<=1000000000):PrnC E 118 dp [exA x,.int ab .i64 n] (ae (l,fz)) (l++par x.op n (txX x)):=by
 refine Z4n (Yg9 hm) (n:=400) rfl ?_;rw[Zzf];delta qCK7 qCK8;have ht:=Xu x;simp only[fzO,aU,ia,kD,fK,fC,true_and,and_true];refine⟨λh=>⟨⟨I,J,R,U,by omega⟩,?_⟩,λh=>⟨⟨av _,I,by omega⟩,⟨by simp,by simp;omega,J,R,by simp,by simp;omega⟩,⟨av _,by simp;omega,by simp;omega⟩,?_⟩⟩
 ·have:par x.op n (txX x)=txX x:=by unfold par;rw[jQ h]
  rw[this];exact⟨rfl,rfl⟩
 ·have:par x.op n (txX x)=X4::(txX x++ [Ye]):=by unfold par;rw[jG h]
  rw[this];simp[X4,Ye];omega
theorem Yaf{m:Nat} (h:PxOk m):SumOk E 118 (Ykz m):=Zfm E_ok (Zc rfl) λx=>⟨λl fz J I=>Yae h l fz x.1 x.2.1 I.1 I.2.1 J I.2.2.1 I.2.2.2,λI=>kc I.2.2.1 (by decide)⟩
theorem Yha{m:Nat} (h:PxOk m):FnsOk E (Fxp' m):=Zb (Zb (Zb (Zb Zv6 Yg8) Zp4) (Z4q h)) (Yaf h)
end
section
open Go
def dD(u:Nat):List Nat:=(eT u).map cX
theorem Zd4{u:Nat} (h:u<10):dD u= [48+u]:=by
 unfold dD;rw[eT,dif_pos h];have:(gh (48+u)).toNat=48+u:=by
  rw[gY];omega
 simp only[bS,dK,this]
theorem Zow{u:Nat} (h:¬u<10):dD u=dD (u/10)++ [48+u%10]:=by
 unfold dD;rw[eT,dif_neg h];have:(gh (48+u%10)).toNat=48+u%10:=by
  rw[gY];omega
 rw[eY];simp only[bS,dK,this]
theorem Z1x{n:Int} (h:0<=n):decN n=dD n.toNat:=by
 unfold decN dD gO;rw[jG (by omega)]
theorem Zu5:∀{a b:List Nat} {n m:Int},numL n a=(m,0)->numL n (a++b)=numL m b
 | [],b,n,m,h=>by
  unfold numL at h
  cases h
  rfl
 |c::r,b,n,m,h=>by
  unfold numL at h
  rw[bW]
  unfold numL
  split at h
  ·cases h
  ·rename_i I
   rw[jG I,Zu5 h]
   cases b<;>rfl
theorem Z78(u:Nat):dD u≠ []:=by
 by_cases h:u<10
 ·rw[Zd4 h];simp
 ·rw[Zow h];simp
theorem Yjr:∀(u:Nat),u<=1099511627776->numL 0 (dD u)=((u:Int),0):=by
 intro u
 induction u using iH with
 |_ u I=>
  intro J;by_cases h:u<10
  ·rw[Zd4 h]
   unfold numL;rw[jG (by omega)];unfold numL
   congr 1
   omega
  ·rw[Zow h,Zu5 (I (u/10) (by omega) (by omega))]
   unfold numL;rw[jG (by omega)];unfold numL
   congr 1
   omega
theorem Yjs:∀(u:Nat),∀c∈dD u,isD (c:Int)=true:=by
 intro u
 induction u using iH with
 |_ u J=>
  have one:∀k:Nat,k<10->isD ((48+k:Nat):Int)=true:=by
   intro k R;unfold isD;simp;omega
  by_cases h:u<10
  ·rw[Zd4 h]
   intro c I;rw[cr] at I;subst I;exact one u h
  ·rw[Zow h]
   intro c I;rcases cf.1 I with I|I
   ·exact J (u/10) (by omega) c I
   ·rw[cr] at I
    subst I;exact one _ (by omega)
theorem Yem:∀(u:Nat),1<(dD u).length->(dD u).head?≠ae 48:=by
 intro u
 induction u using iH with
 |_ u R=>
  by_cases h:u<10
  ·rw[Zd4 h]
   intro J;simp at J
  ·rw[Zow h]
   intro _;have e:(dD (u/10)++ [48+u%10]).head? =(dD (u/10)).head? :=by
    cases hd:dD (u/10) with
    |nil=>exact kc hd (Z78 _)
    |cons x r=>rfl
   rw[e];by_cases I:u/10<10
   ·rw[Zd4 I]
    intro k;injection k with k
    omega
   ·refine R (u/10) (by omega) ?_
    rw[Zow I,aB];have:=Z78 (u/10/10);cases hd:dD (u/10/10) with
    |nil=>exact kc hd this
    |cons x r=>simp
theorem Zrx{n:Int} (J:0<=n) (h1:n<=1099511627776):tokP (decN n)=(⟨2,decN n,n,0⟩,0):=by
 rw[Z1x J];have a0:=Z78 n.toNat;have hd:=Yjs n.toNat;have hn:=Yjr n.toNat (by omega);have U:=Yem n.toNat;have R:((n.toNat:Nat):Int)=n:=by omega
 generalize dD n.toNat=w at*;cases w with
 |nil=>exact kc rfl a0
 |cons c r=>
  rw[Y7];have I:=hd c (by simp);have hl:isL (c:Int)=false:=by
   unfold isD at I;unfold isL;simp at I⊢;omega
  rw[jG (by rw[hl];decide),jQ I,Vy hd,aU];have:numb (c::r)=(n,0):=by
   unfold numb;rw[jG (λk=>U k.1 k.2),hn,R]
  rw[this]
theorem Zgw{n:Int} (I:0<=n) (J:n<=1099511627776):TokW (decN n):=by
 refine⟨by rw[Zrx I J],by rw[Zrx I J],?_⟩;rw[Z1x I];exact Z78 _
theorem Z1y{n:Int} (I:0<=n) (J:n<=1099511627776):tkS (decN n)=⟨2,decN n,n,0⟩:=by
 unfold tkS;rw[Zrx I J];rfl
theorem Ym7{c:Nat} (h:wb c=ac):isLD (c:Int)=true:=by
 unfold wb at h;unfold isLD isL isD;simp at h⊢;omega
theorem Zl9{s:List Nat} (h:V4 s=ac):tokP s=(⟨1,s,0,0⟩,0):=by
 unfold V4 at h;rw[aq,aq,fK] at h;obtain⟨⟨U,I⟩,R⟩:=h;cases s with
 |nil=>cases I
 |cons c r=>
  have J:isL (c:Int)=true:=by
   unfold lowF at I;unfold isL;simp at I⊢;omega
  rw[Y7,jQ J,Vy λc J=>Ym7 (fH.1 R c J),jG (by omega),aU]
theorem Zhy{s:List Nat} (h:V4 s=ac):TokW s:=by
 refine⟨by rw[Zl9 h],by rw[Zl9 h],?_⟩;rintro rfl;simp[V4,lowF] at h
theorem Zma{s:List Nat} (h:V4 s=ac):tkS s=⟨1,s,0,0⟩:=by
 unfold tkS;rw[Zl9 h];rfl
theorem Z79:∀k:WK,∀w∈k.words,V4 w=true:=by
 intro k;cases k<;>decide
theorem Zu6{k:WK} {i:Nat} (h:i<k.words.length):k.words.getD i []∈k.words:=by
 have:k.words.getD i []=k.words[i]:=by simp[ah,h]
 rw[this];exact iE h
theorem Zmb{k:WK} {i:Nat} (h:i<k.words.length):V4 (k.words.getD i [])=true:=Z79 k _ (Zu6 h)
theorem Yen{k:WK} {i:Nat} (h:i<k.words.length):tkS (k.words.getD i [])=⟨1,k.words.getD i [],0,0⟩:=Zma (Zmb h)
theorem Yjt:∀k:WK,∀i,i<k.words.length->idxS (k.words.getD i []) 0 k.words=i:=by
 intro k;cases k<;>decide
theorem Zf9{k:WK} {i:Nat} (h:i<k.words.length) (r:List Tok):chz k.words (tkS (k.words.getD i [])::r)=i:=by
 rw[Yen h];show(if(1:Int)=1 then idxS (k.words.getD i []) 0 k.words else-1)=i;rw[jQ rfl,Yjt k i h]
def Fl0(r:List Tok):Prop:=¬0<=chz eN.words r/\isW sPer r=ab
end
section
open Go
theorem Zfw{o:List Tok->Int×List Tok} {pf:PE} (J:∀l,(o l).2.length<=l.length) (R:Shr pf):∀(k I:Nat) (x:Ex) (op:Int) (l:List Tok) (e:Int),l.length<k->l.length<I->Xp o pf k x op l e=Xp o pf I x op l e
 |0,_,_,_,_,_,h,_=>by omega
 |_+1,0,_,_,_,_,_,h=>by omega
 |k+1,I+1,x,op,l,e,h,h'=>by
  unfold Xp
  split
  ·rfl
  ·cases U:pf l e with
   |error er=>rfl
   |ok y=>
    have h1:=R _ _ _ _ U
    have h2:=J y.2.1
    exact Zfw J R k I _ _ _ _ (by omega) (by omega)
def pRx(o:List Tok->Int×List Tok) (pf:PE) (x:Ex) (op:Int) (l:List Tok) (e:Int):PR Ex:=Xp o pf (l.length+1) x op l e
theorem Ydb{o:List Tok->Int×List Tok} {pf:PE} (J:∀l,(o l).2.length<=l.length) (R:Shr pf) (x:Ex) (op:Int) (l:List Tok) (e:Int):
 pRx o pf x op l e=if op=0 then .ok (x,l,e,()) else match pf l e with
  | .error I=> .error I
  | .ok (y,z)=>pRx o pf (.mk op 0 0 0 0 0 [x,y]) (o z.1).1 (o z.1).2 z.2.1:=by
 unfold pRx
 rw[Xp]
 split
 ·rfl
 ·cases U:pf l e with
  |error I=>rfl
  |ok y=>
   have h1:=R _ _ _ _ U
   have h2:=J y.2.1
   exact Zfw J R _ _ _ _ _ _ (by omega) (by omega)
theorem Zv8(l:List Tok):(op1 l).2.length<=l.length:=Zse l
theorem Zv9(l:List Tok):(op2 l).2.length<=l.length:=Zsf l
def Agr(n:Nat) (p q:PE):Prop:=∀l e,l.length<n->p l e=q l e
theorem Zwa{n:Nat} {p q:PE} (J:Shr p) (h:Agr n p q):∀(R:List (List Nat)) (I:List Ex) (l:List Tok) (e:Int),l.length<n->pOpL p R I l e=pOpL q R I l e
 | [],_,_,_,_=>rfl
 |s::r,I,l,e,U=>by
  unfold pOpL
  rw[<-h l e U]
  cases hq:p l e with
  |error er=>rfl
  |ok y=>
   have h1:=J _ _ _ _ hq
   dsimp only
   split
   ·refine Zwa J h r _ _ _ ?_
    rw[dM]
    omega
   ·rfl
theorem Zwb{n:Nat} {p q:PE} (J:Shr p) (h:Agr n p q) (op:Int) (I:List (List Nat)) (l:List Tok) (e:Int) (U:l.length<n+1):pOps p op I l e=pOps q op I l e:=by
 unfold pOps;split
 ·rename_i R
  have:=Zv R;rw[Zwa J h I [] l.tail e (by omega)]
 ·rfl
theorem Zp9{n:Nat} {p q:PE} (J:Shr p) (h:Agr n p q) (l:List Tok) (e:Int) (hl:l.length<n+1):Zbj p l e=Zbj q l e:=by
 unfold Zbj;split
 ·rename_i I
  have:=Zv I;rw[h l.tail e (by omega)]
 ·split
  ·rename_i I
   have:=Zv I;rw[Zwb J h _ _ l.tail e (by omega)]
  ·cases R:Z0 gC.words l e with
   |error er=>rfl
   |ok y=>
    obtain⟨y0,U⟩:=y;have:U.1.length<=l.length:=by
     rcases X1 R with⟨_,_,rfl⟩|⟨_,_,rfl⟩
     ·show l.tail.length<=l.length
      rw[dM];omega
     ·exact av _
    dsimp only;split
    ·exact Zwb J h _ _ _ _ (by omega)
    ·rfl
theorem Zwc{n:Nat} {p q:PE} (J:Shr p) (h:Agr n p q):Agr (n+1) (pFac p) (pFac q):=by
 intro l e I;unfold pFac;split
 ·exact Zp9 J h _ _ I
 ·split
  ·rfl
  ·exact Zp9 J h _ _ I
theorem Zqa{n:Nat} {o:List Tok->Int×List Tok} (I:∀l,(o l).2.length<=l.length) {p q:PE} (J:Shr p) (h:Agr n p q):∀(k:Nat) (x:Ex) (op:Int) (l:List Tok) (e:Int),l.length<n->Xp o p k x op l e=Xp o q k x op l e
 |0,_,_,_,_,_=>rfl
 |k+1,x,op,l,e,R=>by
  unfold Xp
  split
  ·rfl
  ·rw[<-h l e R]
   cases U:p l e with
   |error er=>rfl
   |ok y=>
    have h1:=J _ _ _ _ U
    have h2:=I y.2.1
    exact Zqa I J h k _ _ _ _ (by omega)
theorem Zm5{n:Nat} {o:List Tok->Int×List Tok} (I:∀l,(o l).2.length<=l.length) {p q:PE} (J:Shr p) (h:Agr n p q):Agr n (pCh o p) (pCh o q):=by
 intro l e R;unfold pCh;rw[<-h l e R];cases U:p l e with
 |error er=>rfl
 |ok y=>
  have h1:=J _ _ _ _ U;have h2:=I y.2.1;exact Zqa I J h _ _ _ _ _ (by omega)
theorem Ydc(n:Nat):Shr (pE n):=(Zam n).shr
theorem Zm6{I:PE} (h:Bnd I):Shr (pFac I):=(Ui h).shr
theorem Ydd:∀(n m:Nat),n<=m->Agr n (pE n) (pE m)
 |0,m,_=>λl e J=>by omega
 |n+1,m+1,h=>by
  have I:=Ydd n m (by omega)
  unfold pE
  refine Zm5 Zv9 (Zdc Zfp (Ui (Zam n))).shr ?_
  exact Zm5 Zv8 (Zm6 (Zam n)) (Zwc (Ydc n) I)
theorem Yde(n:Nat):Agr n (pE n) pX:=by
 intro l e I;unfold pX;exact(Ydd (l.length+1) n (by omega) l e (dx _)).symm
def pf:PE:=pFac pX
def pt:PE:=pCh op1 pf
theorem Ynm(l:List Tok) (e:Int):pX l e=pCh op2 pt l e:=by
 show pE (l.length+1) l e=_;rw[pE];refine Zm5 (n:=l.length+1) Zv9 (Zdc Zfp (Ui (Zam _))).shr ?_ l e (dx _);exact Zm5 Zv8 (Zm6 (Zam _)) (Zwc (Ydc _) (Yde _))
theorem pf_bnd:Bnd pf:=Ui Zo6
theorem pt_bnd:Bnd pt:=Zdc Zfp pf_bnd
theorem Yk4:Shr pf:=pf_bnd.shr
theorem Yk5:Shr pt:=pt_bnd.shr
theorem Ynn(l:List Tok) (e:Int):pt l e=match pf l e with
 | .error I=> .error I
 | .ok (y,z)=>pRx op1 pf y (op1 z.1).1 (op1 z.1).2 z.2.1:=rfl
theorem Yhb(x:Ex) (op:Int) (l:List Tok) (e:Int):pRx op1 pf x op l e=if op=0 then .ok (x,l,e,()) else match pf l e with
 | .error I=> .error I
 | .ok (y,z)=>pRx op1 pf (.mk op 0 0 0 0 0 [x,y]) (op1 z.1).1 (op1 z.1).2 z.2.1:=Ydb Zv8 Yk4 x op l e
theorem Yhc(x:Ex) (op:Int) (l:List Tok) (e:Int):pRx op2 pt x op l e=if op=0 then .ok (x,l,e,()) else match pt l e with
 | .error I=> .error I
 | .ok (y,z)=>pRx op2 pt (.mk op 0 0 0 0 0 [x,y]) (op2 z.1).1 (op2 z.1).2 z.2.1:=Ydb Zv9 Yk5 x op l e
theorem Yk6(l:List Tok) (e:Int):pX l e=match pt l e with
 | .error I=> .error I
 | .ok (y,z)=>pRx op2 pt y (op2 z.1).1 (op2 z.1).2 z.2.1:=Ynm l e
abbrev TS(ws:List (List Nat)):List Tok:=ws.map tkS
def d0:List Int:= [0,0,0,0]
theorem Yno{r:List Tok} (h:Fl0 r) (e:Int):X8 r e= .ok (d0,r,e,()):=by
 unfold X8 Z0;rw[jG h.1];dsimp only;rw[jG (by rw[h.2];decide)];rfl
theorem Ynp{i:Nat} (hi:i<4) {r:List Tok} (h:isW sPer r=ab) (e:Int):X8 (tkS (eN.words.getD i [])::r) e= .ok (incD d0 i,r,e,()):=by
 unfold X8 Z0;rw[Zf9 (k:= .un) hi,jQ (by omega)];dsimp only[cu];rw[jG (by rw[h];decide)];rfl
theorem Ydf{s w:List Nat} (I:V4 w=ac) (r:List Tok):isW s (tkS w::r)=(w==s):=by
 rw[Zma I];rfl
theorem Yhd(r:List Tok):¬0<=chz eN.words (tkS sPer::r):=by
 have:chz eN.words (tkS sPer::r)= -1:=rfl;omega
theorem Z4y(r:List Tok):isW sPer (tkS sPer::r)=true:=rfl
theorem Ynq{j:Nat} (I:j<4) (r:List Tok) (e:Int):X8 (tkS sPer::tkS (eN.words.getD j [])::r) e= .ok (decD d0 j,r,e,()):=by
 unfold X8 Z0;rw[jG (Yhd _)];dsimp only[cu];rw[jQ (Z4y _)];unfold Yw;rw[Zf9 (k:= .un) I,jQ (by omega)];rfl
theorem Ynr{i j:Nat} (hi:i<4) (I:j<4) (r:List Tok) (e:Int):X8 (tkS (eN.words.getD i [])::tkS sPer::tkS (eN.words.getD j [])::r) e= .ok (decD (incD d0 i) j,r,e,()):=by
 unfold X8 Z0;rw[Zf9 (k:= .un) hi,jQ (by omega)];dsimp only[cu];rw[jQ (Z4y _)];unfold Yw;rw[Zf9 (k:= .un) I,jQ (by omega)];rfl
theorem Yaj{a b c d:Int} (h:Zct [a,b,c,d]=ac):in1 a=ac/\in1 b=ac/\in1 c=ac/\in1 d=true:=by
 rw[Zqg] at h;rw[aq] at h
 simpa using h.1
theorem Zel{a:Int} (h:in1 a=ac):a= -1\/a=0\/a=1:=by
 unfold in1 at h;simp at h;omega
def UnF(u:List Int):Prop:=(u=d0/\txU u= [])\/(∃i,i<4/\u=incD d0 (i:Nat)/\txU u= [eN.words.getD i []])\/(∃j,j<4/\u=decD d0 (j:Nat)/\txU u= [sPer,eN.words.getD j []])\/(∃i,i<4/\∃j,j<4/\u=decD (incD d0 (i:Nat)) (j:Nat)/\txU u= [eN.words.getD i [],sPer,eN.words.getD j []])
instance (u:List Int):Decidable (UnF u):=by unfold UnF;infer_instance
theorem unF{a b c d:Int} (h:Zct [a,b,c,d]=ac):UnF [a,b,c,d]:=by
 obtain⟨I,J,R,hd⟩:=Yaj h;revert h;rcases Zel I with rfl|rfl|rfl<;>rcases Zel J with rfl|rfl|rfl<;>rcases Zel R with rfl|rfl|rfl<;>rcases Zel hd with rfl|rfl|rfl
 all_goals(clear I J R hd;decide)
theorem Z4z{a b c d:Int} (h:Zct [a,b,c,d]=ac) {r:List Tok} (U:Fl0 r) (e:Int):X8 (TS (txU [a,b,c,d])++r) e= .ok ([a,b,c,d],r,e,()):=by
 rcases unF h with⟨I,J⟩|⟨i,hi,I,J⟩|⟨j,R,I,J⟩|⟨i,hi,j,R,I,J⟩
 ·rw[J,I]
  exact Yno U e
 ·rw[J,I]
  exact Ynp hi U.2 e
 ·rw[J,I]
  exact Ynq R r e
 ·rw[J,I]
  exact Ynr hi R r e
def Fl1(r:List Tok):Prop:=Fl0 r/\isW sMul r=ab
def Fl2(r:List Tok):Prop:=Fl1 r/\isW Zdb r=ab/\isW Uu r=ab
theorem Ydg{r:List Tok} (h:isW sMul r=ab):op1 r=(0,r):=by unfold op1;rw[jG (by rw[h];decide)]
theorem Yk7{r:List Tok} (h:Fl2 r):op2 r=(0,r):=by unfold op2;rw[jG (by rw[h.2.1];decide),jG (by rw[h.2.2];decide)]
theorem Yk8{w:List Nat} {r:List Tok} (h:(tkS w).kind=3):∀ws:List (List Nat),chz ws (tkS w::r)= -1:=by
 intro ws;show(if(tkS w).kind=1 then _ else-1)=_;rw[jG (by rw[h];decide)]
theorem Zdk{w:List Nat} (r:List Tok) (h:(tkS w).kind=3) (I:isW sPer (tkS w::r)=ab):Fl0 (tkS w::r):=⟨by rw[Yk8 h];decide,I⟩
theorem Zem(r:List Tok):Fl2 (tkS Ye::r):=⟨⟨Zdk r rfl rfl,rfl⟩,rfl,rfl⟩
theorem Zi6(r:List Tok):Fl2 (tkS Yg::r):=⟨⟨Zdk r rfl rfl,rfl⟩,rfl,rfl⟩
theorem Yak(r:List Tok):Fl2 (tkS Zew::r):=⟨⟨Zdk r rfl rfl,rfl⟩,rfl,rfl⟩
theorem Yal(r:List Tok):Fl2 (tkS Zhi::r):=⟨⟨Zdk r rfl rfl,rfl⟩,rfl,rfl⟩
theorem Yhe(r:List Tok):Fl0 (tkS sMul::r):=Zdk r rfl rfl
theorem Yam(r:List Tok):Fl1 (tkS Zdb::r):=⟨Zdk r rfl rfl,rfl⟩
theorem Z40(r:List Tok):Fl1 (tkS Uu::r):=⟨Zdk r rfl rfl,rfl⟩
structure Rdb(x:Ex):Prop where
 fac:3<=tightF x.op->∀r e,Fl0 r->pf (TS (txX x)++r) e= .ok (x,r,e,())
 term:2<=tightF x.op->∀r e,Fl0 r->pt (TS (txX x)++r) e=pRx op1 pf x (op1 r).1 (op1 r).2 e
 expr:∀r e,Fl1 r->pX (TS (txX x)++r) e=pRx op2 pt x (op2 r).1 (op2 r).2 e
theorem Rdb.all{x:Ex} (h:Rdb x) {r:List Tok} (I:Fl2 r) (e:Int):pX (TS (txX x)++r) e= .ok (x,r,e,()):=by
 rw[h.expr r e I.1,Yk7 I,Yhc,jQ rfl]
theorem Z41{l:List Tok} {e:Int} {x:Ex} {r:List Tok} (h:pX l e= .ok (x,tkS Ye::r,e,())):pf (tkS X4::l) e= .ok (x,r,e,()):=by
 have:pf (tkS X4::l) e=(match pX l e with
  | .error I=> .error I
  | .ok (x,y)=>if isW Ye y.1 then .ok (x,y.1.tail,y.2.1,()) else .error (hdT y.2.1 y.1,160)):=rfl
 rw[this,h];rfl
theorem Zi7(w:List Nat) (ws:List (List Nat)):TS (w::ws)=tkS w::TS ws:=rfl
theorem Zqb(a b:List (List Nat)):TS (a++b)=TS a++TS b:=eY
theorem Rdb.par3{x:Ex} (h:Rdb x) {r:List Tok} (J:Fl0 r) (e:Int):pf (TS (par x.op 3 (txX x))++r) e= .ok (x,r,e,()):=by
 unfold par;split
 ·exact h.fac (by assumption) r e J
 ·have I:TS (X4::(txX x++ [Ye]))++r=tkS X4::(TS (txX x)++tkS Ye::r):=by simp
  rw[I];exact Z41 (h.all (Zem r) e)
theorem Zwd{l r:List Tok} {e:Int} {x:Ex} (h:pf l e= .ok (x,r,e,())):pt l e=pRx op1 pf x (op1 r).1 (op1 r).2 e:=by rw[Ynn,h]
theorem Rdb.par2{x:Ex} (h:Rdb x) {r:List Tok} (J:Fl0 r) (e:Int):pt (TS (par x.op 2 (txX x))++r) e=pRx op1 pf x (op1 r).1 (op1 r).2 e:=by
 unfold par;split
 ·exact h.term (by assumption) r e J
 ·have I:TS (X4::(txX x++ [Ye]))++r=tkS X4::(TS (txX x)++tkS Ye::r):=by simp
  rw[I];exact Zwd (Z41 (h.all (Zem r) e))
theorem Z42(op:Int):1<=tightF op:=by unfold tightF;split<;>(try split)<;>decide
theorem Rdb.par1{x:Ex} (h:Rdb x) {r:List Tok} (I:Fl1 r) (e:Int):pX (TS (par x.op 1 (txX x))++r) e=pRx op2 pt x (op2 r).1 (op2 r).2 e:=by
 unfold par;rw[jQ (Z42 _)];exact h.expr r e I
theorem Zi8{x:Ex} (R:3<=tightF x.op->∀r e,Fl0 r->pf (TS (txX x)++r) e= .ok (x,r,e,())) (J:∀r e,Fl0 r->pt (TS (txX x)++r) e=pRx op1 pf x (op1 r).1 (op1 r).2 e):Rdb x:=
 ⟨R,λ_=>J,λr e I=>by rw[Yk6,J r e I.1,Ydg I.2,Yhb,jQ rfl]⟩
theorem Zca{x:Ex} (h:∀r e,Fl0 r->pf (TS (txX x)++r) e= .ok (x,r,e,())):Rdb x:=
 Zi8 (λ_=>h) λr e I=>Zwd (h r e I)
theorem Zwe{e:Int}:∀{xs:List Ex} {I:List (List Nat)} {J:List Ex} {r:List Tok},xs.length=I.length->(∀x∈xs,Rdb x)->(∀s∈I,(∀r,Fl2 (tkS s::r))/\∀r,isW s (tkS s::r)=ac)->pOpL pX I J (TS (txS (txL xs) I)++r) e= .ok (J++xs,r,e,())
 | [],[],J,r,_,_,_=>by simp[pOpL,txL,txS]
 |x::xs,s::I,J,r,hl,U,R=>by
  have e1:TS (txS (txL (x::xs)) (s::I))++r=TS (txX x)++tkS s::(TS (txS (txL xs) I)++r):=by simp[txL,txS]
  rw[e1]
  unfold pOpL
  rw[(U x (by simp)).all ((R s (by simp)).1 _) e]
  dsimp only
  rw[jQ ((R s (by simp)).2 _),cu,Zwe (by simpa using hl) (λx h=>U x (by simp[h])) (λs h=>R s (by simp[h]))]
  rw[bd]
  rfl
theorem sg4:∀s∈ [Zew,Yg,Yg,Ye],(∀r,Fl2 (tkS s::r))/\∀r,isW s (tkS s::r)=true:=by
 intro s I;simp only[aM,jY,or_false] at I;rcases I with rfl|rfl|rfl|rfl
 ·exact⟨Yak,λ_=>rfl⟩
 ·exact⟨Zi6,λ_=>rfl⟩
 ·exact⟨Zi6,λ_=>rfl⟩
 ·exact⟨Zem,λ_=>rfl⟩
theorem sg2:∀s∈ [Yg,Ye],(∀r,Fl2 (tkS s::r))/\∀r,isW s (tkS s::r)=true:=by
 intro s I;simp only[aM,jY,or_false] at I;rcases I with rfl|rfl
 ·exact⟨Zi6,λ_=>rfl⟩
 ·exact⟨Zem,λ_=>rfl⟩
theorem Zwf{op:Int} {xs:List Ex} {I:List (List Nat)} {r:List Tok} {e:Int} (J:xs.length=I.length) (U:∀x∈xs,Rdb x) (R:∀s∈I,(∀r,Fl2 (tkS s::r))/\∀r,isW s (tkS s::r)=ac):
 pOps pX op I (tkS X4::(TS (txS (txL xs) I)++r)) e= .ok (.mk op 0 0 0 0 0 xs,r,e,()):=by
 unfold pOps
 rw[jQ (show isW X4 (tkS X4::(TS (txS (txL xs) I)++r))=ac from rfl),cu,Zwe J U R]
 rfl
theorem Ydh:∀k:WK,∀w∈k.words,(w==X4)=ab/\(w==sIf)=false:=by intro k;cases k<;>decide
theorem Yns:∀w∈dI.words,idxS w 0 gC.words= -1:=by decide
theorem Z43{k:WK} {i:Nat} (h:i<k.words.length) (r:List Tok) (e:Int):pf (tkS (k.words.getD i [])::r) e=(match Z0 gC.words (tkS (k.words.getD i [])::r) e with
 | .error I=> .error I
 | .ok (k,y)=>
  if k.2.1 then pOps pX (6+k.1) [Yg,Ye] y.1 y.2.1
  else match Yw dI.words y.1 y.2.1 with
   | .error I=> .error I
   | .ok (a,z)=> .ok (.mk 2 a 0 0 0 0 [],z)):=by
 have J:=Ydf (s:=X4) (Zmb h) r
 have R:=Ydf (s:=sIf) (Zmb h) r
 rw[(Ydh k _ (Zu6 h)).1] at J
 rw[(Ydh k _ (Zu6 h)).2] at R
 show(if(tkS (k.words.getD i [])).kind=2 then _ else Zbj pX (tkS (k.words.getD i [])::r) e)=_
 rw[jG (by rw[Yen h];show¬1=2;decide)]
 unfold Zbj
 rw[jG (by rw[J];decide),jG (by rw[R];decide)]
 rfl
theorem Zfx{op n:Int} {u:List Int} {k:Nat} (h:Ze2 op n u k=ac):1<=op/\op<=11/\0<=n/\n<=Zz1 op/\k=Zkq op/\Zct u=ac/\(op=1\/u= [0,0,0,0]):=by
 unfold Ze2 at h;simp only[aq,Bool.or_eq_true,fK] at h;obtain⟨⟨⟨⟨⟨⟨I,J⟩,R⟩,U⟩,h5⟩,h6⟩,h7⟩:=h;exact⟨I,J,R,U,h5,h6,h7⟩
theorem len2{α:Type} {l:List α} (h:l.length=2):∃a b,l= [a,b]:=by
 match l,h with
 | [a,b],_=>exact⟨a,b,rfl⟩
theorem rdb:∀(x:Ex),Zn x=ac->Rdb x:=by
 suffices H:∀(m:Nat) (x:Ex),x.sz<=m->Zn x=ac->Rdb x fromλx=>H _ x (av _)
 intro m
 induction m with
 |zero=>intro x h;have:=x.sz_pos;omega
 |succ m ih=>
  intro x hm hf;rw[Zch,aq] at hf;obtain⟨hh,J⟩:=hf;have a0:∀y∈x.l,Rdb y:=λy hy=>ih y (by have:=Ex.sz_mem hy;omega) (formL_iff.1 J y hy);obtain⟨op,n,a,b,c,d,l⟩:=x;simp only[aJ,cd,Ex.u,bC,bD,bE,bF,bx] at hh a0;obtain⟨h1,h2,h3,h4,h5,h6,h7⟩:=Zfx hh;clear hm J hh;have R:txX (.mk op n a b c d l)=txN op n [a,b,c,d] (l.map aJ) (txL l):=by rw[txX]
  by_cases U:op=1
  ·subst U
   have J:l= []:=cG (by rw[h5];rfl);subst J;refine Zca λr e I=> ?_;rw[R];unfold txN;rw[jQ rfl,Zi7,bW,Z1y h3 h4]
   show(match X8 (TS (txU [a,b,c,d])++r) e with
    | .error er=>_
    | .ok (d,y)=>_)=_
   rw[Z4z h6 I e];rfl
  have hu:a=0/\b=0/\c=0/\d=0:=by
   rcases h7 with h7|h7
   ·exact kc h7 U
   ·simpa using h7
  obtain⟨rfl,rfl,rfl,rfl⟩:=hu;by_cases q2:op=2
  ·subst q2
   have J:l= []:=cG (by rw[h5];rfl);subst J;have hn:n.toNat<dI.words.length:=by
    have:n<=15:=h4;show n.toNat<16;omega
   refine Zca λr e I=> ?_;rw[R];unfold txN;rw[jG U,jQ rfl];show pf (tkS (dI.words.getD n.toNat [])::r) e=_;rw[Z43 hn];have hc:¬0<=chz gC.words (tkS (dI.words.getD n.toNat [])::r):=by
    rw[Yen hn];show¬0<=(if 1=1 then idxS (dI.words.getD n.toNat []) 0 gC.words else-1);rw[jQ rfl,Yns _ (Zu6 hn)];decide
   unfold Z0;rw[jG hc];dsimp only;rw[jG (by decide)];unfold Yw;rw[Zf9 hn,jQ (by omega)];dsimp only[cu];rw[show((n.toNat:Nat):Int)=n by omega]
  have a3:n=0:=by
   unfold Zz1 at h4;rw[jG U,jG q2] at h4;omega
  subst a3;by_cases q3:op=11
  ·subst q3
   have J:l.length=4:=h5;refine Zca λr e I=> ?_;rw[R];unfold txN;rw[jG U,jG q2,jQ rfl];have e1:TS (sIf::X4::txS (txL l) [Zew,Yg,Yg,Ye])++r=tkS sIf::tkS X4::(TS (txS (txL l) [Zew,Yg,Yg,Ye])++r):=rfl;rw[e1];show pOps pX 11 [Zew,Yg,Yg,Ye] (tkS X4::(TS (txS (txL l) [Zew,Yg,Yg,Ye])++r)) e=_;exact Zwf (by rw[J];rfl) a0 sg4
  have a1:l.length=2:=by
   rw[h5];unfold Zkq;rw[jG (by omega),jG q3]
  by_cases q4:op=3\/op=4\/op=5
  ·obtain⟨x,y,rfl⟩:=len2 a1
   have hx:=a0 x (by simp);have hy:=a0 y (by simp);have R:txX (.mk op 0 0 0 0 0 [x,y])=par x.op (tightF op) (txX x)++sgnO op::par y.op (tightF op+1) (txX y):=by
    rw[R];unfold txN;rw[jG U,jG q2,jG q3,jQ q4];rfl
   by_cases q5:op=5
   ·subst q5
    refine Zi8 (λh=>kc h (by show¬3<=tightF 5;decide)) λr e I=> ?_;rw[R,Zqb,bd];show pt (TS (par x.op 2 (txX x))++tkS sMul::(TS (par y.op 3 (txX y))++r)) e=_;rw[hx.par2 (Yhe _) e];show pRx op1 pf x 5 (TS (par y.op 3 (txX y))++r) e=_;rw[Yhb,jG (by decide),hy.par3 I e]
   ·have q6:op=3\/op=4:=by omega
    have ht:tightF op=1:=by unfold tightF;rw[jQ q6]
    refine⟨λh=>kc h (by show¬3<=tightF op;rw[ht];decide),λh=>kc h (by show¬2<=tightF op;rw[ht];decide),λr e I=> ?_⟩;rw[R,Zqb,bd,ht];have a2:pt (TS (par y.op 2 (txX y))++r) e= .ok (y,r,e,()):=by rw[hy.par2 I.1 e,Ydg I.2,Yhb,jQ rfl]
    rcases q6 with rfl|rfl
    ·show pX (TS (par x.op 1 (txX x))++tkS Zdb::(TS (par y.op 2 (txX y))++r)) e=_
     rw[hx.par1 (Yam _) e];show pRx op2 pt x 3 (TS (par y.op 2 (txX y))++r) e=_;rw[Yhc,jG (by decide),a2]
    ·show pX (TS (par x.op 1 (txX x))++tkS Uu::(TS (par y.op 2 (txX y))++r)) e=_
     rw[hx.par1 (Z40 _) e];show pRx op2 pt x 4 (TS (par y.op 2 (txX y))++r) e=_;rw[Yhc,jG (by decide),a2]
  ·have hk:(op-6).toNat<gC.words.length:=by
    show(op-6).toNat<5;omega
   refine Zca λr e I=> ?_;rw[R];unfold txN;rw[jG U,jG q2,jG q3,jG q4];have e1:TS (gC.words.getD (op-6).toNat []::X4::txS (txL l) [Yg,Ye])++r=tkS (gC.words.getD (op-6).toNat [])::tkS X4::(TS (txS (txL l) [Yg,Ye])++r):=rfl;rw[e1,Z43 hk];unfold Z0;rw[Zf9 hk,jQ (by omega)];dsimp only[cu];rw[jQ rfl,Zwf (by rw[a1];rfl) a0 sg2];rw[show 6+(((op-6).toNat:Nat):Int)=op by omega]
end
section
open Go
abbrev Zg6(x:Ex) (J:List (List Nat)) (l:List (List Nat)) (fz:Nat) (m:Nat) (U:List (List Nat)):Prop:=
 (wr af (aJ x-(3:Int))==(↑(0:Nat):Int))=ab->((wr af (aJ x-(3:Int))==(↑((0:Nat)+(1:Nat)):Int))=ac->(aa J<=
 aa J/\fzO (ae (l,fz))<=aa J/\(aa J+(1:Nat))*(16:Nat)<=(140737488355328:Nat))/\(0:Int)<=(1:Int)/\(1:Int)+(1:Int)
 <=(↑(aa (bx x)):Int)/\∀(I:Ex),(bx x)[ag (1:Int)]? =ae I->True/\∀(y:Int),y=tightF (aJ x)->(aa J+(1:Nat)=
 aa (aw (aa J) J++ [[(45:Nat)]])/\fzO (ae (l,fz))<=aa (aw (aa J) J++ [[(45:Nat)]])/\cZ (bY (aJ
 I) (cd I) (bC I) (bD I) (bE I) (bF I) (bx I))+(1:Nat)<=m/\Zn (bY (aJ I) (cd I) (bC I) (bD I) (bE I) (bF I)
 (bx I))=ac/\(1:Nat)<=aa (aw (aa J) J++ [[(45:Nat)]])/\aa (aw (aa J) J++ [[(45:Nat)]])+(8:Nat)
 *cZ (bY (aJ I) (cd I) (bC I) (bD I) (bE I) (bF I) (bx I))+(10:Nat)<=(1000000000:Nat))/\∀(R:List (List Nat)),R=
 aw (aa J) J++ [[(45:Nat)]]++par (aJ (bY (aJ I) (cd I) (bC I) (bD I) (bE I) (bF I) (bx I))) (wr af (y+
 (1:Int))) (txX (bY (aJ I) (cd I) (bC I) (bD I) (bE I) (bF I) (bx I)))->R=U/\aa R=aa U/\fzO (ae (aw
 (aa J) J++ [[(45:Nat)]],fzO (ae (l,fz))))=fzO (ae (l,fz)))/\((wr af (aJ x-(3:Int))==(↑((0:Nat)+(1:Nat)):Int))=ab->((wr
 af (aJ x-(3:Int))==(↑((0:Nat)+(1:Nat)+(1:Nat)):Int))=ac->(aa J<=aa J/\fzO (ae (l,fz))<=aa J/\
 (aa J+(1:Nat))*(16:Nat)<=(140737488355328:Nat))/\(0:Int)<=(1:Int)/\(1:Int)+(1:Int)<=(↑(aa (bx x)):Int)/\∀(I:Ex),(bx
 x)[ag (1:Int)]? =ae I->True/\∀(y:Int),y=tightF (aJ x)->(aa J+(1:Nat)=aa (aw (aa J) J++ [[(42:Nat)]])
 /\fzO (ae (l,fz))<=aa (aw (aa J) J++ [[(42:Nat)]])/\cZ (bY (aJ I) (cd I) (bC I) (bD I) (bE I) (bF I)
 (bx I))+(1:Nat)<=m/\Zn (bY (aJ I) (cd I) (bC I) (bD I) (bE I) (bF I) (bx I))=ac/\(1:Nat)<=aa (aw
 (aa J) J++ [[(42:Nat)]])/\aa (aw (aa J) J++ [[(42:Nat)]])+(8:Nat)*cZ (bY (aJ I) (cd I) (bC I)
 (bD I) (bE I) (bF I) (bx I))+(10:Nat)<=(1000000000:Nat))/\∀(R:List (List Nat)),R=aw (aa J) J++ [[(42:Nat)]]++par
 (aJ (bY (aJ I) (cd I) (bC I) (bD I) (bE I) (bF I) (bx I))) (wr af (y+(1:Int))) (txX (bY (aJ I) (cd I) (bC I)
 (bD I) (bE I) (bF I) (bx I)))->R=U/\aa R=aa U/\fzO (ae (aw (aa J) J++ [[(42:Nat)]],fzO (ae (l,
 fz))))=fzO (ae (l,fz)))/\((wr af (aJ x-(3:Int))==(↑((0:Nat)+(1:Nat)+(1:Nat)):Int))=ab->True))
abbrev Zg7(x:Ex) (J:List (List Nat)) (l:List (List Nat)) (fz:Nat) (m:Nat) (U:List (List Nat)):Prop:=
 (wr af (aJ x-(3:Int))==(↑(0:Nat):Int))=ac->(aa J<=aa J/\fzO (ae (l,fz))<=aa J/\(aa J+(1:
 Nat))*(16:Nat)<=(140737488355328:Nat))/\(0:Int)<=(1:Int)/\(1:Int)+(1:Int)<=(↑(aa (bx x)):Int)/\∀(I:Ex),(bx x)[ag (1:Int)]? =
 ae I->True/\∀(y:Int),y=tightF (aJ x)->(aa J+(1:Nat)=aa (aw (aa J) J++ [[(43:Nat)]])/\fzO (ae (l,fz))<=
 aa (aw (aa J) J++ [[(43:Nat)]])/\cZ (bY (aJ I) (cd I) (bC I) (bD I) (bE I) (bF I) (bx I))+(1:Nat)<=
 m/\Zn (bY (aJ I) (cd I) (bC I) (bD I) (bE I) (bF I) (bx I))=ac/\(1:Nat)<=aa (aw (aa J) J++ [[(43:
 Nat)]])/\aa (aw (aa J) J++ [[(43:Nat)]])+(8:Nat)*cZ (bY (aJ I) (cd I) (bC I) (bD I) (bE I) (bF I)
 (bx I))+(10:Nat)<=(1000000000:Nat))/\∀(R:List (List Nat)),R=aw (aa J) J++ [[(43:Nat)]]++par (aJ (bY (aJ I) (cd
 I) (bC I) (bD I) (bE I) (bF I) (bx I))) (wr af (y+(1:Int))) (txX (bY (aJ I) (cd I) (bC I) (bD I) (bE I) (bF
 I) (bx I)))->R=U/\aa R=aa U/\fzO (ae (aw (aa J) J++ [[(43:Nat)]],fzO (ae (l,fz))))=fzO (ae (l,fz))
abbrev Xh(I:Ex):=
 (bY (aJ I) (cd I) (bC I) (bD I) (bE I) (bF I) (bx I))
abbrev Vp(I:Ex):=
 (bY (aJ I) (cd I) (bC I) (bD I) (bE I) (bF I) (bx I))
abbrev Vq(I:Ex):=
 (bY (aJ I) (cd I) (bC I) (bD I) (bE I) (bF I) (bx I))
abbrev Zg8(l:List (List Nat)) (fz:Nat) (I:Ex) (m:Nat):Prop:=
 aa l=aa l/\fz<=aa l/\cZ (Xh I)+(1:Nat)<=m/\Zn (Xh I)=ac/\(1:Nat)<=aa l/\aa l+(8:Nat)*
 cZ (Xh I)+(10:Nat)<=(1000000000:Nat)
abbrev Zez(I:Ex):=
 (bY (aJ I) (cd I) (bC I) (bD I) (bE I) (bF I) (bx I))
abbrev qCN3(I:List (List Nat)):=(aa I)
abbrev qCNe:=(40:Nat)
abbrev qCNa(I:List (List Nat)) (J:Nat):=(ae (aw (qCN3 I) I++ [[(105:Nat),(102:Nat)],[qCNe]],J))
abbrev qCN1(I:List (List Nat)) (J:List (List Nat)) (R:Nat):=(ae (aw (qCN3 I) I++ [[(60:Nat)]],fzO (qCNa J R)))
abbrev qCNf:=(44:Nat)
abbrev qCN2(I:List (List Nat)):=(aw (qCN3 I) I++ [[qCNf]])
abbrev qCN4:=(140737488355328:Nat)
abbrev qCN5(I:Ex):=(↑(aa (bx I)):Int)
abbrev qCN6(I:List (List Nat)):=(aw (qCN3 I) I++ [[(105:Nat),(102:Nat)],[qCNe]])
abbrev qCN7:=(0:Int)
abbrev qCN8:=(1:Nat)
abbrev qCN9:=(1:Int)
abbrev qCNb:=(1000000000:Nat)
abbrev qCNc(I:List (List Nat)):=(aw (qCN3 I) I++ [[(60:Nat)]])
abbrev qCNd(I:List (List Nat)):=(aa I+qCN8)
abbrev qCNg:=(8:Nat)
abbrev qCNh:=(16:Nat)
abbrev qCNi:=(3:Int)
abbrev qCNj(I:List (List Nat)) (J:List (List Nat)) (R:List (List Nat)) (d0:Nat):=(ae (aw (qCN3 I) I++ [[qCNf]],fzO (qCN1 J R d0)))
theorem Zzr(m:Nat) (l:List (List Nat)) (fz:Nat) (x:Ex) (l':List (List Nat)):Zk E Fpu (vc E (Fxp' m) 400) 71 [.ptr 0 0,exA x] (hpP E dp (ae (l,fz))) 2 (prnK E dp (ae (l,fz)) l')=(
 ((aJ x==qCN9)=ac->(qCN7<=cd x/\cd x+qCN9<=10000000000000)/\∀(y:List Nat),y=decN (cd x)->(aa l<=aa l/\fz<=aa l/\(qCNd l)*qCNh<=qCN4)/\(aa l+qCN8=aa (aw (qCN3 l) l++ [y])/\fz<=aa (aw (qCN3 l) l++ [y])/\qCN8<=aa (aw (qCN3 l) l++ [y])/\aa (aw (qCN3 l) l++ [y])+qCNg<=qCNb)/\∀(I:List (List Nat)),I=aw (qCN3 l) l++ [y]++txU [bC x,bD x,bE x,bF x]->I=l'/\aa I=aa l'/\fzO (ae (aw (qCN3 l) l++ [y],fz))=fzO (ae (l,fz)))/\((aJ x==qCN9)=ab->((aJ x==2)=ac->qCN7<=cd x/\cd x+qCN9<=(↑(aa (dJ dI)):Int)/\∀(J:List Nat),(dJ dI)[ag (cd x)]? =ae J->(aa l<=aa l/\fz<=aa l/\(qCNd l)*qCNh<=qCN4)/\aw (qCN3 l) l++ [J]=l'/\aa l+qCN8=aa l'/\fz=fzO (ae (l,fz)))/\((aJ x==2)=ab->((aJ x==11)=ac->(aa l<=aa l/\fz<=aa l/\(aa l+2)*qCNh<=qCN4)/\qCN7<=qCN7/\qCN7+qCN9<=(qCN5 x)/\∀(J:Ex),(bx x)[ag qCN7]? =ae J->(aa l+2=aa (qCN6 l)/\fz<=aa (qCN6 l)/\cZ (Xh J)+qCN8<=m/\Zn (Xh J)=ac/\qCN8<=aa (qCN6 l)/\aa (qCN6 l)+qCNg*cZ (Xh J)+qCNg<=qCNb)/\∀(I:List (List Nat)),I=aw (qCN3 l) l++ [[105,102],[qCNe]]++txX (Xh J)->(aa I<=aa I/\fzO (qCNa l fz)<=aa I/\(qCNd I)*qCNh<=qCN4)/\qCN7<=qCN9/\qCN9+qCN9<=(qCN5 x)/\∀(a0:Ex),(bx x)[ag qCN9]? =ae a0->(aa I+qCN8=aa (qCNc I)/\fzO (qCNa l fz)<=aa (qCNc I)/\cZ (Vp a0)+qCN8<=m/\Zn (Vp a0)=ac/\qCN8<=aa (qCNc I)/\aa (qCNc I)+qCNg*cZ (Vp a0)+qCNg<=qCNb)/\∀(R:List (List Nat)),R=aw (qCN3 I) I++ [[60]]++txX (Vp a0)->(aa R<=aa R/\fzO (qCN1 I l fz)<=aa R/\(qCNd R)*qCNh<=qCN4)/\qCN7<=2/\2+qCN9<=(qCN5 x)/\∀(a1:Ex),(bx x)[ag 2]? =ae a1->(aa R+qCN8=aa (qCN2 R)/\fzO (qCN1 I l fz)<=aa (qCN2 R)/\cZ (Vq a1)+qCN8<=m/\Zn (Vq a1)=ac/\qCN8<=aa (qCN2 R)/\aa (qCN2 R)+qCNg*cZ (Vq a1)+qCNg<=qCNb)/\∀(U:List (List Nat)),U=aw (qCN3 R) R++ [[qCNf]]++txX (Vq a1)->(aa U<=aa U/\fzO (qCNj R I l fz)<=aa U/\(qCNd U)*qCNh<=qCN4)/\qCN7<=qCNi/\qCNi+qCN9<=(qCN5 x)/\∀(a3:Ex),(bx x)[ag qCNi]? =ae a3->(aa U+qCN8=aa (qCN2 U)/\fzO (qCNj R I l fz)<=aa (qCN2 U)/\cZ (Zez a3)+qCN8<=m/\Zn (Zez a3)=ac/\qCN8<=aa (qCN2 U)/\aa (qCN2 U)+qCNg*cZ (Zez a3)+qCNg<=qCNb)/\∀(a2:List (List Nat)),a2=aw (qCN3 U) U++ [[qCNf]]++txX (Zez a3)->(aa a2<=aa a2/\fzO (ae (aw (qCN3 U) U++ [[qCNf]],fzO (qCNj R I l fz)))<=aa a2/\(qCNd a2)*qCNh<=qCN4)/\aw (qCN3 a2) a2++ [[41]]=l'/\aa a2+qCN8=aa l'/\fzO (ae (aw (qCN3 U) U++ [[qCNf]],fzO (qCNj R I l fz)))=fzO (ae (l,fz)))/\((aJ x==11)=ab->((aJ x==qCNi)=ac->qCN7<=qCN7/\qCN7+qCN9<=(qCN5 x)/\∀(J:Ex),(bx x)[ag qCN7]? =ae J->True/\∀(y:Int),y=tightF (aJ x)->(Zg8 l fz J m)/\∀(I
:List (List Nat)),I=l++par (aJ (Xh J)) y (txX (Xh J))->qCN7<=wr af (aJ x-qCNi)/\wr af (aJ x-qCNi)+qCN9<=(↑3:Int)/\(Zg7 x I l fz m l')/\(Zg6 x I l fz m l'))/\((aJ x==qCNi)=ab->((aJ x==4)=ac->qCN7<=qCN7/\qCN7+qCN9<=(qCN5 x)/\∀(J:Ex),(bx x)[ag qCN7]? =ae J->True/\∀(y:Int),y=tightF (aJ x)->(Zg8 l fz J m)/\∀(I:List (List Nat)),I=l++par (aJ (Xh J)) y (txX (Xh J))->qCN7<=wr af (aJ x-qCNi)/\wr af (aJ x-qCNi)+qCN9<=(↑3:Int)/\(Zg7 x I l fz m l')/\(Zg6 x I l fz m l'))/\((aJ x==4)=ab->((aJ x==5)=ac->qCN7<=qCN7/\qCN7+qCN9<=(qCN5 x)/\∀(J:Ex),(bx x)[ag qCN7]? =ae J->True/\∀(y:Int),y=tightF (aJ x)->(Zg8 l fz J m)/\∀(I:List (List Nat)),I=l++par (aJ (Xh J)) y (txX (Xh J))->qCN7<=wr af (aJ x-qCNi)/\wr af (aJ x-qCNi)+qCN9<=(↑3:Int)/\(Zg7 x I l fz m l')/\(Zg6 x I l fz m l'))/\((aJ x==5)=ab->qCN7<=wr af (aJ x-6)/\wr af (aJ x-6)+qCN9<=(↑(aa (dJ gC)):Int)/\∀(J:List Nat),(dJ gC)[ag (wr af (aJ x-6))]? =ae J->(aa l<=aa l/\fz<=aa l/\(aa l+2)*qCNh<=qCN4)/\qCN7<=qCN7/\qCN7+qCN9<=(qCN5 x)/\∀(a0:Ex),(bx x)[ag qCN7]? =ae a0->(aa l+2=aa (aw (qCN3 l) l++ [J,[qCNe]])/\fz<=aa (aw (qCN3 l) l++ [J,[qCNe]])/\cZ (Vp a0)+qCN8<=m/\Zn (Vp a0)=ac/\qCN8<=aa (aw (qCN3 l) l++ [J,[qCNe]])/\aa (aw (qCN3 l) l++ [J,[qCNe]])+qCNg*cZ (Vp a0)+qCNg<=qCNb)/\∀(I:List (List Nat)),I=aw (qCN3 l) l++ [J,[qCNe]]++txX (Vp a0)->(aa I<=aa I/\fzO (ae (aw (qCN3 l) l++ [J,[qCNe]],fz))<=aa I/\(qCNd I)*qCNh<=qCN4)/\qCN7<=qCN9/\qCN9+qCN9<=(qCN5 x)/\∀(a1:Ex),(bx x)[ag qCN9]? =ae a1->(aa I+qCN8=aa (qCN2 I)/\fzO (ae (aw (qCN3 l) l++ [J,[qCNe]],fz))<=aa (qCN2 I)/\cZ (Vq a1)+qCN8<=m/\Zn (Vq a1)=ac/\qCN8<=aa (qCN2 I)/\aa (qCN2 I)+qCNg*cZ (Vq a1)+qCNg<=qCNb)/\∀(R:List (List Nat)),R=aw (qCN3 I) I++ [[qCNf]]++txX (Vq a1)->(aa R<=aa R/\fzO (ae (aw (qCN3 I) I++ [[qCNf]],fzO (ae (aw (qCN3 l) l++ [J,[qCNe]],fz))))<=aa R/\(qCNd R)*qCNh<=qCN4)/\aw (qCN3 R) R++ [[41]]=l'/\aa R+qCN8=aa l'/\fzO (ae (aw (qCN3 I) I++ [[qCNf]],fzO (ae (aw (qCN3 l) l++ [J,[qCNe]],fz))))=fzO (ae (l,fz))))))))):=by kernel_rfl
theorem Yn2(op n a b c d:Int) (l:List Ex):aJ (.mk op n a b c d l)=op:=rfl
theorem n_mk(op n a b c d:Int) (l:List Ex):cd (.mk op n a b c d l)=n:=rfl
theorem Yn3(op n a b c d:Int) (l:List Ex):bC (.mk op n a b c d l)=a:=rfl
theorem Yn4(op n a b c d:Int) (l:List Ex):bD (.mk op n a b c d l)=b:=rfl
theorem Yn5(op n a b c d:Int) (l:List Ex):bE (.mk op n a b c d l)=c:=rfl
theorem Yn6(op n a b c d:Int) (l:List Ex):bF (.mk op n a b c d l)=d:=rfl
theorem l_mk(op n a b c d:Int) (l:List Ex):bx (.mk op n a b c d l)=l:=rfl
theorem u_mk(op n a b c d:Int) (l:List Ex):Ex.u (.mk op n a b c d l)= [a,b,c,d]:=rfl
theorem len4{α:Type} {l:List α} (h:l.length=4):∃a b c d,l= [a,b,c,d]:=by
 match l,h with
 | [a,b,c,d],_=>exact⟨a,b,c,d,rfl⟩
theorem Ztu(op least:Int) (t:List (List Nat)):(par op least t).length<=t.length+2:=by
 unfold par;split
 ·omega
 ·simp
theorem Zwo:∀m,PxOk m
 |0=>λx h=>by omega
 |m+1=>by
  intro x hx hf l fz a1 h1 hl
  have hm:=Zwo m
  refine X2 E_ok (Xr E_ok Zv6 λf N c=>(Zgp E_ok (Yha hm) 400 f N c).1) rfl ?_
  show Zk E Fpu (vc E (Fxp' m) 400) 71 [.ptr 0 0,exA x] (hpP E dp (ae (l,fz))) 2 (prnK E dp (ae (l,fz)) (l++txX x))
  rw[Zzr];delta qCN3 qCNe qCNa qCN1 qCNf qCN2 qCN4 qCN5 qCN6 qCN7 qCN8 qCN9 qCNb qCNc qCNd qCNg qCNh qCNi qCNj
  unfold Zez Zg8 Vq Vp Xh Zg7 Zg6
  simp only[fzO,aU,ia,kD,hJ,fR,ne_eq]
  rw[Zch,aq] at hf
  obtain⟨hh,a0⟩:=hf
  have R:∀y∈x.l,Zn y=true:=formL_iff.1 a0
  rw[Ex.sz_eq] at hx hl
  obtain⟨op,n,a,b,c,d,xs⟩:=x
  simp only[Yn2,n_mk,Yn3,Yn4,Yn5,Yn6,l_mk,u_mk] at*
  obtain⟨g1,g2,g3,g4,g5,g6,g7⟩:=Zfx hh
  have a2:txX (.mk op n a b c d xs)=txN op n [a,b,c,d] (xs.map aJ) (txL xs):=by rw[txX]
  rw[a2]
  clear hh a0 a2
  have w0:wr .i64 0=0:=by decide
  have w1:wr .i64 1=1:=by decide
  have w2:wr .i64 2=2:=by decide
  have w3:wr .i64 3=3:=by decide
  have t3:tightF 3=1:=rfl
  have t4:tightF 4=1:=rfl
  have t5:tightF 5=2:=rfl
  refine⟨λq1=> ?_,λq1=>⟨λq2=> ?_,λq2=>⟨λq3=> ?_,λq3=>⟨λq4=> ?_,λq4=>⟨λq5=> ?_,λq5=>⟨λq6=> ?_,λq6=> ?_⟩⟩⟩⟩⟩⟩
  ·subst q1
   have h4:n<=1099511627776:=g4
   refine⟨⟨g3,by omega⟩,⟨av _,a1,by omega⟩,⟨by simp,by simp;omega,by simp,by simp;omega⟩,?_⟩
   simp[txN]
  ·subst q2
   have h4:n<=15:=g4
   have L:dI.words.length=16:=rfl
   refine⟨g3,by rw[L];omega,λw hw=>⟨⟨av _,a1,by omega⟩,?_⟩⟩
   have:dI.words.getD n.toNat []=w:=by simp[ah,hw]
   unfold txN
   rw[jG (by decide),jQ rfl,this]
   simp
  ·subst q3
   obtain⟨I,J,x3,x4,rfl⟩:=len4 (show xs.length=4 from g5)
   have s:I.sz+(J.sz+(x3.sz+(x4.sz+0)))+1<m+1:=hx
   have s':l.length+8*(I.sz+(J.sz+(x3.sz+(x4.sz+0)))+1)+8<=1000000000:=hl
   have p1:=Xu I
   have p2:=Xu J
   have p3:=Xu x3
   have p4:=Xu x4
   have U:=R I (by simp)
   have f2:=R J (by simp)
   have f3:=R x3 (by simp)
   have f4:=R x4 (by simp)
   simp[U,f2,f3,f4,txN,txS,txL,sIf,X4,Zew,Yg,Ye]
   omega
  ·subst q4
   obtain⟨I,J,rfl⟩:=len2 (show xs.length=2 from g5)
   have s:I.sz+(J.sz+0)+1<m+1:=hx
   have s':l.length+8*(I.sz+(J.sz+0)+1)+8<=1000000000:=hl
   have p1:=Xu I
   have p2:=Xu J
   have U:=R I (by simp)
   have f2:=R J (by simp)
   have r1:=Ztu I.op 1 (txX I)
   simp[w0,w1,w2,w3,t3,U,f2,txN,txL,sgnO,Zdb]
   omega
  ·subst q5
   obtain⟨I,J,rfl⟩:=len2 (show xs.length=2 from g5)
   have s:I.sz+(J.sz+0)+1<m+1:=hx
   have s':l.length+8*(I.sz+(J.sz+0)+1)+8<=1000000000:=hl
   have p1:=Xu I
   have p2:=Xu J
   have U:=R I (by simp)
   have f2:=R J (by simp)
   have r1:=Ztu I.op 1 (txX I)
   simp[w0,w1,w2,w3,t4,U,f2,txN,txL,sgnO,Uu]
   omega
  ·subst q6
   obtain⟨I,J,rfl⟩:=len2 (show xs.length=2 from g5)
   have s:I.sz+(J.sz+0)+1<m+1:=hx
   have s':l.length+8*(I.sz+(J.sz+0)+1)+8<=1000000000:=hl
   have p1:=Xu I
   have p2:=Xu J
   have U:=R I (by simp)
   have f2:=R J (by simp)
   have r1:=Ztu I.op 2 (txX I)
   simp[w0,w1,w2,w3,t5,U,f2,txN,txL,sgnO,sMul]
   omega
  ·have L:gC.words.length=5:=rfl
   obtain⟨I,J,rfl⟩:=len2 (show xs.length=2 by rw[g5];unfold Zkq;rw[jG (by omega),jG (by omega)])
   have s:I.sz+(J.sz+0)+1<m+1:=hx
   have s':l.length+8*(I.sz+(J.sz+0)+1)+8<=1000000000:=hl
   have p1:=Xu I
   have p2:=Xu J
   have U:=R I (by simp)
   have f2:=R J (by simp)
   have wo:wr .i64 (op-6)=op-6:=wr64 (by omega) (by omega)
   simp only[wo]
   refine⟨by omega,by rw[L];omega,λw hw=> ?_⟩
   have e:gC.words.getD (op-6).toNat []=w:=by simp[ah,hw]
   have q7:¬(op=3\/op=4\/op=5):=by omega
   unfold txN
   rw[jG q1,jG q2,jG q3,jG q7,e]
   simp[U,f2,txS,txL,X4,Yg,Ye]
   omega
end
section
open Go
def CsOk:List (List Nat)->List Cls->Prop
 |_,[]=>True
 |seen,c::r=>Wv c=ac/\resF c.name=ab/\c.name∉seen/\c.when_.length<=8/\Z7 c.pay<=24/\CsOk (c.name::seen) r
def Yiw(m:List (List Nat×Bool)) (seen:List (List Nat)):Prop:=∀a,(Z5 m a).getD ab=decide (a∈seen)
theorem Z7c{m:List (List Nat×Bool)} {seen:List (List Nat)} (h:Yiw m seen) (a:List Nat):Yiw (putS m a ac) (a::seen):=by
 intro b;rw[Zix];by_cases e:a=b
 ·rw[jQ e]
  subst e;simp
 ·rw[jG e,h b]
  simp[Ne.symm e]
theorem Zw4:∀(cs:List Cls) (a b:Bool) (m:List (List Nat×Bool)) (seen:List (List Nat)),Yiw m seen->(goC a b m cs=0↔a=ab/\b=ab/\CsOk seen cs)
 | [],a,b,m,seen,hm=>by
  unfold goC CsOk
  cases a<;>cases b<;>decide
 |c::r,a,b,m,seen,hm=>by
  rw[Zd5]
  unfold CsOk
  by_cases I:Wv c=ac
  ·rw[jQ I,Zw4 r _ _ _ _ (Z7c hm c.name),hm c.name]
   simp only[bB,fC]
   constructor
   ·rintro⟨⟨⟨J,R⟩,U⟩,⟨⟨h4,h5⟩,h6⟩,h7⟩
    exact⟨J,h4,I,R,U,by omega,by omega,h7⟩
   ·rintro⟨J,h4,_,R,U,h5,h6,h7⟩
    exact⟨⟨⟨J,R⟩,U⟩,⟨⟨h4,by omega⟩,by omega⟩,h7⟩
  ·rw[jG I]
   constructor
   ·intro h
    cases h
   ·rintro⟨_,_,h,_⟩
    exact kc h I
theorem Zai(t:Tar):Z8 t=0↔V4 t.name=ac/\1<=t.for_/\t.for_<=6/\resF t.name=ab/\t.clauses.length<=64/\CsOk [] t.clauses:=by
 unfold Z8;split
 ·rename_i h
  rw[Zw4 _ _ _ _ [] (λa=>by simp[Z5])];rw[fC];constructor
  ·rintro⟨I,R,J⟩
   exact⟨h.1,h.2.1,h.2.2,I,by omega,J⟩
  ·rintro⟨_,_,_,I,R,J⟩
   exact⟨I,by omega,J⟩
 ·rename_i h
  constructor
  ·intro k
   cases k
  ·rintro⟨I,R,J,_⟩
   exact kc ⟨I,R,J⟩ h
theorem Zaj{c:Cls} (h:Wv c=ac):V4 c.name=ac/\Zn c.pay=ac/\∀w∈c.when_,Yl w=true:=by
 unfold Wv at h;rw[aq,aq] at h;exact⟨h.1.1,h.1.2,fH.1 h.2⟩
end
section
open Go
theorem Zjo(i:Nat) (w:Tst) (r:List Tst):txTs i (w::r)=(if i=0 then Zh3 else sAnd)::(txW w++txTs (i+1) r):=rfl
theorem Znk{n:Int} (I:0<=n) (J:n<=1099511627776) (r:List Tok) (e:Int):pInt (tkS (decN n)::r) e= .ok (n,r,e,()):=by
 rw[Z1y I J];rfl
theorem Zbk{w:Tst} (h:Yl w=ac):0<=w.attr/\w.attr<16/\0<=w.low/\w.low<=1099511627776/\0<=w.high/\w.high<=1099511627776:=jg h
theorem Ybm(w:Tst):(⟨w.attr,w.low,w.high⟩:Tst)=w:=rfl
theorem Zqt{w:Tst} (h:Yl w=ac) {n:Int} (hn:n≠8) (r:List Tok) (e:Int):V9 n (TS (txW w)++r) e= .ok (w,r,e,()):=by
 obtain⟨a0,a1,R,U,h0,h1⟩:=Zbk h;have hk:w.attr.toNat<dI.words.length:=by show w.attr.toNat<16;omega
 unfold txW;rw[Zi7,bW];unfold V9 Yw;rw[Zf9 hk,jQ (by omega)];dsimp only[cu];rw[jG hn,show((w.attr.toNat:Nat):Int)=w.attr by omega];by_cases J:w.low=w.high
 ·rw[jQ J]
  have I:TS [sIs,decN w.low]++r=tkS sIs::tkS (decN w.low)::r:=rfl;rw[I,jQ (show isW sIs (tkS sIs::tkS (decN w.low)::r)=ac from rfl),cu,Znk R U];dsimp only
  conv=>rhs;rw[<-Ybm w,<-J]
 ·rw[jG J]
  have I:TS [sIn,decN w.low,Zd6,decN w.high]++r=tkS sIn::tkS (decN w.low)::tkS Zd6::tkS (decN w.high)::r:=rfl
  rw[I,jG (show¬isW sIs (tkS sIn::tkS (decN w.low)::tkS Zd6::tkS (decN w.high)::r)=ac from bI),
   jQ (show isW sIn (tkS sIn::tkS (decN w.low)::tkS Zd6::tkS (decN w.high)::r)=ac from rfl),cu,Znk R U]
  dsimp only;rw[jQ (show isW Zd6 (tkS Zd6::tkS (decN w.high)::r)=ac from rfl),cu,Znk h0 h1]
theorem Znl(k:Nat) (ts:List Tst) (l:List Tok) (e:Int):pTs k ab ts l e= .ok (ts,l,e,()):=by
 cases k with
 |zero=>rfl
 |succ k=>unfold pTs;rw[jG bI]
theorem Zlk{e:Int} {r:List Tok} (hr:isW [97,110,100] r=ab):∀(ws:List Tst) (i k:Nat) (ts:List Tst),1<=i->(∀w∈ws,Yl w=ac)->ws.length<k->ts.length+ws.length<=8->
 pTs k (isW [97,110,100] (TS (txTs i ws)++r)) ts (if isW [97,110,100] (TS (txTs i ws)++r) then(TS (txTs i ws)++r).tail else TS (txTs i ws)++r) e= .ok (ts++ws,r,e,())
 | [],i,k,ts,hi,R,I,J=>by
  have U:TS (txTs i [])++r=r:=rfl
  rw[U,hr,jG bI,Znl,cK]
 |w::ws,i,0,ts,hi,R,I,J=>by simp at I
 |w::ws,i,k+1,ts,hi,R,I,J=>by
  have U:TS (txTs i (w::ws))++r=tkS sAnd::(TS (txW w)++(TS (txTs (i+1) ws)++r)):=by
   rw[Zjo,jG (by omega),Zi7,Zqb,bW,bd]
  have e2:isW [97,110,100] (tkS sAnd::(TS (txW w)++(TS (txTs (i+1) ws)++r)))=true:=rfl
  rw[U,e2,jQ rfl,cu]
  unfold pTs
  rw[jQ rfl,Zqt (R w (by simp)) (by simp at J;omega)]
  dsimp only
  rw[Zlk hr ws (i+1) k (ts++ [w]) (by omega) (λw h=>R w (by simp[h])) (by simpa using I) (by simp at J⊢;omega)]
  rw[bd]
  rfl
theorem Ztv{e:Int} {r:List Tok} (hr:isW [97,110,100] r=ab) (a0:isW [119,104,101,110] r=ab) (ws:List Tst) (R:∀w∈ws,Yl w=ac) (J:ws.length<=8):
 pTs 10 (isW [119,104,101,110] (TS (txTs 0 ws)++r)) [] (if isW [119,104,101,110] (TS (txTs 0 ws)++r) then(TS (txTs 0 ws)++r).tail else TS (txTs 0 ws)++r) e= .ok (ws,r,e,()):=by
 cases ws with
 |nil=>
  have I:TS (txTs 0 [])++r=r:=rfl
  rw[I,a0,jG bI,Znl]
 |cons w ws=>
  have I:TS (txTs 0 (w::ws))++r=tkS Zh3::(TS (txW w)++(TS (txTs 1 ws)++r)):=by
   rw[Zjo,jQ rfl,Zi7,Zqb,bW,bd]
  have U:isW [119,104,101,110] (tkS Zh3::(TS (txW w)++(TS (txTs 1 ws)++r)))=true:=rfl
  rw[I,U,jQ rfl,cu]
  unfold pTs
  rw[jQ rfl,Zqt (R w (by simp)) (by simp)]
  dsimp only
  rw[Zlk hr ws 1 9 _ (av _) (λw h=>R w (by simp[h])) (by simp at J;omega) (by simp at J⊢;omega)]
  rfl
theorem Zjp(c:Cls) (r:List Cls):txCs (c::r)=txC c++txCs r:=rfl
theorem Zqu{s:List Nat} (h:V4 s=ac) (I:resF s=ab) (r:List Tok) (e:Int):Zar (tkS s::r) e= .ok (s,r,e,()):=by
 rw[Zma h];show(if(1:Int)=1 then(if s∈resW then(.error (0,161):PR (List Nat)) else .ok (s,r,e,())) else .error (0,160))=_;rw[jQ rfl,jG (jj I)]
theorem Ztw{c:Cls} {bs:List Cls} (J:Wv c=ac) (R:resF c.name=ab) (U:bs.any (λb=>b.name==c.name)=ab) (h4:c.when_.length<=8) (h5:Z7 c.pay<=24) (r:List Tok) (e:Int):
 Yi bs (TS (c.name::(txTs 0 c.when_++sPay::(txX c.pay++ [Zhi])))++r) e= .ok (c,r,e,()):=by
 obtain⟨k1,k2,k3⟩:=Zaj J
 have I:TS (c.name::(txTs 0 c.when_++sPay::(txX c.pay++ [Zhi])))++r=tkS c.name::(TS (txTs 0 c.when_)++tkS sPay::(TS (txX c.pay)++tkS Zhi::r)):=by simp
 rw[I]
 unfold Yi
 rw[Zqu k1 R]
 dsimp only
 rw[jG (by rw[U];decide),Ztv (r:=tkS sPay::(TS (txX c.pay)++tkS Zhi::r)) rfl rfl _ k3 h4]
 unfold pAft pPay
 dsimp only
 rw[jQ (show isW [112,97,121] (tkS sPay::(TS (txX c.pay)++tkS Zhi::r))=ac from rfl),cu,(rdb c.pay k2).all (Yal r) e]
 dsimp only
 rw[jG (by omega),jQ (show isW [59] (tkS Zhi::r)=ac from rfl)]
 rfl
theorem any_name{bs:List Cls} {a:List Nat}:bs.any (λb=>b.name==a)=ab↔a∉bs.map aP:=by
 rw[List.any_eq_false];simp only[List.mem_map,not_exists,not_and];constructor
 ·intro h b I e
  exact h b I (by rw[e];exact iO a)
 ·intro h b I e
  exact h b I (eq_of_beq e)
theorem CsOk.congr:∀{cs:List Cls} {s I:List (List Nat)},(∀a,a∈s↔a∈I)->CsOk s cs->CsOk I cs
 | [],_,_,_,_=>jU
 |c::r,s,I,h,⟨J,R,U,h4,h5,h6⟩=>⟨J,R,λk=>U ((h _).2 k),h4,h5,CsOk.congr (λa=>by simp[h a]) h6⟩
theorem Zgf{e:Int} {r:List Tok} (U:isW [99,108,97,117,115,101] r=ab):∀(cs bs:List Cls) (k:Nat),CsOk (bs.map aP) cs->cs.length<k->bs.length+cs.length<=64->
 pCls k bs (TS (txCs cs)++r) e= .ok (bs++cs,r,e,())
 | [],bs,0,_,I,_=>by simp at I
 | [],bs,k+1,_,_,_=>by
  have J:TS (txCs [])++r=r:=rfl
  unfold pCls
  rw[J,U,jG bI,cK]
 |c::cs,bs,0,_,I,_=>by simp at I
 |c::cs,bs,k+1,h,I,R=>by
  obtain⟨h1,h2,h3,h4,h5,h6⟩:=h
  have J:TS (txCs (c::cs))++r=tkS Wx::(TS (c.name::(txTs 0 c.when_++sPay::(txX c.pay++ [Zhi])))++(TS (txCs cs)++r)):=by
   rw[Zjp]
   unfold txC
   rw[Zqb,Zi7,bd,bW]
  rw[J]
  unfold pCls
  rw[jQ (show isW [99,108,97,117,115,101] (tkS Wx::_)=ac from rfl),jG (by simp at R;omega),cu,Ztw h1 h2 (any_name.2 h3) h4 h5]
  dsimp only
  rw[Zgf U cs (bs++ [c]) k (CsOk.congr (λa=>by simp[or_comm]) h6) (by simpa using I) (by simp at R⊢;omega)]
  rw[bd]
  rfl
theorem Ybn{t:Tar} (h:Z8 t=0) (e:Int):pTar (TS (Zax t)) e= .ok (t,[],e,()):=by
 obtain⟨J,h2,h3,R,U,h6⟩:=(Zai t).1 h;have I:TS (Zax t)=tkS Zhj::tkS t.name::tkS sFor::tkS (gk.words.getD (t.for_-1).toNat [])::tkS sLb::(TS (txCs t.clauses)++ [tkS sRb]):=by
  unfold Zax;simp
 have hk:(t.for_-1).toNat<gk.words.length:=by show(t.for_-1).toNat<6;omega
 rw[I];unfold pTar;rw[jQ (show isW [116,97,114,105,102,102] (tkS Zhj::_)=ac from rfl),cu,Zqu J R];dsimp only;rw[jQ (show isW [102,111,114] (tkS sFor::_)=ac from rfl),cu];unfold Yw;rw[Zf9 hk,jQ (by omega)];dsimp only;rw[cu,jQ (show isW [123] (tkS sLb::_)=ac from rfl),cu];have a0:∀cs:List Cls,cs.length<=(txCs cs).length:=by
  intro cs
  induction cs with
  |nil=>exact av _
  |cons c r ih=>
   rw[Zjp];unfold txC;simp;omega
 rw[Zgf (r:= [tkS sRb]) rfl t.clauses [] _ h6 (by have:=a0 t.clauses;simp;omega) (by simpa using U)];unfold pEnd;dsimp only;rw[jQ (show isW [125] [tkS sRb]=ac from rfl),jG (by simp)];have:wr .i64 (1+(((t.for_-1).toNat:Nat):Int))=t.for_:=by
  rw[wr64 (by omega) (by omega)];omega
 rw[this];rfl
end
section
open Go
abbrev PP(β:Type):=List Tok->Int->PR β
section
variable {α β:Type}
def Okp(rel:β->β->Prop) (p:PP β) (l:List Tok) (y:β) (k:Nat):Prop:=
 k<=l.length/\∀(I:List Tok) (m:Nat) (f:Int),I.map sT=(l.map sT).take m->
  (k<=m->p I f= .ok (y,I.drop k,f,()))/\(m<k->p I f= .error (f,160)\/∃J,rel J y/\p I f= .ok (J,[],f,()))
def ErrS(p:PP β) (l:List Tok) (e:Int) (J:Int×Int):Prop:=∃(j:Nat) (c:Int),J=(hdT e (l.drop j),c)/\(c=2\/c=160\/c=161)/\∀(I:List Tok) (f:Int),I.map sT=l.map sT->p I f= .error (hdT f (I.drop j),c)
def Gd(rel:β->β->Prop) (p:PP β):Prop:=∀l e,(∀y x,p l e= .ok (y,x)->∃k,x=(l.drop k,e,())/\Okp rel p l y k)/\∀I,p l e= .error I->ErrS p l e I
theorem ErrS.hd{p:PP β} {l:List Tok} {e:Int} {c:Int} (J:c=2\/c=160\/c=161) (h:∀(I:List Tok) (f:Int),I.map sT=l.map sT->p I f= .error (hdT f I,c)):ErrS p l e (hdT e l,c):=⟨0,c,rfl,J,h⟩
theorem Zes{l I:List Tok} (h:I.map sT=l.map sT):I.map sT=(l.map sT).take l.length:=by rw[h,bg (by simp)]
theorem Gd.mono{rel rel':β->β->Prop} {p:PP β} (h:Gd rel p) (hr:∀a b,rel a b->rel' a b):Gd rel' p:=by
 intro l e;refine⟨λy x hy=> ?_,(h l e).2⟩;obtain⟨k,U,h2,I⟩:=(h l e).1 y x hy;refine⟨k,U,h2,λR m f J=>⟨(I R m f J).1,λhm=>((I R m f J).2 hm).imp id ?_⟩⟩;rintro⟨y',h4,h5⟩;exact⟨y',hr _ _ h4,h5⟩
def pR(y:β):PP β:=λl e=> .ok (y,l,e,())
def pSyn:PP β:=λl e=> .error (hdT e l,160)
theorem Zad{I:List Tok} {m:Nat} (h:I.map sT=(([]:List Tok).map sT).take m):I= []:=by
 rw[dK,List.take_nil] at h;exact jv.1 h
theorem gd_R(rel:β->β->Prop) (y:β):Gd rel (pR y):=by
 intro l e;refine⟨λz x h=> ?_,λI h=>by cases h⟩;unfold pR at h;cases h;refine⟨0,rfl,aX _,λJ m f _=>⟨λ_=>rfl,λh=>by omega⟩⟩
theorem Zan(rel:β->β->Prop):Gd rel (pSyn:PP β):=by
 intro l e;refine⟨λz x h=>(by cases h),λI h=> ?_⟩;unfold pSyn at h;cases h;exact .hd (by simp) λJ f _=>rfl
def pBc(p:PP α) (c:α->Bool) (code:Int) (q:α->PP β):PP β:=λl e=>
 match p l e with
 | .error I=> .error I
 | .ok (y,x)=>if c y then .error (hdT e l,code) else q y x.1 x.2.1
def pB(p:PP α) (q:α->PP β):PP β:=λl e=>
 match p l e with
 | .error I=> .error I
 | .ok (y,x)=>q y x.1 x.2.1
theorem Z5b{I:List Tok} {l:List Tok} {m k:Nat} (h:I.map sT=(l.map sT).take m):(I.drop k).map sT=((l.drop k).map sT).take (m-k):=by
 rw[gZ,h,gZ,List.drop_take]
theorem Yao{rel:α->α->Prop} {rel':β->β->Prop} {p:PP α} {c:α->Bool} {code:Int} {q:α->PP β} (hp:Gd rel p) (hq:∀y,Gd rel' (q y)) (a2:code=2\/code=160\/code=161) (hc:∀y R,rel R y->c y=ab->c R=ab)
 (h0:∀y R l e z x,rel R y->q y l e= .ok (z,x)->∀f,q R [] f= .error (f,160)\/∃z',rel' z' z/\q R [] f= .ok (z',[],f,())):Gd rel' (pBc p c code q):=by
 intro l e
 have E:∀l e,pBc p c code q l e=match p l e with| .error er=> .error er| .ok (y,x)=>if c y then .error (hdT e l,code) else q y x.1 x.2.1:=λ_ _=>rfl
 rw[E]
 cases h:p l e with
 |error er=>
  refine⟨λz x h=>(by cases h),λa1 h'=> ?_⟩
  cases h'
  obtain⟨j,c0,h1,U,h3⟩:=(hp l e).2 er h
  exact⟨j,c0,h1,U,λJ f I=>by rw[E,h3 J f I]⟩
 |ok y=>
  obtain⟨y,x⟩:=y
  obtain⟨k1,rfl,h1,U⟩:=(hp l e).1 y x h
  dsimp only
  cases a0:c y with
  |true=>
   refine⟨λz x h=>(by cases h),λa1 h'=> ?_⟩
   cases h'
   refine .hd a2 λJ f I=> ?_
   rw[E,(U J l.length f (Zes I)).1 h1]
   dsimp only
   rw[a0,jQ rfl]
  |false=>
   rw[jG bI]
   refine⟨λz x2 hz=> ?_,λa1 h'=> ?_⟩
   rotate_left
   ·obtain⟨j,c0,h3,h4,h5⟩:=(hq y _ _).2 a1 h'
    refine⟨k1+j,c0,by rw[h3,eO],h4,λJ f I=> ?_⟩
    rw[E,(U J l.length f (Zes I)).1 h1]
    dsimp only
    rw[a0,jG bI,h5 (J.drop k1) f (by rw[gZ,I,gZ]),eO]
   obtain⟨k2,rfl,h3,h4⟩:=(hq y _ _).1 z x2 hz
   rw[cR] at h3
   refine⟨k1+k2,by rw[eO],by omega,λJ m f I=> ?_⟩
   have hd:=Z5b (k:=k1) I
   rw[E]
   refine⟨λhm=> ?_,λhm=> ?_⟩
   ·rw[(U J m f I).1 (by omega)]
    dsimp only
    rw[a0,jG bI,(h4 _ _ f hd).1 (by omega),eO]
   ·by_cases hk:k1<=m
    ·rw[(U J m f I).1 hk]
     dsimp only
     rw[a0,jG bI]
     exact(h4 _ _ f hd).2 (by omega)
    ·rcases(U J m f I).2 (by omega) with h5|⟨R,h5,h6⟩
     ·rw[h5]
      exact .inl rfl
     ·rw[h6]
      dsimp only
      rw[hc y R h5 a0,jG bI]
      exact h0 y R _ _ z _ h5 hz f
theorem Ynt(p:PP α) (q:α->PP β):pB p q=pBc p (λ_=>ab) 2 q:=by
 funext l e;unfold pB pBc;cases p l e with
 |error I=>rfl
 |ok y=>rfl
theorem gd_b{rel:α->α->Prop} {rel':β->β->Prop} {p:PP α} {q:α->PP β} (U:Gd rel p) (hq:∀y,Gd rel' (q y))
 (R:∀y I l e z x,rel I y->q y l e= .ok (z,x)->∀f,q I [] f= .error (f,160)\/∃J,rel' J z/\q I [] f= .ok (J,[],f,())):Gd rel' (pB p q):=by
 rw[Ynt]
 exact Yao U hq (by simp) (λ_ _ _ _=>rfl) R
def pIf(s:List Nat) (A B:PP β):PP β:=λl e=>if isW s l then A l.tail e else B l e
theorem V5{t I:Tok} (h:sT I=sT t):I.kind=t.kind/\I.text=t.text/\I.n=t.n:=by
 unfold sT atT at h;injection h with J R U h4
 exact⟨J,R,U⟩
theorem Zqd{s:List Nat} {t I:Tok} {r r':List Tok} (h:sT I=sT t):isW s (I::r')=isW s (t::r):=by
 obtain⟨J,R,_⟩:=V5 h;show(!(I.kind==2)&&I.text==s)=(!(t.kind==2)&&t.text==s);rw[J,R]
theorem Xx{I l:List Tok} {m:Nat} (h:I.map sT=(l.map sT).take m):(I= []/\(m=0\/l= []))\/∃J r' t r m',I=J::r'/\l=t::r/\m=m'+1/\sT J=sT t/\r'.map sT=(r.map sT).take m':=by
 cases m with
 |zero=>
  rw[List.take_zero] at h;exact .inl ⟨jv.1 h,.inl rfl⟩
 |succ m=>
  cases l with
  |nil=>exact .inl ⟨Zad h,.inr rfl⟩
  |cons t r=>
   cases I with
   |nil=>simp at h
   |cons J r'=>
    rw[bS,bS,jt] at h;injection h with R U
    exact .inr ⟨J,r',t,r,m,rfl,rfl,rfl,R,U⟩
theorem Zap{rel:β->β->Prop} {s:List Nat} {A B:PP β} (hA:Gd rel A) (hB:Gd rel B) (h0:∀l e y x,A l e= .ok (y,x)->∀f,B [] f= .error (f,160)\/∃y',rel y' y/\B [] f= .ok (y',[],f,())):Gd rel (pIf s A B):=by
 intro l e;have E:∀l e,pIf s A B l e=if isW s l then A l.tail e else B l e:=λ_ _=>rfl;rw[E];cases hw:isW s l with
 |true=>
  rw[jQ rfl];cases l with
  |nil=>cases hw
  |cons t r=>
   refine⟨λy x hy=> ?_,λer h=> ?_⟩
   rotate_left
   ·obtain⟨j,c0,J,U,h5⟩:=(hA r e).2 er h
    refine⟨j+1,c0,J,U,λR f I=> ?_⟩;rcases Xx (Zes I) with⟨rfl,h6⟩|⟨t',r',t2,r2,m',rfl,h6,h7,h8,h9⟩
    ·simp at I
    ·cases h6
     rw[E,Zqd (r':=r') (r:=r) h8,hw,jQ rfl];refine h5 r' f ?_
     simpa using(eF I).2
   obtain⟨k,rfl,h1,h2⟩:=(hA r e).1 y x hy;refine⟨k+1,rfl,by simpa using h1,λR m f I=> ?_⟩;rw[E];rcases Xx I with⟨rfl,J⟩|⟨t',r',t2,r2,m',rfl,J,rfl,U,h5⟩
   ·have hm:m=0:=by
     rcases J with J|J
     ·exact J
     ·cases J
    subst hm;refine⟨λh=>by omega,λ_=> ?_⟩;rw[show isW s []=ab from rfl,jG bI];exact h0 _ _ _ _ hy f
   ·cases J
    rw[Zqd (r':=r') (r:=r) U,hw,jQ rfl];exact⟨λhm=>(h2 r' m' f h5).1 (by omega),λhm=>(h2 r' m' f h5).2 (by omega)⟩
 |false=>
  rw[jG bI];have nW:∀(R:List Tok) (m:Nat),R.map sT=(l.map sT).take m->isW s R=false:=by
   intro R m I;rcases Xx I with⟨rfl,_⟩|⟨t',r',t,r,m',rfl,rfl,rfl,U,h5⟩
   ·rfl
   ·rw[Zqd (r:=r) U]
    exact hw
  refine⟨λy x hy=> ?_,λer h=> ?_⟩
  rotate_left
  ·obtain⟨j,c0,J,U,h5⟩:=(hB l e).2 er h
   refine⟨j,c0,J,U,λR f I=> ?_⟩;rw[E,nW R l.length (Zes I),jG bI];exact h5 R f I
  obtain⟨k,rfl,h1,h2⟩:=(hB l e).1 y x hy;refine⟨k,rfl,h1,λR m f I=> ?_⟩;rw[E];have:=nW R m I;rw[this,jG bI];exact h2 R m f I
def pOne(c:Tok->Bool) (v:Tok->β):PP β:=λl e=>
 match l with
 | []=> .error (e,160)
 |t::r=>if c (sT t) then .ok (v (sT t),r,e,()) else .error (t.at_,160)
theorem Ydi(rel:β->β->Prop) (c:Tok->Bool) (v:Tok->β):Gd rel (pOne c v):=by
 intro l e;cases l with
 |nil=>
  refine⟨λy x R=>(by cases R),λer h=> ?_⟩;cases h;refine .hd (by simp) λU f J=> ?_;have:U= []:=Zad (m:=0) (by simpa using J);subst this;rfl
 |cons t r=>
  have E:∀t r e,pOne c v (t::r) e=if c (sT t) then .ok (v (sT t),r,e,()) else .error (t.at_,160):=λ_ _ _=>rfl;rw[E];cases hc:c (sT t) with
  |false=>
   rw[jG bI];refine⟨λy x R=>(by cases R),λer h=> ?_⟩;cases h;refine .hd (l:=t::r) (by simp) λU f J=> ?_;cases U with
   |nil=>simp at J
   |cons t' r'=>
    have h1:sT t'=sT t:=(eF J).1;rw[E,h1,hc,jG bI];rfl
  |true=>
   rw[jQ rfl];refine⟨λy x R=> ?_,λer h=>(by cases h)⟩;cases R;refine⟨1,rfl,by simp,λU m f J=> ?_⟩;rcases Xx J with⟨rfl,I⟩|⟨t',r',t2,r2,m',rfl,I,rfl,h4,h5⟩
   ·have hm:m=0:=by
     rcases I with I|I
     ·exact I
     ·cases I
    subst hm;exact⟨λh=>by omega,λ_=> .inl rfl⟩
   ·cases I
    rw[E,h4,hc,jQ rfl];exact⟨λ_=>rfl,λh=>by omega⟩
def pOpt(c:Tok->Bool) (v:Tok->β) (z:β):PP β:=λl e=>
 match l with
 | []=> .ok (z,[],e,())
 |t::r=>if c (sT t) then .ok (v (sT t),r,e,()) else .ok (z,t::r,e,())
theorem Z5c(c:Tok->Bool) (v:Tok->β) (z:β):Gd (λa _=>a=z) (pOpt c v z):=by
 intro l e;cases l with
 |nil=>
  refine⟨λy x R=> ?_,λer h=>(by cases h)⟩;cases R;refine⟨0,rfl,aX _,λl' m f J=>⟨λ_=> ?_,λh=>by omega⟩⟩;have:l'= []:=Zad J;subst this;rfl
 |cons t r=>
  have E:∀t r e,pOpt c v z (t::r) e=if c (sT t) then .ok (v (sT t),r,e,()) else .ok (z,t::r,e,()):=λ_ _ _=>rfl;rw[E];cases hc:c (sT t) with
  |false=>
   rw[jG bI];refine⟨λy x R=> ?_,λer h=>(by cases h)⟩;cases R;refine⟨0,rfl,aX _,λl' m f J=>⟨λ_=> ?_,λh=>by omega⟩⟩;rcases Xx J with⟨rfl,_⟩|⟨t',r',t2,r2,m',rfl,I,rfl,U,h5⟩
   ·rfl
   ·cases I
    rw[E,U,hc,jG bI];rfl
  |true=>
   rw[jQ rfl];refine⟨λy x R=> ?_,λer h=>(by cases h)⟩;cases R;refine⟨1,rfl,by simp,λl' m f J=> ?_⟩;rcases Xx J with⟨rfl,I⟩|⟨t',r',t2,r2,m',rfl,I,rfl,U,h5⟩
   ·have hm:m=0:=by
     rcases I with I|I
     ·exact I
     ·cases I
    subst hm;exact⟨λh=>by omega,λ_=> .inr ⟨z,rfl,rfl⟩⟩
   ·cases I
    rw[E,U,hc,jQ rfl];exact⟨λ_=>rfl,λh=>by omega⟩
end
abbrev NoR{β:Type}:β->β->Prop:=λ_ _=>False
abbrev AnyR{β:Type}:β->β->Prop:=λ_ _=>True
abbrev NeR:Ex->Ex->Prop:=λa b=>Z7 a<=Z7 b
theorem Yap:pInt=pOne (λt=>t.kind=2) (λt=>t.n):=by
 funext l e;cases l with
 |nil=>rfl
 |cons t r=>
  show(if t.kind=2 then _ else _)=(if decide (t.kind=2)=ac then _ else _);by_cases h:t.kind=2
  ·rw[jQ h,jQ (jC h)]
   rfl
  ·rw[jG h,jG (by simpa using h)]
theorem Z5d(ws:List (List Nat)):Yw ws=pOne (λt=>decide (0<=chz ws [t])) (λt=>chz ws [t]):=by
 funext l e;cases l with
 |nil=>rfl
 |cons t r=>
  have I:chz ws (t::r)=chz ws [sT t]:=rfl;unfold Yw pOne;dsimp only;rw[I];by_cases h:0<=chz ws [sT t]
  ·rw[jQ h,jQ (jC h)]
   rfl
  ·rw[jG h,jG (by simpa using h)]
   rfl
theorem Zth(ws:List (List Nat)):Z0 ws=pOpt (λt=>decide (0<=chz ws [t])) (λt=>(chz ws [t],ac,())) (0,ab,()):=by
 funext l e;cases l with
 |nil=>rfl
 |cons t r=>
  have I:chz ws (t::r)=chz ws [sT t]:=rfl;unfold Z0 pOpt;dsimp only;rw[I];by_cases h:0<=chz ws [sT t]
  ·rw[jQ h,jQ (jC h)]
   rfl
  ·rw[jG h,jG (by simpa using h)]
theorem Z5e:Gd NoR pInt:=by rw[Yap];exact Ydi _ _ _
theorem Zm9(ws:List (List Nat)):Gd NoR (Yw ws):=by rw[Z5d];exact Ydi _ _ _
theorem Zqe(ws:List (List Nat)):Gd (λa _=>a=(0,ab,())) (Z0 ws):=by rw[Zth];exact Z5c _ _ _
theorem Zcc(t:Tok) (r:List Tok) (e:Int):Zar (t::r) e=if t.kind=1 then(if t.text∈resW then .error (t.at_,161) else .ok (t.text,r,e,())) else .error (t.at_,160):=rfl
theorem Z5f:Gd NoR Zar:=by
 intro l e;cases l with
 |nil=>
  refine⟨λy x hy=>(by cases hy),λer h=> ?_⟩;cases h;refine .hd (l:= []) (by simp) λI f J=> ?_;have:I= []:=Zad (m:=0) (by simpa using J);subst this;rfl
 |cons t r=>
  have a0:∀(I:List Tok),I.map sT=(t::r).map sT->∃R r',I=R::r'/\R.kind=t.kind/\R.text=t.text:=by
   intro I J;cases I with
   |nil=>simp at J
   |cons R r'=>
    obtain⟨U,g2,_⟩:=V5 (eF J).1;exact⟨R,r',rfl,U,g2⟩
  rw[Zcc];split
  ·rename_i hk
   split
   ·rename_i hr
    refine⟨λy x hy=>(by cases hy),λer h=> ?_⟩;cases h;refine .hd (l:=t::r) (by simp) λI f J=> ?_;obtain⟨R,r',rfl,U,g2⟩:=a0 I J;rw[Zcc,U,g2,jQ hk,jQ hr];rfl
   ·rename_i hr
    refine⟨λy x hy=> ?_,λer h=>(by cases h)⟩;cases hy;refine⟨1,rfl,by simp,λI m f J=> ?_⟩;rcases Xx J with⟨rfl,h3⟩|⟨R,r',t2,r2,m',rfl,h3,rfl,h4,h5⟩
    ·have hm:m=0:=by
      rcases h3 with h3|h3
      ·exact h3
      ·cases h3
     subst hm;exact⟨λh=>by omega,λ_=> .inl rfl⟩
    ·cases h3
     obtain⟨U,g2,_⟩:=V5 h4;refine⟨λ_=> ?_,λh=>by omega⟩;rw[Zcc,U,g2,jQ hk,jG hr];rfl
  ·rename_i hk
   refine⟨λy x hy=>(by cases hy),λer h=> ?_⟩;cases h;refine .hd (l:=t::r) (by simp) λI f J=> ?_;obtain⟨R,r',rfl,U,g2⟩:=a0 I J;rw[Zcc,U,jG hk];rfl
theorem Yhg:X8=pB (Z0 eN.words) λy=>pIf sPer (pB (Yw eN.words) λj=>pR (decD (if y.2.1 then incD [0,0,0,0] y.1 else[0,0,0,0]) j)) (pR (if y.2.1 then incD [0,0,0,0] y.1 else[0,0,0,0])):=by
 funext l e;unfold X8 pB pIf;cases Z0 eN.words l e with
 |error I=>rfl
 |ok y=>
  dsimp only;split
  ·cases Yw eN.words y.2.1.tail y.2.2.1 with
   |error I=>rfl
   |ok z=>rfl
  ·rfl
theorem Yhh:Gd AnyR X8:=by
 rw[Yhg];refine gd_b (Zqe _) (λy=>Zap (gd_b (Zm9 _) (λj=>gd_R _ _) (λ_ _ _ _ _ _ h=>h.elim)) (gd_R _ _) λl e y x _ f=> .inr ⟨_,jU,rfl⟩) ?_;intro y I l e z x _ _ f;exact .inr ⟨_,jU,rfl⟩
theorem Yhi(n:Int):V9 n=pBc (Yw dI.words) (λ_=>decide (n=8)) 2 λa=>pIf sIs (pB pInt λm=>pR ⟨a,m,m⟩) (pIf sIn (pB pInt λm=>pIf Zd6 (pB pInt λk=>pR ⟨a,m,k⟩) pSyn) pSyn):=by
 funext l e;unfold V9 pBc pIf pB;cases Yw dI.words l e with
 |error J=>rfl
 |ok y=>
  dsimp only;by_cases I:n=8
  ·rw[jQ I,jQ (jC I)]
  ·rw[jG I,jG (show¬decide (n=8)=ac by simpa using I)]
   split
   ·cases pInt y.2.1.tail y.2.2.1 with
    |error J=>rfl
    |ok z=>rfl
   ·split
    ·cases pInt y.2.1.tail y.2.2.1 with
     |error J=>rfl
     |ok z=>
      dsimp only;split
      ·cases pInt z.2.1.tail z.2.2.1 with
       |error J=>rfl
       |ok u=>rfl
      ·rfl
    ·rfl
theorem Yhj(n:Int):Gd NoR (V9 n):=by
 rw[Yhi];refine Yao (Zm9 _) (λa=> ?_) (by simp) (λ_ _ h=>h.elim) (λ_ _ _ _ _ _ h=>h.elim);refine Zap (gd_b Z5e (λm=>gd_R _ _) (λ_ _ _ _ _ _ h=>h.elim)) (Zap (gd_b Z5e (λm=> ?_) (λ_ _ _ _ _ _ h=>h.elim)) (Zan _) λ_ _ _ _ _ f=> .inl rfl) λ_ _ _ _ _ f=> .inl rfl;exact Zap (gd_b Z5e (λk=>gd_R _ _) (λ_ _ _ _ _ _ h=>h.elim)) (Zan _) λ_ _ _ _ _ f=> .inl rfl
theorem Ynu(k:Nat) (ts:List Tst):pTs (k+1) ac ts=pB (V9 ts.length) λt=>pIf [97,110,100] (pTs k ac (ts++ [t])) (pTs k ab (ts++ [t])):=by
 funext l e;unfold pB pIf;rw[pTs,jQ rfl];cases V9 ts.length l e with
 |error I=>rfl
 |ok y=>
  dsimp only;cases isW [97,110,100] y.2.1<;>rfl
theorem Yhk(k:Nat) (ts:List Tst):pTs k ab ts=pR ts:=by
 funext l e;exact Znl k ts l e
theorem Yhl:∀(k:Nat) (more:Bool) (ts:List Tst),Gd AnyR (pTs k more ts)
 |0,more,ts=>gd_R _ ts
 |k+1,ab,ts=>by rw[Yhk];exact gd_R _ _
 |k+1,ac,ts=>by
  rw[Ynu]
  refine gd_b (Yhj _) (λt=>Zap (Yhl k ac _) (Yhl k ab _) λ_ _ _ _ _ f=> .inr ⟨ts++ [t],jU,by rw[Yhk];rfl⟩) (λ_ _ _ _ _ _ h=>h.elim)
theorem Yla(I:PE) (s:List Nat) (r:List (List Nat)) (J:List Ex):pOpL I (s::r) J=pB I λx=>pIf s (pOpL I r (J++ [x])) pSyn:=by
 funext l e;rw[pOpL];unfold pB pIf pSyn;cases I l e with
 |error R=>rfl
 |ok y=>rfl
theorem Ydj{J:PE} (h:Gd NeR J):∀(R:List (List Nat)) (I:List Ex),Gd NoR (pOpL J R I)
 | [],I=>gd_R _ I
 |s::r,I=>by
  rw[Yla]
  exact gd_b h (λx=>Zap (Ydj h r _) (Zan _) λ_ _ _ _ _ f=> .inl rfl) λ_ _ _ _ _ _ _ _ f=> .inl rfl
theorem Ylb(I:PE) (op:Int) (J:List (List Nat)):pOps I op J=pIf X4 (pB (pOpL I J []) λxs=>pR (.mk op 0 0 0 0 0 xs)) pSyn:=by
 funext l e;unfold pOps pIf pB pSyn;split
 ·cases pOpL I J [] l.tail e with
  |error R=>rfl
  |ok y=>rfl
 ·rfl
theorem Ydk{I:PE} (h:Gd NeR I) (op:Int) (J:List (List Nat)):Gd NoR (pOps I op J):=by
 rw[Ylb];exact Zap (gd_b (Ydj h J []) (λxs=>gd_R _ _) (λ_ _ _ _ _ _ h=>h.elim)) (Zan _) λ_ _ _ _ _ f=> .inl rfl
theorem Yhm(I:PE):Zbj I=pIf X4 (pB I λx=>pIf Ye (pR x) pSyn) (pIf sIf (pOps I 11 [Zew,Yg,Yg,Ye]) (pB (Z0 gC.words) λk=>if k.2.1 then pOps I (6+k.1) [Yg,Ye] else pB (Yw dI.words) λa=>pR (.mk 2 a 0 0 0 0 []))):=by
 funext l e;unfold Zbj pIf pB pSyn;split
 ·cases I l.tail e with
  |error J=>rfl
  |ok y=>rfl
 ·split
  ·rfl
  ·cases Z0 gC.words l e with
   |error J=>rfl
   |ok y=>
    dsimp only;cases y.1.2.1 with
    |true=>rfl
    |false=>
     rw[jG bI,jG bI];cases Yw dI.words y.2.1 y.2.2.1 with
     |error J=>rfl
     |ok z=>rfl
theorem Yhn{I:PE} (h:Gd NeR I):Gd NoR (Zbj I):=by
 rw[Yhm];refine Zap (gd_b h (λx=>Zap (gd_R _ _) (Zan _) λ_ _ _ _ _ f=> .inl rfl) λ_ _ _ _ _ _ _ _ f=> .inl rfl) (Zap (Ydk h _ _) (gd_b (Zqe _) (λk=> ?_) ?_) λ_ _ _ _ _ f=> .inl rfl) λ_ _ _ _ _ f=> .inl rfl
 ·split
  ·exact Ydk h _ _
  ·exact gd_b (Zm9 _) (λa=>gd_R _ _) (λ_ _ _ _ _ _ h=>h.elim)
 ·rintro y J l e z x rfl _ f
  exact .inl rfl
theorem Ylc{pe:PE} (h:Gd NeR pe):Gd NeR (pFac pe):=by
 have h2:=(Yhn h).mono (rel':=NeR) λ_ _ h=>h.elim;intro l e;cases l with
 |nil=>
  obtain⟨g1,g2⟩:=h2 [] e;refine⟨λy x hy=> ?_,λer h=> ?_⟩
  rotate_left
  ·obtain⟨j,c0,J,U,h5⟩:=g2 er h
   refine⟨j,c0,J,U,λR f I=> ?_⟩;have e1:R= []:=Zad (m:=0) (by simpa using I);subst e1;exact h5 [] f rfl
  obtain⟨k,hx,hk,ho⟩:=g1 y x hy;refine⟨k,hx,hk,λR m f I=> ?_⟩;have e1:R= []:=Zad I;have:=ho R m f I;subst e1;exact this
 |cons t r=>
  have key:∀(t:Tok) (r:List Tok) (e:Int),pFac pe (t::r) e=if t.kind=2 then pB X8 (λd=>pR (.mk 1 t.n (d.getD 0 0) (d.getD 1 0) (d.getD 2 0) (d.getD 3 0) [])) r e else Zbj pe (t::r) e:=by
   intro t r e;show(if t.kind=2 then _ else _)=_;split
   ·unfold pB
    cases X8 r e with
    |error er=>rfl
    |ok y=>rfl
   ·rfl
  rw[key];by_cases hk:t.kind=2
  ·rw[jQ hk]
   have hg:Gd NeR (pB X8 λd=>pR (.mk 1 t.n (d.getD 0 0) (d.getD 1 0) (d.getD 2 0) (d.getD 3 0) [])):=by
    refine gd_b Yhh (λd=>gd_R _ _) ?_;intro y y' l e z x _ hz f;unfold pR at hz;cases hz;exact .inr ⟨.mk 1 t.n (y'.getD 0 0) (y'.getD 1 0) (y'.getD 2 0) (y'.getD 3 0) [],by show Z7 _<=Z7 _;simp[Z7],rfl⟩
   refine⟨λy x hy=> ?_,λer h=> ?_⟩
   rotate_left
   ·obtain⟨j,c0,J,U,h5⟩:=(hg r e).2 er h
    refine⟨j+1,c0,J,U,λR f I=> ?_⟩;cases R with
    |nil=>simp at I
    |cons t' r'=>
     obtain⟨g1,_,g3⟩:=V5 (eF I).1;rw[key,g1,g3,jQ hk];exact h5 r' f (eF I).2
   obtain⟨k,rfl,h1,h2⟩:=(hg r e).1 y x hy;refine⟨k+1,rfl,by simpa using h1,λR m f I=> ?_⟩;rcases Xx I with⟨rfl,J⟩|⟨t',r',t2,r2,m',rfl,J,rfl,U,h5⟩
   ·have hm:m=0:=by
     rcases J with J|J
     ·exact J
     ·cases J
    subst hm;exact⟨λh=>by omega,λ_=> .inl rfl⟩
   ·cases J
    obtain⟨g1,_,g3⟩:=V5 U;rw[key,g1,g3,jQ hk];exact⟨λhm=>(h2 r' m' f h5).1 (by omega),λhm=>(h2 r' m' f h5).2 (by omega)⟩
  ·rw[jG hk]
   obtain⟨g1,g2⟩:=h2 (t::r) e;refine⟨λy x hy=> ?_,λer h=> ?_⟩
   rotate_left
   ·obtain⟨j,c0,J,U,h5⟩:=g2 er h
    refine⟨j,c0,J,U,λR f I=> ?_⟩;cases R with
    |nil=>simp at I
    |cons t' r'=>
     obtain⟨q1,_,_⟩:=V5 (eF I).1;rw[key,q1,jG hk];exact h5 _ f I
   obtain⟨k,hx,a0,ho⟩:=g1 y x hy;refine⟨k,hx,a0,λR m f I=> ?_⟩;have:=ho R m f I;rcases Xx I with⟨rfl,J⟩|⟨t',r',t2,r2,m',rfl,J,rfl,U,h5⟩
   ·exact this
   ·cases J
    obtain⟨q1,_,_⟩:=V5 U;rw[key,q1,jG hk];exact this
theorem Yaq:pOp op1=pOpt (λt=>isW sMul [t]) (λ_=>5) 0:=by
 funext l e;cases l with
 |nil=>rfl
 |cons t r=>
  unfold pOp pOpt op1;dsimp only;rw[show isW sMul (t::r)=isW sMul [sT t] from rfl];split<;>rfl
theorem Yar:pOp op2=pOpt (λt=>isW Zdb [t]||isW Uu [t]) (λt=>if isW Zdb [t] then 3 else 4) 0:=by
 funext l e;cases l with
 |nil=>rfl
 |cons t r=>
  unfold pOp pOpt op2;dsimp only;rw[show isW Zdb (t::r)=isW Zdb [sT t] from rfl,show isW Uu (t::r)=isW Uu [sT t] from rfl];by_cases I:isW Zdb [sT t]=ac
  ·simp[I]
  ·by_cases J:isW Uu [sT t]=ac
   ·simp[I,J]
   ·simp[I,J]
theorem Yld:Gd (λa _=>a=0) (pOp op1):=by rw[Yaq];exact Z5c _ _ _
theorem Yle:Gd (λa _=>a=0) (pOp op2):=by rw[Yar];exact Z5c _ _ _
theorem Ylf(op:Int) (x y:Ex):Z7 (.mk op 0 0 0 0 0 [x,y])=max (Z7 x) (Z7 y)+1:=by simp[Z7,Zgr]
theorem Z5g(o:List Tok->Int×List Tok) (pf:PE) (k:Nat) (x:Ex) (op:Int):Xp o pf (k+1) x op=if op=0 then pR x else pB pf λy=>pB (pOp o) λop'=>Xp o pf k (.mk op 0 0 0 0 0 [x,y]) op':=by
 funext l e;rw[Xp];split
 ·rfl
 ·unfold pB pOp
  cases pf l e with
  |error I=>rfl
  |ok y=>rfl
theorem Zna(o:List Tok->Int×List Tok) (pf:PE) (k:Nat) (x:Ex):Xp o pf k x 0=pR x:=by
 cases k with
 |zero=>rfl
 |succ k=>rw[Z5g,jQ rfl]
theorem Zbh{o:List Tok->Int×List Tok} {pf:PE}:∀{k:Nat} {x:Ex} {op:Int} {l:List Tok} {e:Int} {z:Ex} {y:PX},Xp o pf k x op l e= .ok (z,y)->Z7 x<=Z7 z
 |0,x,op,l,e,z,y,h=>by
  unfold Xp at h
  cases h
  exact av _
 |k+1,x,op,l,e,z,y,h=>by
  unfold Xp at h
  split at h
  ·cases h
   exact av _
  ·split at h
   ·cases h
   ·have:=Zbh h
    rw[Ylf] at this
    omega
theorem b_ok{α β:Type} {p:PP α} {q:α->PP β} {l:List Tok} {e:Int} {z:β×PX} (h:pB p q l e= .ok z):∃y x,p l e= .ok (y,x)/\q y x.1 x.2.1= .ok z:=by
 unfold pB at h;split at h
 ·cases h
 ·exact⟨_,_,by assumption,h⟩
theorem Z5h{o:List Tok->Int×List Tok} (J:Gd (λa _=>a=0) (pOp o)) (R:o []=(0,[])) {pf:PE} (h:Gd NeR pf):∀(k:Nat) (x:Ex) (op:Int),Gd NeR (Xp o pf k x op)
 |0,x,op=>gd_R _ x
 |k+1,x,op=>by
  rw[Z5g]
  split
  ·exact gd_R _ _
  ·refine gd_b h (λy=>gd_b J (λa0=>Z5h J R h k _ a0) ?_) ?_
   ·rintro op1 op2 l e z x2 rfl I f
    rw[Zna]
    exact .inr ⟨_,Zbh I,rfl⟩
   ·intro y y' l e z x2 U I f
    obtain⟨a0,x3,_,I⟩:=b_ok I
    have h1:=Zbh I
    refine .inr ⟨.mk op 0 0 0 0 0 [x,y'],?_,?_⟩
    ·have U:Z7 y'<=Z7 y:=U
     show Z7 _<=Z7 z
     rw[Ylf] at h1⊢
     omega
    ·unfold pB pOp
     rw[R]
     dsimp only
     rw[Zna]
     rfl
def pChN(o:List Tok->Int×List Tok) (pf:PE) (N:Nat):PE:=pB pf λy=>pB (pOp o) λop=>Xp o pf N y op
theorem Ylg{o:List Tok->Int×List Tok} (J:Gd (λa _=>a=0) (pOp o)) (R:o []=(0,[])) {pf:PE} (h:Gd NeR pf) (N:Nat):Gd NeR (pChN o pf N):=by
 unfold pChN;refine gd_b h (λy=>gd_b J (λop=>Z5h J R h N y op) ?_) ?_
 ·rintro op1 op2 l e z x2 rfl I f
  rw[Zna];exact .inr ⟨_,Zbh I,rfl⟩
 ·intro y y' l e z x2 hy I f
  obtain⟨a0,x3,_,I⟩:=b_ok I;have U:=Zbh I;refine .inr ⟨y',bT hy U,?_⟩;unfold pB pOp;rw[R];dsimp only;rw[Zna];rfl
theorem Ynv{o:List Tok->Int×List Tok} (I:∀l,(o l).2.length<=l.length) {pf:PE} (J:Shr pf) {N:Nat} {l:List Tok} (hl:l.length<N) (e:Int):pCh o pf l e=pChN o pf N l e:=by
 unfold pCh pChN pB pOp;cases R:pf l e with
 |error U=>rfl
 |ok y=>
  have h1:=J _ _ _ _ R;have h2:=I y.2.1;exact Zfw I J _ _ _ _ _ _ (by omega) (by omega)
theorem Yho{β:Type} {rel:β->β->Prop} {p:PP β} (q:Nat->PP β) (U:∀N,Gd rel (q N)) (h:∀N l e,l.length<N->p l e=q N l e):Gd rel p:=by
 intro l e;have h1:=h (l.length+1) l e (dx _);rw[h1];refine⟨λy x hy=> ?_,λer h'=> ?_⟩
 rotate_left
 ·obtain⟨j,c0,h3,h4,h5⟩:=(U _ l e).2 er h'
  refine⟨j,c0,h3,h4,λI f J=> ?_⟩;have R:=km aa J;rw[dc,dc] at R;rw[h (l.length+1) I f (by omega)];exact h5 I f J
 obtain⟨k,hx,hk,ho⟩:=(U _ l e).1 y x hy;refine⟨k,hx,hk,λI m f J=> ?_⟩;have R:I.length<=l.length:=by
  have:=km aa J;rw[dc,bj,dc] at this;omega
 rw[h (l.length+1) I f (by omega)];exact ho I m f J
theorem Ylh{o:List Tok->Int×List Tok} (J:∀l,(o l).2.length<=l.length) (R:Gd (λa _=>a=0) (pOp o)) (U:o []=(0,[])) {pf:PE} (hp:Shr pf) (h:Gd NeR pf):Gd NeR (pCh o pf):=
 Yho (pChN o pf) (Ylg R U h) λN l e I=>Ynv J hp I e
theorem gd_E:∀n,Gd NeR (pE n)
 |0=>Zan _
 |n+1=>by
  unfold pE
  exact Ylh Zv9 Yle rfl (Zdc Zfp (Ui (Zam n))).shr (Ylh Zv8 Yld rfl (Zm6 (Zam n)) (Ylc (gd_E n)))
theorem gd_X:Gd NeR pX:=Yho pE gd_E λN l e I=>(Yde N l e I).symm
theorem Yli(nm:List Nat) (ts:List Tst):pPay nm ts=pIf [112,97,121] (pBc pX (λx=>decide (24<Z7 x)) 2 λx=>pIf [59] (pR ⟨nm,ts,x⟩) pSyn) pSyn:=by
 funext l e;unfold pPay pIf pBc pSyn;split
 ·cases pX l.tail e with
  |error I=>rfl
  |ok y=>
   dsimp only;by_cases h:24<Z7 y.1
   ·rw[jQ h,jQ (jC h)]
   ·rw[jG h,jG (show¬decide (24<Z7 y.1)=ac by simpa using h)]
    rfl
 ·rfl
theorem Ydl(nm:List Nat) (ts:List Tst):Gd NoR (pPay nm ts):=by
 rw[Yli];refine Zap (Yao gd_X (λx=>Zap (gd_R _ _) (Zan _) λ_ _ _ _ _ f=> .inl rfl) (by simp) ?_ λ_ _ _ _ _ _ _ _ f=> .inl rfl) (Zan _) λ_ _ _ _ _ f=> .inl rfl;intro y J h I;have h:Z7 J<=Z7 y:=h;rw[fC] at I⊢;omega
theorem Z5i(bs:List Cls):Yi bs=pBc Zar (λnm=>bs.any λb=>b.name==nm) 161 λnm=>pIf [119,104,101,110] (pB (pTs 10 ac []) λts=>pPay nm ts) (pPay nm []):=by
 funext l e;unfold Yi pBc pIf pB;cases Zar l e with
 |error R=>rfl
 |ok y=>
  dsimp only;by_cases J:(bs.any λb=>b.name==y.1)=ac
  ·rw[jQ J,jQ J]
  ·rw[jG J,jG J]
   by_cases I:isW [119,104,101,110] y.2.1=ac
   ·rw[jQ I,jQ I,I]
    unfold pAft;cases pTs 10 ac [] y.2.1.tail y.2.2.1 with
    |error R=>rfl
    |ok z=>rfl
   ·rw[jG I,jG I]
    rw[Bool.not_eq_true] at I;rw[I,Yhk];rfl
theorem Z5j(nm:List Nat) (ts:List Tst) (f:Int):pPay nm ts [] f= .error (f,160):=rfl
theorem Z5k(bs:List Cls):Gd NoR (Yi bs):=by
 rw[Z5i];refine Yao Z5f (λnm=>Zap (gd_b (Yhl _ _ _) (λts=>Ydl _ _) λ_ _ _ _ _ _ _ _ f=> .inl (Z5j _ _ _)) (Ydl _ _) λ_ _ _ _ _ f=> .inl (Z5j _ _ _)) (by simp) (λ_ _ h=>h.elim) (λ_ _ _ _ _ _ h=>h.elim)
theorem Ylj(k:Nat) (cs:List Cls) (h:cs.length≠64):pCls (k+1) cs=pIf [99,108,97,117,115,101] (pB (Yi cs) λc=>pCls k (cs++ [c])) (pR cs):=by
 funext l e;rw[pCls];unfold pIf pB;split
 ·cases Yi cs l.tail e with
  |error I=>rfl
  |ok y=>rfl
 ·rfl
theorem Ydm:∀(k:Nat) (cs:List Cls),Gd AnyR (pCls k cs)
 |0,cs=>gd_R _ cs
 |k+1,cs=>by
  by_cases h:cs.length=64
  ·intro l e
   rw[pCls,jQ h]
   cases R:isW [99,108,97,117,115,101] l with
   |true=>
    rw[jQ rfl]
    refine⟨λy x h=>(by cases h),λU h'=> ?_⟩
    cases h'
    refine .hd (by simp) λJ f I=> ?_
    have:isW [99,108,97,117,115,101] J=true:=by
     cases J with
     |nil=>
      cases l with
      |nil=>cases R
      |cons t r=>simp at I
     |cons t' r'=>
      cases l with
      |nil=>simp at I
      |cons t r=>
       rw[Zqd (r:=r) (eF I).1]
       exact R
    rw[pCls,jQ h,this,jQ rfl]
   |false=>
    rw[jG bI]
    refine⟨λy x hy=> ?_,λU h=>(by cases h)⟩
    cases hy
    refine⟨0,rfl,aX _,λJ m f I=>⟨λ_=> ?_,λh=>by omega⟩⟩
    have:isW [99,108,97,117,115,101] J=false:=by
     rcases Xx I with⟨rfl,_⟩|⟨t',r',t,r,m',rfl,rfl,rfl,h4,h5⟩
     ·rfl
     ·rw[Zqd (r:=r) h4]
      exact R
    rw[pCls,this,jG bI]
    rfl
  ·rw[Ylj k cs h]
   refine Zap (gd_b (Z5k cs) (λc=>Ydm k _) (λ_ _ _ _ _ _ h=>h.elim)) (gd_R _ _) λ_ _ _ _ _ f=> .inr ⟨cs,jU,rfl⟩
theorem Zqf:∀(k I:Nat) (cs:List Cls) (l:List Tok) (e:Int),l.length<k->l.length<I->pCls k cs l e=pCls I cs l e
 |0,_,_,_,_,h,_=>by omega
 |_+1,0,_,_,_,_,h=>by omega
 |k+1,I+1,cs,l,e,h,h'=>by
  unfold pCls
  split
  ·rename_i R
   split
   ·rfl
   ·have h1:=Zv R
    cases J:Yi cs l.tail e with
    |error U=>rfl
    |ok y=>
     have h2:=U9 J
     exact Zqf k I _ _ _ (by omega) (by omega)
  ·rfl
def pEof(t:Tar):PP Tar:=λl e=>if 0<l.length then .error (hdT e l,160) else .ok (t,l,e,())
theorem Ylk(t:Tar):Gd NoR (pEof t):=by
 intro l e;unfold pEof;split
 ·rename_i h0
  refine⟨λy x h=>(by cases h),λR h=> ?_⟩;cases h;refine .hd (by simp) λJ f I=> ?_;have U:=km aa I;rw[dc,dc] at U;show(if 0<J.length then _ else _)=_;rw[jQ (by omega)]
 ·rename_i I
  have:l= []:=cG (by omega);subst this;refine⟨λy x hy=> ?_,λR h=>(by cases h)⟩;cases hy;refine⟨0,rfl,aX _,λJ m f I=>⟨λ_=> ?_,λh=>by omega⟩⟩;have:J= []:=Zad I;subst this;rfl
def Z5l(N:Nat):PP Tar:=pIf [116,97,114,105,102,102] (pB Zar λnm=>pIf [102,111,114] (pB (Yw gk.words) λk=>pIf [123] (pB (pCls N []) λcs=>pIf [125] (pEof ⟨nm,wr .i64 (1+k),cs⟩) pSyn) pSyn) pSyn) pSyn
theorem Yhp(N:Nat):Gd NoR (Z5l N):=by
 unfold Z5l;refine Zap (gd_b Z5f (λnm=>Zap (gd_b (Zm9 _) (λk=>Zap (gd_b (Ydm _ _) (λcs=>Zap (Ylk _) (Zan _) λ_ _ _ _ _ f=> .inl rfl) ?_) (Zan _) λ_ _ _ _ _ f=> .inl rfl) (λ_ _ _ _ _ _ h=>h.elim)) (Zan _) λ_ _ _ _ _ f=> .inl rfl) (λ_ _ _ _ _ _ h=>h.elim)) (Zan _) λ_ _ _ _ _ f=> .inl rfl;exactλ_ _ _ _ _ _ _ _ f=> .inl rfl
theorem Ydn(N:Nat) (l:List Tok) (e:Int) (h:l.length<N):pTar l e=Z5l N l e:=by
 unfold pTar Z5l pIf pB pSyn;split
 ·rename_i U
  have h1:=Zv U;cases R:Zar l.tail e with
  |error I=>rfl
  |ok y=>
   have h2:=Ux R;dsimp only;split
   ·rename_i a0
    have h3:=Zv a0;cases J:Yw gk.words y.2.1.tail y.2.2.1 with
    |error I=>rfl
    |ok z=>
     obtain⟨_,_,hz⟩:=U4 J;have h4:z.2.1.length<=y.2.1.tail.length:=by
      rw[hz];show y.2.1.tail.tail.length<=_;rw[dM (l:=y.2.1.tail)];omega
     dsimp only;split
     ·rename_i a1
      have h5:=Zv a1;rw[Zqf (z.2.1.tail.length+1) N [] z.2.1.tail z.2.2.1 (by omega) (by omega)];cases pCls N [] z.2.1.tail z.2.2.1 with
      |error I=>rfl
      |ok u=>rfl
     ·rfl
   ·rfl
 ·rfl
theorem Yll:Gd NoR pTar:=Yho Z5l Yhp Ydn
end
section
open Go
def TkG(t:Tok):Prop:=TokW t.text/\sT t=tkS t.text/\(t.kind=1->V4 t.text=ac)/\(t.kind=2->0<=t.n/\t.n<=1099511627776)
def LxOk(l:List Tok):Prop:=∀t∈l,TkG t
theorem LxOk.drop{l:List Tok} (h:LxOk l) (k:Nat):LxOk (l.drop k):=λt I=>h t (List.mem_of_mem_drop I)
theorem LxOk.tail{l:List Tok} (h:LxOk l):LxOk l.tail:=λt I=>h t (List.mem_of_mem_tail I)
section
variable {α β:Type}
end
theorem Zpo(s:List (List Nat)) (c:Cls) (r:List Cls):CsOk s (c::r)=(Wv c=ac/\resF c.name=ab/\c.name∉s/\c.when_.length<=8/\Z7 c.pay<=24/\CsOk (c.name::s) r):=rfl
end
section
open Go
def En{I:Type} (p:PP I):Prop:=∀l e y x,p l e= .ok (y,x)->x.1= []
theorem Zwt{I:Type}:En (pSyn:PP I):=λl e y x h=>by cases h
theorem en_b{α U:Type} {p:PP α} {q:α->PP U} (J:∀y,En (q y)):En (pB p q):=λl e y x h=>by
 obtain⟨R,x1,_,I⟩:=b_ok h;exact J R _ _ _ _ I
theorem Ybz{R:Type} {s:List Nat} {A B:PP R} (I:En A) (J:En B):En (pIf s A B):=λl e y x h=>by
 unfold pIf at h;split at h
 ·exact I _ _ _ _ h
 ·exact J _ _ _ _ h
theorem Ymc(t:Tar):En (pEof t):=λl e y x h=>by
 unfold pEof at h;split at h
 ·cases h
 ·rename_i I
  cases h;exact cG (Nat.le_zero.1 (Nat.le_of_not_lt I))
theorem Ymd:En pTar:=λl e y x h=>by
 rw[Ydn _ l e (dx _)] at h;exact Ybz (en_b λnm=>Ybz (en_b λk=>Ybz (en_b λcs=>Ybz (Ymc _) Zwt) Zwt) Zwt) Zwt l e y x h
theorem Yii{l:List Tok} {e:Int} {t:Tar} {x:PX} (h:pTar l e= .ok (t,x)):(∀I f,I.map sT=l.map sT->pTar I f= .ok (t,[],f,()))/\∀I m f,m<l.length->I.map sT=(l.map sT).take m->pTar I f= .error (f,160):=by
 have hn:=Ymd l e t x h;obtain⟨k,rfl,hk,R⟩:=(Yll l e).1 t x h;have a1:l.length<=k:=by
  have:=km aa hn;rw[cR] at this;simp at this;omega
 have U:k=l.length:=by omega
 subst U;refine⟨λI f J=> ?_,λI m f hm J=> ?_⟩
 ·have a0:=km aa J
  rw[dc,dc] at a0;rw[(R I l.length f (Zes J)).1 (av _),bJ (by omega)]
 ·rcases(R I m f J).2 hm with h|⟨y',h,_⟩
  ·exact h
  ·exact h.elim
def AllW(ws:List (List Nat)):Prop:=∀w∈ws,TokW w
theorem Uj{a b:List (List Nat)} (I:AllW a) (J:AllW b):AllW (a++b):=λw R=>(cf.1 R).elim (I w) (J w)
theorem Zj{w:List Nat} {b:List (List Nat)} (I:TokW w) (J:AllW b):AllW (w::b):=λx R=>(aM.1 R).elim (λe=>e▸I) (J x)
theorem Yq:AllW []:=λw I=>by cases I
theorem tw{w:List Nat} (I:(tokP w).2=0) (J:(tokP w).1.text=w) (R:w≠ []):TokW w:=⟨I,J,R⟩
theorem Zty:TokW X4:=tw rfl rfl (by decide)
theorem Znn:TokW Ye:=tw rfl rfl (by decide)
theorem Zno:TokW Yg:=tw rfl rfl (by decide)
theorem Yij:TokW Zew:=tw rfl rfl (by decide)
theorem Yik:TokW Zhi:=tw rfl rfl (by decide)
theorem Yil:TokW Zdb:=tw rfl rfl (by decide)
theorem Yb0:TokW Uu:=tw rfl rfl (by decide)
theorem Yme:TokW sMul:=tw rfl rfl (by decide)
theorem Yim:TokW Zd6:=tw rfl rfl (by decide)
theorem Yoc:TokW sLb:=tw rfl rfl (by decide)
theorem Yod:TokW sRb:=tw rfl rfl (by decide)
theorem Yoe:TokW sIf:=tw rfl rfl (by decide)
theorem Ydt:TokW sPer:=tw rfl rfl (by decide)
theorem Yof:TokW sIs:=tw rfl rfl (by decide)
theorem Yog:TokW sIn:=tw rfl rfl (by decide)
theorem Ymf:TokW sPay:=tw rfl rfl (by decide)
theorem Ymg:TokW sFor:=tw rfl rfl (by decide)
theorem Z6p:TokW Zhj:=tw rfl rfl (by decide)
theorem Z6q:TokW Wx:=tw rfl rfl (by decide)
theorem Yin:TokW Zh3:=tw rfl rfl (by decide)
theorem Ymh:TokW sAnd:=tw rfl rfl (by decide)
theorem Zqy{k:WK} {i:Nat} (h:i<k.words.length):TokW (k.words.getD i []):=Zhy (Zmb h)
theorem Ymi{a b c d:Int} (h:Zct [a,b,c,d]=ac):AllW (txU [a,b,c,d]):=by
 rcases unF h with⟨_,I⟩|⟨i,hi,_,I⟩|⟨j,J,_,I⟩|⟨i,hi,j,J,_,I⟩
 ·rw[I];exact Yq
 ·rw[I];exact Zj (Zqy (k:= .un) hi) Yq
 ·rw[I];exact Zj Ydt (Zj (Zqy (k:= .un) J) Yq)
 ·rw[I];exact Zj (Zqy (k:= .un) hi) (Zj Ydt (Zj (Zqy (k:= .un) J) Yq))
theorem Zwu{op least:Int} {t:List (List Nat)} (h:AllW t):AllW (par op least t):=by
 unfold par;split
 ·exact h
 ·exact Zj Zty (Uj h (Zj Znn Yq))
theorem Z6r:∀{ts:List (List (List Nat))} {I:List (List Nat)},(∀t∈ts,AllW t)->AllW I->AllW (txS ts I)
 | [],_,_,_=>by unfold txS;exact Yq
 |t::r,[],_,_=>by unfold txS;exact Yq
 |t::r,s::I,J,R=>by
  unfold txS
  exact Uj (J t (by simp)) (Zj (R s (by simp)) (Z6r (λt U=>J t (by simp[U])) λw hw=>R w (by simp[hw])))
theorem Z6s:∀{l:List Ex} {t:List (List Nat)},t∈txL l->∃x∈l,t=txX x
 | [],t,h=>by cases h
 |x::r,t,h=>by
  unfold txL at h
  rcases aM.1 h with rfl|h
  ·exact⟨x,by simp,rfl⟩
  ·obtain⟨y,I,e⟩:=Z6s h
   exact⟨y,by simp[I],e⟩
theorem Ymj:∀(x:Ex),Zn x=ac->AllW (txX x):=by
 suffices H:∀(m:Nat) (x:Ex),x.sz<=m->Zn x=ac->AllW (txX x) fromλx=>H _ x (av _)
 intro m
 induction m with
 |zero=>intro x h;have:=x.sz_pos;omega
 |succ m ih=>
  intro x hm R;rw[Zch,aq] at R;obtain⟨hh,hl⟩:=R;have a0:∀y∈x.l,AllW (txX y):=λy hy=>ih y (by have:=Ex.sz_mem hy;omega) (formL_iff.1 hl y hy);obtain⟨op,n,a,b,c,d,l⟩:=x;simp only[aJ,cd,Ex.u,bC,bD,bE,bF,bx] at hh a0;obtain⟨h1,h2,h3,J,h5,h6,h7⟩:=Zfx hh;have I:∀t∈txL l,AllW t:=by
   intro t ht;obtain⟨x,hx,rfl⟩:=Z6s ht;exact a0 x hx
  have U:∀i,AllW ((txL l).getD i []):=by
   intro i;by_cases hi:i<(txL l).length
   ·have:(txL l).getD i []=(txL l)[i]:=by simp[ah,hi]
    rw[this];exact I _ (iE hi)
   ·have:(txL l).getD i []= []:=by simp[ah,hi]
    rw[this];exact Yq
  rw[txX];unfold txN;split
  ·rename_i q
   subst q;exact Zj (Zgw h3 J) (Ymi h6)
  ·split
   ·rename_i q
    subst q;have:n<=15:=J;exact Zj (Zqy (k:= .at_) (show n.toNat<16 by omega)) Yq
   ·split
    ·exact Zj Yoe (Zj Zty (Z6r I (Zj Yij (Zj Zno (Zj Zno (Zj Znn Yq))))))
    ·split
     ·refine Uj (Zwu (U 0)) (Zj ?_ (Zwu (U 1)))
      unfold sgnO;split
      ·exact Yil
      ·split
       ·exact Yb0
       ·exact Yme
     ·exact Zj (Zqy (k:= .ca) (show(op-6).toNat<5 by omega)) (Zj Zty (Z6r I (Zj Zno (Zj Znn Yq))))
theorem Ymk{w:Tst} (h:Yl w=ac):AllW (txW w):=by
 obtain⟨a0,a1,I,J,R,U⟩:=Zbk h;unfold txW;refine Zj (Zqy (k:= .at_) (show w.attr.toNat<16 by omega)) ?_;split
 ·exact Zj Yof (Zj (Zgw I J) Yq)
 ·exact Zj Yog (Zj (Zgw I J) (Zj Yim (Zj (Zgw R U) Yq)))
theorem Z6t:∀{ws:List Tst} (i:Nat),(∀w∈ws,Yl w=ac)->AllW (txTs i ws)
 | [],_,_=>Yq
 |w::r,i,h=>by
  rw[Zjo]
  refine Zj ?_ (Uj (Ymk (h w (by simp))) (Z6t _ λw I=>h w (by simp[I])))
  split
  ·exact Yin
  ·exact Ymh
theorem Yml{c:Cls} (h:Wv c=ac):AllW (txC c):=by
 obtain⟨I,J,R⟩:=Zaj h;exact Zj Z6q (Zj (Zhy I) (Uj (Z6t _ R) (Zj Ymf (Uj (Ymj _ J) (Zj Yik Yq)))))
theorem Z6u:∀{cs:List Cls} {s:List (List Nat)},CsOk s cs->AllW (txCs cs)
 | [],_,_=>Yq
 |c::r,s,h=>by
  rw[Zpo] at h
  rw[Zjp]
  exact Uj (Yml h.1) (Z6u h.2.2.2.2.2)
theorem Zwv{t:Tar} (h:Z8 t=0):AllW (Zax t):=by
 obtain⟨I,R,U,h4,h5,J⟩:=(Zai t).1 h;exact Zj Z6p (Zj (Zhy I) (Zj Ymg (Zj (Zqy (k:= .ki) (show(t.for_-1).toNat<6 by omega)) (Zj Yoc (Uj (Z6u J) (Zj Yod Yq))))))
theorem Yoh(ws:List (List Nat)):(TS ws).map sT=TS ws:=by
 rw[kP];rfl
theorem Yb1{s:List Nat} {l:List Tok} (h:Lx s 0 l) (I:s.length<=2000):Xf s=outT (pTar l s.length):=by
 unfold Xf;rw[Z09 h I,jG (by simp)]
theorem Ztz{s:List Nat} {l:List Tok} (h:Lx s 0 l) (R:s.length<=2000) {I:List Tok} {e:Int} {t:Tar} {x:PX} (U:pTar I e= .ok (t,x)) (J:l.map sT=I.map sT):Xf s=(t,0,0):=by
 rw[Yb1 h R,(Yii U).1 l s.length J];rfl
theorem Zt0{t:Tar} (h:Z8 t=0) (I:(Vx (Zax t)).length<=2000):Xf (Vx (Zax t))=(t,0,0):=by
 refine Ztz (Z1a 0 (Zwv h)) I (Ybn h 0) ?_;rw[Ycr,Yoh]
theorem Zzx{t:Tar} (h:Z8 t≠0):W6 t=([],Z8 t):=by
 unfold W6;rw[jQ h]
theorem Z6v{t:Tar} (h:(W6 t).2=0):Z8 t=0/\(Vx (Zax t)).length<=2000/\W6 t=(Vx (Zax t),0):=by
 unfold W6 at h⊢;split at h
 ·rename_i I
  exact kc h I
 ·rename_i I
  split at h
  ·cases h
  ·rename_i J
   rw[jG I,jG J];exact⟨by simpa using I,by omega,rfl⟩
end
section
open Go
structure PcX where
 k:Nat
 r:Nat
 L:List (List Nat)
 fz:Nat
def cOfP(h:Hp thy) (v:SV thy):Nat:=match h (bOf v) with|some (.raw (.sl c _ _ _ _::_) _ _)=>c|_=>0
noncomputable def Apc:Fr thy->Hp thy->Nat->Ann thy:=λT h i=>{X:=PcX,fr:=λx=> [(0,T 0),(3,T 3),(12,T 12),(13,T 13),(14,.int ab .i64 x.k)],bl:=λx=>(bOf (T 0),.raw [.sl i 0 x.L.length 1 ar] 0 ar)::(i,.rows dp x.L x.fz)::blkP h (T 3),src:=λx=> [(i,1000)],md:= [bOf (T 0),cOfP h (T 0)],ih:=i+1,M:=i+60,meas:=λx=>x.r}
noncomputable def Fpc:Fns thy:=addL (addS Fpu 71 (Sxp 1000000000)) 37 3 Apc E
def clA(c:Cls):SV thy:= .agg (encF ab .clauses c)
abbrev Zf2(c:Cls):Prop:=
 aP c=aP c/\(aY c=aY c/\(ab=ac->ab=ac))/\aJ (aE c)=aJ (aE c)/\cd (aE c)=cd (aE c)/\bC
 (aE c)=bC (aE c)/\bD (aE c)=bD (aE c)/\bE (aE c)=bE (aE c)/\bF (aE c)=bF (aE c)/\(bx (aE c)=bx
 (aE c)/\(ab=ac->ab=ac))/\True
abbrev Zj5(c:Cls) (x:PcX) (I:PcX):Prop:=
 (0:Nat)=(0:Nat)/\(0:Nat)=(0:Nat)/\(aY c=aY c/\(ab=ac->ab=ac))/\(↑(aa (aY c)):Int)=(↑(aa (aY c))
 :Int)/\wr af ((↑(PcX.k x):Int)+(1:Int))=(↑(PcX.k I):Int)/\True
abbrev Zj6(c:Cls):=
 (bY (aJ (aE c)) (cd (aE c)) (bC (aE c)) (bD (aE c)) (bE (aE c)) (bF (aE c)) (bx (aE c)))
abbrev Zui(x:PcX) (I:List Nat):Prop:=
 aa (PcX.L x)+(2:Nat)<=aa (aw (aa (PcX.L x)) (PcX.L x)++ [[(119:Nat),(104:Nat),(101:Nat),(110:Nat)],I])/\PcX.fz x<=
 aa (PcX.L x)+(2:Nat)/\(aa (PcX.L x)+(2:Nat)+(1:Nat))*(16:Nat)<=(140737488355328:Nat)
abbrev Zuj(x:PcX) (I:List Nat):Prop:=
 aa (PcX.L x)+(2:Nat)<=aa (aw (aa (PcX.L x)) (PcX.L x)++ [[(97:Nat),(110:Nat),(100:Nat)],I])/\PcX.fz x<=aa (PcX.L x)
 +(2:Nat)/\(aa (PcX.L x)+(2:Nat)+(1:Nat))*(16:Nat)<=(140737488355328:Nat)
abbrev Zj7(x:PcX):=
 (aw (aa (PcX.L x)) (PcX.L x)++ [[(112:Nat),(97:Nat),(121:Nat)]])
abbrev Zj8(I:Tst):Prop:=
 (0:Int)<=fk I/\fk I+(1:Int)<=(10000000000000:Int)
abbrev Zj9(x:PcX):=
 (aa (PcX.L x)+(2:Nat)+(1:Nat)+(1:Nat)+(1:Nat))
abbrev Zuk(x:PcX):Prop:=
 aa (PcX.L x)<=aa (PcX.L x)/\PcX.fz x<=aa (PcX.L x)/\(aa (PcX.L x)+(2:Nat))*(16:Nat)<=(140737488355328:Nat)
abbrev Zul(x:PcX) (I:PcX):Prop:=
 ((0:Nat)=(0:Nat)/\aa (PcX.L x)+(2:Nat)+(1:Nat)+(1:Nat)+(1:Nat)+(1:Nat)=aa (PcX.L I)/\True)/\True
abbrev Zn2(x:PcX) (I:PcX):Prop:=
 ((0:Nat)=(0:Nat)/\aa (PcX.L x)+(2:Nat)+(1:Nat)+(1:Nat)=aa (PcX.L I)/\True)/\True
abbrev qCT7(I:PcX) (J:List Nat):=(aw (aa (PcX.L I)) (PcX.L I)++ [[(119:Nat),(104:Nat),(101:Nat),(110:Nat)],J])
abbrev qCT8:=(2:Nat)
abbrev qCTc(I:PcX):=(aa (PcX.L I)+qCT8)
abbrev qCT1(I:PcX) (J:List Nat):=(aw (qCTc I) (qCT7 I J)++ [[(105:Nat),(110:Nat)]])
abbrev qCT9(I:PcX) (J:List Nat):=(aw (aa (PcX.L I)) (PcX.L I)++ [[(97:Nat),(110:Nat),(100:Nat)],J])
abbrev qCT2(I:PcX) (J:List Nat):=(aw (qCTc I) (qCT9 I J)++ [[(105:Nat),(110:Nat)]])
abbrev qCT3:=(1:Nat)
abbrev qCT4(I:PcX):=(aa (PcX.L I)+qCT8+qCT3+qCT3)
abbrev qCT5(I:PcX):=(aa (PcX.L I)+qCT8+qCT3)
abbrev qCT6:=(140737488355328:Nat)
abbrev qCTa(I:Cls):=(↑(aa (aY I)):Int)
abbrev qCTb(I:PcX):=(↑(PcX.k I):Int)
abbrev qCTd(I:PcX):=(ae (aw (aa (PcX.L I)) (PcX.L I)++ [[(112:Nat),(97:Nat),(121:Nat)]],PcX.fz I))
abbrev qCTe:=(16:Nat)
abbrev qCTf:=(1:Int)
abbrev qCTg(I:Tst):=((0:Int)<=fp I/\fp I+qCTf<=(10000000000000:Int))
abbrev qCTh:=(0:Nat)
theorem Z7m(l:List (List Nat)) (fz:Nat) (c:Cls) (l':List (List Nat)):Zk E Fpc (vc E Fpc 400) 37 [.ptr 0 0,clA c] (hpP E dp (ae (l,fz))) 2 (prnK E dp (ae (l,fz)) l')=(
 (aa l<=aa l/\fz<=aa l/\(aa l+qCT8)*qCTe<=qCT6)/\∃(R:PcX->Prop),(∃(x:PcX),R x/\ac=ac/\(qCTh=qCTh/\qCTh=qCTh/\(aY c=aY c/\(ab=ac->ab=ac))/\(qCTa c)=(qCTa c)/\0=(qCTb x)/\True)/\((qCTh=qCTh/\aa l+qCT8=aa (PcX.L x)/\True)/\True)/\(aw (aa l) l++ [[99,108,97,117,115,101],aP c]=PcX.L x/\fz=PcX.fz x)/\(Zf2 c)/\True)/\∀(x:PcX),R x->(decide ((qCTb x)<(qCTa c))=ac->0<=(qCTb x)/\(qCTb x)+qCTf<=(qCTa c)/\∀(I:Tst),(aY c)[ag (qCTb x)]? =ae I->0<=mm2 ab (qCTb x) qCTf/\mm2 ab (qCTb x) qCTf+qCTf<=(↑qCT8:Int)/\((mm2 ab (qCTb x) qCTf==(↑qCTh:Int))=ac->0<=eg I/\eg I+qCTf<=(↑(aa (dJ dI)):Int)/\∀(U:List Nat),(dJ dI)[ag (eg I)]? =ae U->(Zuk x)/\((fk I==fp I)=ac->(Zui x U)/\(Zj8 I)/\∀(y:List Nat),y=decN (fk I)->(aa (PcX.L x)+qCT8+qCT3<=aa (aw (qCTc x) (qCT7 x U)++ [[105,115]])/\PcX.fz x<=aa (PcX.L x)+qCT8+qCT3/\(qCT4 x)*qCTe<=qCT6)/\∃(J:PcX),R J/\J.2+qCT3<=x.2/\ac=ac/\(Zj5 c x J)/\(Zn2 x J)/\(aw (qCT5 x) (aw (qCTc x) (qCT7 x U)++ [[105,115]])++ [y]=PcX.L J/\PcX.fz x=PcX.fz J)/\(Zf2 c)/\True)/\((fk I==fp I)=ab->(Zui x U)/\(Zj8 I)/\∀(y:List Nat),y=decN (fk I)->(aa (PcX.L x)+qCT8+qCT3<=aa (qCT1 x U)/\PcX.fz x<=aa (PcX.L x)+qCT8+qCT3/\(qCT4 x)*qCTe<=qCT6)/\(aa (PcX.L x)+qCT8+qCT3+qCT3<=aa (aw (qCT5 x) (qCT1 x U)++ [y])/\PcX.fz x<=aa (PcX.L x)+qCT8+qCT3+qCT3/\(Zj9 x)*qCTe<=qCT6)/\(qCTg I)/\∀(a1:List Nat),a1=decN (fp I)->(aa (PcX.L x)+qCT8+qCT3+qCT3+qCT3<=aa (aw (qCT4 x) (aw (qCT5 x) (qCT1 x U)++ [y])++ [[46,46]])/\PcX.fz x<=aa (PcX.L x)+qCT8+qCT3+qCT3+qCT3/\(aa (PcX.L x)+qCT8+qCT3+qCT3+qCT3+qCT3)*qCTe<=qCT6)/\∃(J:PcX),R J/\J.2+qCT3<=x.2/\ac=ac/\(Zj5 c x J)/\(Zul x J)/\(aw (Zj9 x) (aw (qCT4 x) (aw (qCT5 x) (qCT1 x U)++ [y])++ [[46,46]])++ [a1]=PcX.L J/\PcX.fz x=PcX.fz J)/\(Zf2 c)/\True))/\((mm2 ab (qCTb x) qCTf==(↑qCTh:Int))=ab->((mm2 ab (qCTb x) qCTf==(↑(qCTh+qCT3):Int))=ac->0<=eg I/\eg I+qCTf<=(↑(aa (dJ dI)):Int)/\∀(U:List Nat),(dJ dI)[ag (eg I)]? =ae U->(Zuk x)/\((fk I==fp I)=ac->(Zuj x U)/\(Zj8 I)/\∀(y:List Nat),y=decN (fk I)->(aa (PcX.L x)+qCT8+qCT3<=aa (aw (qCTc x) (qCT9 x U)++ [[105,115]])/\PcX.fz x<=aa (PcX.L x)+qCT8+qCT3/\(qCT4 x)*qCTe<=qCT6)/\∃(J:PcX),R J/\J.2+qCT3<=x.2/\ac=ac/\(Zj5 c x J)/\(Zn2 x J)/\(aw (qCT5 x) (aw (qCTc x) (qCT9 x U)++ [[105,115]])++ [y]=PcX.L J/\PcX.fz x=PcX.fz J)/\(Zf2 c)/\True)/\((fk I==fp I)=ab->(Zuj x U)/\(Zj8 I)/\∀(y:List Nat),y=decN (fk I)->(aa (PcX.L x)+qCT8+qCT3<=aa (qCT2 x U)/\PcX.fz x<=aa (PcX.L x)+qCT8+qCT3/\(qCT4 x)*qCTe<=qCT6)/\(aa (PcX.L x)+qCT8+qCT3+qCT3<=aa (aw (qCT5 x) (qCT2 x U)++ [y])/\PcX.fz x<=aa (PcX.L x)+qCT8+qCT3+qCT3/\(Zj9 x)*qCTe<=qCT6)/\
(qCTg I)/\∀(a1:List Nat),a1=decN (fp I)->(aa (PcX.L x)+qCT8+qCT3+qCT3+qCT3<=aa (aw (qCT4 x) (aw (qCT5 x) (qCT2 x U)++ [y])++ [[46,46]])/\PcX.fz x<=aa (PcX.L x)+qCT8+qCT3+qCT3+qCT3/\(aa (PcX.L x)+qCT8+qCT3+qCT3+qCT3+qCT3)*qCTe<=qCT6)/\∃(J:PcX),R J/\J.2+qCT3<=x.2/\ac=ac/\(Zj5 c x J)/\(Zul x J)/\(aw (Zj9 x) (aw (qCT4 x) (aw (qCT5 x) (qCT2 x U)++ [y])++ [[46,46]])++ [a1]=PcX.L J/\PcX.fz x=PcX.fz J)/\(Zf2 c)/\True))/\((mm2 ab (qCTb x) qCTf==(↑(qCTh+qCT3):Int))=ab->True)))/\(decide ((qCTb x)<(qCTa c))=ab->(aa (PcX.L x)<=aa (PcX.L x)/\PcX.fz x<=aa (PcX.L x)/\(aa (PcX.L x)+qCT3)*qCTe<=qCT6)/\(aa (PcX.L x)+qCT3=aa (Zj7 x)/\PcX.fz x<=aa (Zj7 x)/\cZ (Zj6 c)+qCT3<=1000000000/\Zn (Zj6 c)=ac/\qCT3<=aa (Zj7 x)/\aa (Zj7 x)+8*cZ (Zj6 c)+8<=1000000000)/\∀(a0:List (List Nat)),a0=aw (aa (PcX.L x)) (PcX.L x)++ [[112,97,121]]++txX (Zj6 c)->(aa a0<=aa a0/\fzO (qCTd x)<=aa a0/\(aa a0+qCT3)*qCTe<=qCT6)/\aw (aa a0) a0++ [[59]]=l'/\aa a0+qCT3=aa l'/\fzO (qCTd x)=fzO (ae (l,fz)))):=by kernel_rfl
theorem Zrd:∀(a:List Tst) (i:Nat) (w:Tst),txTs i (a++ [w])=txTs i a++((if a.length+i=0 then Zh3 else sAnd)::txW w)
 | [],i,w=>by simp[txTs]
 |x::r,i,w=>by
  rw[bW]
  simp only[txTs]
  rw[Zrd r (i+1) w]
  have e:(r.length+(i+1)=0)=((x::r).length+i=0):=by simp
  simp only[e,bd,bW]
theorem Yi7(w:Tst):(txW w).length<=5:=by
 unfold txW;split<;>simp
theorem Zn3:∀(l:List Tst) (i:Nat),(txTs i l).length<=6*l.length
 | [],_=>by simp[txTs]
 |w::r,i=>by
  have:=Zn3 r (i+1)
  have:=Yi7 w
  simp[txTs]
  omega
def PclP(l:List (List Nat)) (c:Cls):Prop:=Wv c=ac/\c.pay.sz<1000000000/\1<=l.length/\l.length+8*c.pay.sz+6*c.when_.length+20<=1000000000
theorem Ymu:FnsOk E Fpc:=Zm E_ok (Zb Zv6 (Z4q (Zwo 1000000000))) _ _ _
theorem Yi8(c:Cls) (l:List (List Nat)) (fz:Nat) (hf:fz<=l.length) (h:PclP l c):PrnC E 37 dp [clA c] (ae (l,fz)) (l++txC c):=by
 refine Z4n Ymu (n:=400) rfl ?_;rw[Z7m];delta qCT7 qCT8 qCTc qCT1 qCT9 qCT2 qCT3 qCT4 qCT5 qCT6 qCTa qCTb qCTd qCTe qCTf qCTg qCTh;unfold Zn2 Zul Zuk Zj9 Zj8 Zj7 Zuj Zui Zj6 Zj5 Zf2;obtain⟨h1,h2,h3,h4⟩:=h;obtain⟨-,g2,g3⟩:=Zaj h1;have L:dI.words.length=16:=rfl;simp only[fzO,aU,ia,kD,hJ,fR,ne_eq,and_true,true_and,ko,fK,fC]
 refine⟨⟨av _,hf,by omega⟩,λx=>x.k<=c.when_.length/\x.fz=fz/\x.L=l++ [Wx,c.name]++txTs 0 (c.when_.take x.k)/\x.r=c.when_.length-x.k,⟨⟨0,c.when_.length,l++ [Wx,c.name],fz⟩,⟨by dsimp only;omega,rfl,by simp[txTs],rfl⟩,by simp,by simp,by simp[Wx]⟩,?_⟩;rintro⟨k,r,Lx,R⟩ ⟨k1,k2,k3,k4⟩;simp only at k1 k2 k3 k4⊢;subst k2 k4;have tl:=Zn3 (c.when_.take k) 0;have tl2:(c.when_.take k).length<=c.when_.length:=by simp;omega
 have hL:Lx.length=l.length+2+(txTs 0 (c.when_.take k)).length:=by rw[k3];simp;omega
 refine aD (λhq=>⟨by omega,by omega,λw hw=> ?_⟩) (λhq=> ?_)
 ·have hw:c.when_[k]? =ae w:=hw
  have hq:k<c.when_.length:=by omega
  obtain⟨t1,t2,t3,t4,t5,t6⟩:=Zbk (g3 w (aI hw));have ek:c.when_.take (k+1)=c.when_.take k++ [w]:=by rw[cD,hw];rfl
  have tw:(c.when_.take k).length=k:=by simp;omega
  have hm:(0:Int)<=mm2 ab (↑k:Int) (1:Int)/\mm2 ab (↑k:Int) (1:Int)+1<=2:=by
   rw[Yt];omega
  have st:txTs 0 (c.when_.take (k+1))=txTs 0 (c.when_.take k)++((if k=0 then Zh3 else sAnd)::txW w):=by rw[ek,Zrd,tw,dZ]
  have wx:∀I,dI.words[w.attr.toNat]? =ae I->txW w=I::(if w.low=w.high then[sIs,decN w.low] else[sIn,decN w.low,Zd6,decN w.high]):=by
   intro I h;unfold txW;rw[bL,h];rfl
  have E1:∀s I,(if k=0 then Zh3 else sAnd)=s->dI.words[w.attr.toNat]? =ae I->w.low=w.high->Lx++ [s,I]++ [[105,115]]++ [decN w.low]=l++ [Wx,c.name]++txTs 0 (c.when_.take (k+1)):=by
   intro s I U h e;rw[k3,st,U,wx I h,jQ e];simp[sIs]
  have E2:∀s I,(if k=0 then Zh3 else sAnd)=s->dI.words[w.attr.toNat]? =ae I->¬w.low=w.high->Lx++ [s,I]++ [[105,110]]++ [decN w.low]++ [[46,46]]++ [decN w.high]=l++ [Wx,c.name]++txTs 0 (c.when_.take (k+1)):=by
   intro s I U h e;rw[k3,st,U,wx I h,jG e];simp[sIn,Zd6]
  have T1:∀a b,aw (Lx.length+2) (Lx++ [a,b])=Lx++ [a,b]:=λa b=>bg (by simp);have T2:∀a b c,aw (Lx.length+2+1) (Lx++ [a,b]++ [c])=Lx++ [a,b]++ [c]:=λa b c=>bg (by simp);have T3:∀a b c d,aw (Lx.length+2+1+1) (Lx++ [a,b]++ [c]++ [d])=Lx++ [a,b]++ [c]++ [d]:=λa b c d=>bg (by simp);have T4:∀a b c d e,aw (Lx.length+2+1+1+1) (Lx++ [a,b]++ [c]++ [d]++ [e])=Lx++ [a,b]++ [c]++ [d]++ [e]:=λa b c d e=>bg (by simp)
  have wk:wr af ((k:Int)+1)=((k+1:Nat):Int):=(wr64 (by omega) (by omega)).trans (by omega);simp only[T1,T2,T3,T4];have m0:(mm2 ab (k:Int) 1=((0:Nat):Int))=(k=0):=by rw[Yt];exact propext (by omega)
  have go:∀s I,(if k=0 then Zh3 else sAnd)=s->dI.words[w.attr.toNat]? =ae I->
   (w.low=w.high->∃J:PcX,(J.k<=c.when_.length/\J.fz=R/\J.L=l++ [Wx,c.name]++txTs 0 (aw J.k c.when_)/\J.r=c.when_.length-J.k)/\J.r+1<=c.when_.length-k/\wr af ((k:Int)+1)=(J.k:Int)/\Lx.length+2+1+1=J.L.length/\Lx++ [s,I]++ [[105,115]]++ [decN w.low]=J.L/\R=J.fz)/\
   (¬w.low=w.high->∃J:PcX,(J.k<=c.when_.length/\J.fz=R/\J.L=l++ [Wx,c.name]++txTs 0 (aw J.k c.when_)/\J.r=c.when_.length-J.k)/\J.r+1<=c.when_.length-k/\wr af ((k:Int)+1)=(J.k:Int)/\Lx.length+2+1+1+1+1=J.L.length/\Lx++ [s,I]++ [[105,110]]++ [decN w.low]++ [[46,46]]++ [decN w.high]=J.L/\R=J.fz):=by
   intro s I U h;refine aD (λe=> ?_) (λe=> ?_)
   ·have:=E1 s I U h e
    have h2:=km aa this;refine⟨⟨k+1,c.when_.length-(k+1),l++ [Wx,c.name]++txTs 0 (c.when_.take (k+1)),R⟩,⟨hq,rfl,rfl,rfl⟩,(by dsimp only;omega),wk,?_,this,rfl⟩;dsimp only;rw[<-h2];simp
   ·have:=E2 s I U h e
    have h2:=km aa this;refine⟨⟨k+1,c.when_.length-(k+1),l++ [Wx,c.name]++txTs 0 (c.when_.take (k+1)),R⟩,⟨hq,rfl,rfl,rfl⟩,(by dsimp only;omega),wk,?_,this,rfl⟩;dsimp only;rw[<-h2];simp
  rw[m0];refine⟨hm.1,hm.2,λh0=>⟨t1,by rw[L];omega,λI a0=> ?_⟩,λh0=>⟨λh1=>⟨t1,by rw[L];omega,λI a0=> ?_⟩,λ_=>jU⟩⟩
  ·obtain⟨g1,g2⟩:=go [119,104,101,110] I (by rw[jQ h0];rfl) a0
   refine⟨⟨av _,by omega,by omega⟩,λe=> ?_,λe=> ?_⟩
   ·exact⟨⟨by simp,by omega,by omega⟩,⟨t3,by omega⟩,⟨by simp,by omega,by omega⟩,g1 e⟩
   ·exact⟨⟨by simp,by omega,by omega⟩,⟨t3,by omega⟩,⟨by simp,by omega,by omega⟩,⟨by simp,by omega,by omega⟩,⟨t5,by omega⟩,⟨by simp,by omega,by omega⟩,g2 e⟩
  ·obtain⟨g1,g2⟩:=go [97,110,100] I (by rw[jG h0];rfl) a0
   refine⟨⟨av _,by omega,by omega⟩,λe=> ?_,λe=> ?_⟩
   ·exact⟨⟨by simp,by omega,by omega⟩,⟨t3,by omega⟩,⟨by simp,by omega,by omega⟩,g1 e⟩
   ·exact⟨⟨by simp,by omega,by omega⟩,⟨t3,by omega⟩,⟨by simp,by omega,by omega⟩,⟨by simp,by omega,by omega⟩,⟨t5,by omega⟩,⟨by simp,by omega,by omega⟩,g2 e⟩
 ·have ek:k=c.when_.length:=by omega
  have tx:=Xu c.pay;have e1:Lx++ [[112,97,121]]++txX c.pay++ [[59]]=l++txC c:=by
   rw[k3,ek,aU];unfold txC;simp[sPay,Zhi]
  have e2:=km aa e1;simp only[aB,aC,bh] at e2⊢;exact⟨⟨av _,by omega,by omega⟩,⟨jU,by omega,by omega,g2,by omega,by omega⟩,⟨av _,by omega,by omega⟩,e1,by omega,jU⟩
end
section
open Go
theorem Zpq{f:FuncId} {args:List (SV thy)} {v:SV thy} (h:∀(g:GH) (w:World) (R:Array Value),Inv E w.heap.size σ0 hp0 g w->DenL E σ0 g args R.toList->Calls E.P f R w λen w'=>∃u,en= .returned u/\Den E σ0 g v u/\Ext w w'):PureC E f args v:=by
 intro g w R J hd;refine(h g w R J hd).mono ?_;rintro en w' ⟨u,he,hv,I⟩;refine⟨u,he,g,⟨.refl _,λb p h=> .inl h,.refl _,λ_ _ _ h=> .inl h,λ_ _ h=> .inl h,λr hr _=>I.block hr,I.size,I.os,I.tape,I.output,λb r z h1 h2=>by cases h2⟩,?_,hv⟩;refine⟨λr o u hu=>I.cell (J.gc r o u hu),λr es hu=> ?_,(λb x I=>by cases I),λb b' r z z' h1=>kc rfl h1,(λb r z hs=>by cases hs),(λb x r z o v I=>by cases I),(λb x r z I=>by cases I),J.glob⟩;obtain⟨c,U⟩:=J.gm r es hu;have hr:r<w.heap.size:=by
  rcases fD r w.heap.size with h|h
  ·exact h
  ·rw[Array.getElem?_eq_none h] at U;cases U
 exact⟨c,by rw[I.block hr];exact U⟩
end
section
open Go
theorem Yl9:Builder.Extra Tryz.prog Tryz.lays156_ren where
 sizeBuilder:=by kernel_rfl
 liesBuilder:=by kernel_rfl
 t5:=Tryz.underlying5
 a5:=Tryz.isAgg5
 z5:=Tryz.sizeOf5
 v5:=Tryz.zeroValue5
 infoByte:=by kernel_rfl
 cellsByte:=by kernel_rfl
 sizeByte:=by kernel_rfl
 neB5:=by decide
theorem Zwp:∀{l:List (List Nat)},(∀y∈l,toL (mkS y)=y)->(Lib.join ((l.map mkS).map (·.data.toList)) (mkS [32]).data.toList).map cX=Vx l
 | [],_=>rfl
 | [x],h=>by
  rw[bS,dK,bS,dK,Lib.join_one]
  exact h x (by simp)
 |x::y::r,h=>by
  have U:=Zwp (l:=y::r) (λz I=>h z (by simp at I⊢;exact .inr I))
  have R:=h x (by simp)
  rw[Zkr (by simp),<-U]
  rw[bS,bS,kR,bS,bS,kR,eY]
  unfold Lib.joinTail
  rw[bS,List.flatten_cons]
  have e:((mkS x).data.toList).map cX=x:=R
  rw[e]
  have J:(mkS [32]).data.toList= [32]:=rfl
  rw[J]
  simp only[eY,bS,dK,bd]
  rfl
theorem Z6j(l:List (List Nat)) (h1:l.length<=1000000000) (h2:(Vx l).length<=1000000000):PureC E 38 [.psl dp l ab,.str ab [32]] (.str ab (Vx l)):=by
 refine Zpq λg w a7 hI hd=> ?_;obtain⟨u,v,rfl,hu,hv⟩:=Yj2 hd;cases hv;rename_i a6 a5;have hs:a6=mkS [32]:=by rw[<-a5,Zdq]
 subst hs;obtain⟨base,c,cv,rfl,hl,hm,hf,hn,R,a4⟩:=V1 hu;rcases Nat.eq_zero_or_pos l.length with J|J
 ·have e:l= []:=List.length_eq_zero_iff.1 J
  subst e;refine(Any.strings_Join_none Tryz.lays156 Yl9 base c (mkS [32]) w).mono ?_;rintro e w' ⟨rfl,rfl⟩;exact⟨_,rfl,.str _ rfl,Go.RowKit.Below.refl _ _⟩
 ·obtain⟨r,o,rfl,hc⟩:=R J
  have W1:E.w dp=1:=rfl;have key:∀i x,l[i]? =ae x->w.cell? ⟨r,o+i,ar⟩=ae (.string (mkS x))/\toL (mkS x)=x:=by
   intro i x I;have a1:=hc i x I 0 (by show 0<1;decide);have a2:=a4 i x I 0 (.str ab x) rfl;rw[W1,jw,dZ] at a1;have a3:=hI.gc _ _ _ a1;generalize hq:cv i 0=q at a2 a3;cases a2;rename_i b R;subst R;rw[Zdq];exact⟨a3,rfl⟩
  have a0:∀y∈l,toL (mkS y)=y:=λy U=>by
   obtain⟨i,hi,rfl⟩:=List.getElem_of_mem U;exact(key i _ (ak hi)).2
  have hr:r<w.heap.size:=by
   have:=(key 0 _ (ak J)).1;rcases fD r w.heap.size with h|h
   ·exact h
   ·unfold World.cell? at this
    simp only at this;rw[Array.getElem?_eq_none h] at this;cases this
  have hj:=Zwp a0
  have:=Any.strings_Join Tryz.lays156 Yl9 r o c (l.map mkS) (mkS [32]) w (λj x I=>by
   rw[List.getElem?_map] at I;obtain⟨y,U,rfl⟩:=Option.map_eq_some_iff.1 I;exact(key j y U).1) hr (by rw[dc];omega) (by rw[dc];exact hl) (by
   rw[<-hj,dc] at h2
   omega)
  rw[dc] at this;refine Calls.mono this ?_;rintro e w' ⟨rfl,hw⟩;refine⟨_,rfl,.str _ ?_,hw⟩;unfold toL;exact hj
end
section
open Go
noncomputable def dCl1:DcL E (Cls×Unit):= .cons dCl .nil
noncomputable def Spc:Sum thy:=sumB E dp dCl1 (λl x=>PclP l x.1) λ(l:List (List Nat)) x=>l++txC x.1
theorem Ymw:SumOk E 37 Spc:=Zfm E_ok (Zc rfl) λx=>⟨λl fz J I=>Yi8 x.1 l fz J I,λI=>kc I.2.2.1 (by decide)⟩
noncomputable def Yos:DcL E (List (List Nat)×List Nat×Unit):= .cons (Zfi (E:=E) dp:Dc E (List (thy.dom dp))) (.cons dS .nil)
noncomputable def Ymx:Sum thy:=Zqq E (λ_=>ar) 10 (Wn Yos (λx=>(x.2.1= [32]/\x.1.length<=1000000000)/\(Vx x.1).length<=1000000000) (λx=>Vx x.1) λy=> .str ab y)
noncomputable def Apr:Fr thy->Hp thy->Nat->Ann thy:=λT h i=>{X:=PcX,fr:=λx=> [(1,T 1),(5,T 5),(28,T 28),(29,T 29),(30,.int ab .i64 x.k)],bl:=λx=>(bOf (T 5),.raw [.sl i 0 x.L.length 1 ar] 0 ar)::(i,.rows dp x.L x.fz)::blkP h (T 1),src:=λx=> [(i,1005)],md:= [bOf (T 5),cOfP h (T 5)],ih:=i+1,M:=i+60,meas:=λx=>x.r}
noncomputable def Fpr:Fns thy:=addL (addS (addS (addS (addS F0 36 Zmu) 38 Ymx) 34 Z6f) 37 Spc) 9 7 Apr E
abbrev qCW1(I:Cls):=(bY (aJ (aE I)) (cd (aE I)) (bC (aE I)) (bD (aE I)) (bE (aE I)) (bF (aE I)) (bx (aE I)))
abbrev qCW5:=0
abbrev qCW2(I:PcX):=(aw (aa (PcX.L I)+1) (cy qCW5 (aw (aa (PcX.L I)) (PcX.L I)++ [[125]])))
abbrev qCW3(I:Tar):=(↑(aa (au I)):Int)
abbrev qCW4(I:Tar):=(au I=au I/\(ab=ac->ab=ac))
abbrev qCW6(I:PcX):=(↑(PcX.k I):Int)
theorem Z0u(t:Tar) (s:List Nat) (e:Int):Zk E Fpr (vc E Fpr 400) 9 [.agg (encF ab .tariffs t)] hp0 0 (λr=>ret E (patch hp0 0 r) r.v (.tup [.str ab s,.int ab .i64 e]))=(
 ((∀(c:Cls),c∈au t->cZ (aE c)+1<=1000000000000/\aa (aY c)+1<=1000000000000)/\aa (au t)+1<=1000000000000)/\((Z8 t !=0)=ac-> []=s/\Z8 t=e/\True)/\((Z8 t !=0)=ab->0<=wr af (bG t-1)/\wr af (bG t-1)+1<=(↑(aa (dJ gk)):Int)/\∀(x:List Nat),(dJ gk)[ag (wr af (bG t-1))]? =ae x->∃(R:PcX->Prop),(∃(I:PcX),R I/\ac=ac/\(qCW5=qCW5/\qCW5=qCW5/\(qCW4 t)/\(qCW3 t)=(qCW3 t)/\0=(qCW6 I)/\True)/\((qCW5=qCW5/\5=aa (PcX.L I)/\True)/\True)/\([[116,97,114,105,102,102],bP t,[102,111,114],x,[123]]=PcX.L I/\qCW5=PcX.fz I)/\(bP t=bP t/\bG t=bG t/\(qCW4 t)/\True)/\True)/\∀(x:PcX),R x->(decide ((qCW6 x)<(qCW3 t))=ac->0<=(qCW6 x)/\(qCW6 x)+1<=(qCW3 t)/\∀(I:Cls),(au t)[ag (qCW6 x)]? =ae I->(aa (PcX.L x)=aa (PcX.L x)/\PcX.fz x<=aa (PcX.L x)/\Wv (fb (aP I) (aY I) (qCW1 I))=ac/\cZ (qCW1 I)+1<=1000000000/\1<=aa (PcX.L x)/\aa (PcX.L x)+8*cZ (qCW1 I)+6*aa (aY I)+20<=1000000000)/\∀(U:List (List Nat)),U=PcX.L x++txC (fb (aP I) (aY I) (qCW1 I))->∃(J:PcX),R J/\J.2+1<=x.2/\ac=ac/\(qCW5=qCW5/\qCW5=qCW5/\(qCW4 t)/\(qCW3 t)=(qCW3 t)/\wr af ((qCW6 x)+1)=(qCW6 J)/\True)/\((qCW5=qCW5/\aa U=aa (PcX.L J)/\True)/\True)/\(U=PcX.L J/\fzO (ae (PcX.L x,PcX.fz x))=PcX.fz J)/\(bP t=bP t/\bG t=bG t/\(qCW4 t)/\True)/\True)/\(decide ((qCW6 x)<(qCW3 t))=ab->(aa (PcX.L x)<=aa (PcX.L x)/\PcX.fz x<=aa (PcX.L x)/\(aa (PcX.L x)+1)*16<=140737488355328)/\qCW5+(aa (PcX.L x)+1)<=aa (aw (aa (PcX.L x)) (PcX.L x)++ [[125]])/\(([32]= [32]/\aa (qCW2 x)<=1000000000)/\aa (Vx (qCW2 x))<=1000000000)/\∀(y:List Nat),y=Vx (qCW2 x)->(decide ((↑(aa y):Int)>2000)=ac-> []=s/\2=e/\True)/\(decide ((↑(aa y):Int)>2000)=ab->y=s/\0=e/\True)))):=by kernel_rfl
theorem Zxo:∀{s:List Nat} {n m:Int},1<=n->n<=1099511627776->(∀c∈s,isD c=ac)->numL n s=(m,0)->n*10^s.length<=1099511627776
 | [],n,m,_,J,_,_=>by simpa using J
 |c::r,n,m,h1,J,hd,h=>by
  unfold numL at h
  split at h
  ·cases h
  ·rename_i hq
   have I:=hd c (by simp)
   unfold isD at I
   simp only[aq,fK] at I
   have:=Zxo (by omega) (by omega) (λc I=>hd c (by simp[I])) h
   have R:n*10<=10*n+((c:Int)-48):=by omega
   have U:(0:Int)<=10^r.length:=kW (kZ (by decide))
   have h3:=fG R U
   rw[aC,Int.pow_succ,Int.mul_comm (10^r.length) 10,<-Int.mul_assoc]
   omega
theorem Ycl{s:List Nat} (hd:∀c∈s,isD c=ac) (h:(numb s).2=0):s.length<=32:=by
 match s,hd,h with
 | [],_,_=>simp
 |c::r,hd,h=>
  unfold numb at h;split at h
  ·cases h
  ·rename_i hq
   cases r with
   |nil=>simp
   |cons d r=>
    have J:c≠48:=λe=>hq ⟨by simp,by rw[e];rfl⟩;have R:=hd c (by simp);unfold isD at R;simp only[aq,fK] at R;unfold numL at h;rw[jG (by omega)] at h;have U:numL (10*0+((c:Int)-48)) (d::r)=((numL (10*0+((c:Int)-48)) (d::r)).1,0):=Prod.ext rfl h;have:=Zxo (by omega) (by omega) (λc J=>hd c (by simp[J])) U;have hp:(0:Int)<=10^(d::r).length:=kW (kZ (by decide));have h3:1*10^(d::r).length<=(10*0+((c:Int)-48))*10^(d::r).length:=fG (by omega) hp;rcases fD (d::r).length 13 with I|I
    ·simp at I⊢;omega
    ·have h4:(10:Nat)^13<=10^(d::r).length:=gQ (by decide) I
     have h5:((10^(d::r).length:Nat):Int)=10^(d::r).length:=by norm_cast
     have h6:((10^13:Nat):Int)<=((10^(d::r).length:Nat):Int):=Int.ofNat_le.2 h4;rw[h5] at h6;have h7:((10^13:Nat):Int)=10000000000000:=rfl;omega
theorem Yjb{c:Nat} {w:List Nat} (h:sgnW c=ae w):w.length<=2:=by
 unfold sgnW at h
 repeat(split at h; · cases h;decide)
 cases h
theorem TokW.len{w:List Nat} (h:TokW w):w.length<=32:=by
 obtain⟨J,I,h3⟩:=h;obtain⟨c,r,rfl⟩:=List.exists_cons_of_ne_nil h3;rw[Y7] at J I;split at J
 ·rename_i R
  rw[jQ R] at I;split at J
  ·cases J
  ·rename_i U
   rw[jG U] at I;have I:=km aa I;rw[bj] at I;omega
 ·rename_i R
  rw[jG R] at I;split at J
  ·rename_i hd
   rw[jQ hd] at I;have I:(c::r).take (spn isD (c::r))=c::r:=I;have J:(numb ((c::r).take (spn isD (c::r)))).2=0:=J;rw[I] at J;exact Ycl (λx hx=>by rw[<-I] at hx;exact Znt hx) J
  ·rename_i hd
   rw[jG hd] at I;split at J
   ·rename_i w hw
    rw[hw] at I;unfold tokS at J I;split at J
    ·rename_i U
     dsimp only at I;rw[jQ U] at I;have I:w=c::r:=I;rw[<-I];have:=Yjb hw;omega
    ·cases J
   ·cases J
theorem Zrf:∀{ws:List (List Nat)} {m:Nat},(∀w∈ws,w.length<=m)->(Vx ws).length<=(m+1)*ws.length
 | [],m,_=>by simp[Vx]
 | [w],m,h=>by
  have:=h w (by simp)
  simp only[Vx,aC,bh]
  omega
 |w::x::r,m,h=>by
  have J:=Zrf (ws:=x::r) (m:=m) (λy I=>h y (by simp at I⊢;exact .inr I))
  have:=h w (by simp)
  rw[Zkr (by simp),aB,aC]
  have e:(m+1)*(w::x::r).length=(m+1)*(x::r).length+(m+1):=by rw[aC,la,jw]
  omega
theorem Yjc(c:Cls):(txC c).length<=8*c.pay.sz+6*c.when_.length+4:=by
 have I:=Xu c.pay;have J:=Zn3 c.when_ 0;unfold txC;simp only[aC,aB,bh];omega
theorem Zrg:∀(a:List Cls) (c:Cls),txCs (a++ [c])=txCs a++txC c
 | [],c=>by simp[txCs]
 |x::r,c=>by rw[bW];simp only[txCs];rw[Zrg r c,bd]
theorem Zxp:∀{cs:List Cls} {m:Nat},(∀c∈cs,c.pay.sz<=m/\c.when_.length<=8)->(txCs cs).length<=(8*m+52)*cs.length
 | [],m,_=>by simp[txCs]
 |c::r,m,h=>by
  have U:=Zxp (cs:=r) (m:=m) (λx I=>h x (by simp[I]))
  have J:=h c (by simp)
  have R:=Yjc c
  have e:(8*m+52)*(c::r).length=(8*m+52)*r.length+(8*m+52):=by rw[aC,la,jw]
  rw[txCs,aB]
  omega
theorem Zxq:∀{cs:List Cls} {s:List (List Nat)},CsOk s cs->∀c∈cs,Wv c=ac/\c.when_.length<=8
 |c::r,s,h,x,I=>by
  rw[Zpo] at h
  rcases aM.1 I with rfl|I
  ·exact⟨h.1,h.2.2.2.1⟩
  ·exact Zxq h.2.2.2.2.2 x I
def SmT(t:Tar):Prop:=(∀c∈t.clauses,c.pay.sz<=10000/\c.when_.length<1000000000)/\t.clauses.length<1000000000
theorem Ycm:SumOk E 38 Ymx:=Zjn E_ok (Zz E_ok (Zc rfl) λx h=>by
 have:=Z6j x.1 h.1.2 h.2;rw[<-h.1.1] at this
 exact this)
theorem Ymy:FnsOk E Fpr:=Zm E_ok (Zb (Zb (Zb (Zb F0_ok Zfs) Ycm) Zqr) Ymw) _ _ _
theorem Z0v(t:Tar) (h:SmT t):PureC E 9 [.agg (encF ab .tariffs t)] (.tup [.str ab (W6 t).1,.int ab .i64 (W6 t).2]):=by
 refine Za E_ok (Zd E_ok Ymy 400) ?_;rw[Z0u];delta qCW1 qCW5 qCW2 qCW3 qCW4 qCW6;obtain⟨U,h2⟩:=h;have L:gk.words.length=6:=rfl;simp only[ir,gg,fzO,aU,Cls.eta,ia,kD,hJ,fR,ne_eq,and_true,true_and,ko,fK,fC];refine⟨⟨λc I=>⟨by have:=(U c I).1;omega,by have:=(U c I).2;omega⟩,by omega⟩,λhn=> ?_,λhz=> ?_⟩
 ·rw[Zzx hn];exact⟨rfl,rfl⟩
 ·obtain⟨c1,c2,c3,c4,c5,c6⟩:=(Zai t).1 hz
  have hw:wr af (t.for_-1)=t.for_-1:=wr64 (by omega) (by omega);rw[hw];refine⟨by omega,by rw[L];omega,λx hx=> ?_⟩;have a0:=Zxq c6;have hm:∀c∈t.clauses,c.pay.sz<=10000/\c.when_.length<=8:=λc I=>⟨(U c I).1,(a0 c I).2⟩;have a2:∀k,(txCs (t.clauses.take k)).length<=80052*64:=λk=>by
   have a:=Zxp (cs:=t.clauses.take k) (m:=10000) (λc I=>hm c (List.mem_of_mem_take I));have b:(t.clauses.take k).length<=64:=by rw[bj];omega
   have e:(8*10000+52)*(t.clauses.take k).length<=(8*10000+52)*64:=Nat.mul_le_mul_left _ b;omega
  have a3:gk.words.getD (t.for_-1).toNat []=x:=by rw[bL,hx];rfl
  refine⟨λy=>y.k<=t.clauses.length/\y.fz=0/\y.L= [[116,97,114,105,102,102],t.name,[102,111,114],x,[123]]++txCs (t.clauses.take y.k)/\y.r=t.clauses.length-y.k,⟨⟨0,t.clauses.length,[[116,97,114,105,102,102],t.name,[102,111,114],x,[123]],0⟩,⟨(by dsimp only;omega),rfl,by simp[txCs],rfl⟩,rfl,rfl,rfl,rfl⟩,?_⟩;rintro⟨k,r,Lx,fx⟩ ⟨k1,k2,J,k4⟩;simp only at k1 k2 J k4⊢;subst k2 k4;have hL:Lx.length=5+(txCs (t.clauses.take k)).length:=by rw[J];simp;omega
  have a4:=a2 k;refine aD (λhq=>⟨by omega,by omega,λc I=> ?_⟩) (λhq=> ?_)
  ·have I:t.clauses[k]? =ae c:=I
   have hq:k<t.clauses.length:=by omega
   have a1:=aI I;have b1:=hm c a1;have b2:=a0 c a1;have e:Lx++txC c= [[116,97,114,105,102,102],t.name,[102,111,114],x,[123]]++txCs (t.clauses.take (k+1)):=by
    have R:t.clauses.take (k+1)=t.clauses.take k++ [c]:=by rw[cD,I];rfl
    rw[J,R,Zrg,bd]
   refine⟨⟨by omega,b2.1,by omega,by omega,by omega⟩,⟨k+1,t.clauses.length-(k+1),Lx++txC c,0⟩,⟨hq,rfl,e,rfl⟩,(by dsimp only;omega),(wr64 (by omega) (by omega)).trans (by dsimp only;omega),rfl,rfl,rfl⟩
  ·have R:k=t.clauses.length:=by omega
   have e:Lx++ [[125]]=Zax t:=by
    rw[J,R,aU];unfold Zax;rw[a3];simp[Zhj,sFor,sLb,sRb]
   have e1:aw (Lx.length+1) (cy 0 (Lx++ [[125]]))=Zax t:=by
    rw[ee,bg (by simp),e]
   rw[e1];have e2:(Zax t).length=Lx.length+1:=by rw[<-e];simp
   have hj:=Zrf (ws:=Zax t) (m:=32) (λw hw=>(Zwv hz w hw).len);unfold W6;rw[jG (by rw[hz];simp)];refine⟨⟨av _,by omega,by omega⟩,by rw[aB];simp,⟨by omega,by omega⟩,λh=> ?_,λh=> ?_⟩
   ·rw[jQ (by omega)];exact⟨rfl,rfl⟩
   ·rw[jG (by omega)];exact⟨rfl,rfl⟩
end
end Go.Proofs.YtbkgpcknakidkaaGreatDoor
