/- Merged texts: TvUa, TvUb, TvUc, TvL, TvK, TvBr, TvBk, TvTa, TvTb, TvUd, TvUe, TvUf, TvTop2, DvTop, DvTopC, TvUg, TvUo, TvUh, TvUi, TvNp, DvP, EngZQ, EngZR, EngZS, DvA, EngZT, DvB, EngZU. -/
import Derived.Clock
import Derived.OrdersIn
import Derived.TacticsIn
import Derived.RangeFuncLeaves
import Derived.RangeFuncOwn
import Derived.Test.YtahcfmdfjjjmjaaGreatDoorMd
open And renaming intro->aK
open Array renaming getElem?_eq_getElem->cO,getElem?_eq_some_iff->cq
open BitVec renaming ofInt->bW
open Bool renaming and_eq_false_iff->aX,and_eq_true->az,and_true->bZ,false->ae,false_eq_true->bc,not_eq_false'->bJ,not_eq_true'->bh,or_eq_false_iff->bD,or_eq_true->bw,true->af,true_and->cm,true_eq_false->bu
open Decidable renaming not_not->bV
open Go.BinOp renaming and->dh,or->iI,xor->cW
open Go.Code renaming cond->kV,seq->gH
open Go.Fence renaming wide->cr
open Go.IntKind renaming bits->ak,i64->ac,max->gY,signed->fo,u32->au,u64->aA,u8->ax,wrap->eZ,wrap_u64->dj,wrap_u8->dQ
open Go.Oper renaming semAt_none->kf,wp_mono->iY
open Go.Proofs.YtahcfmdfjjjmjaaGreatDoor.DX renaming D->aC,H->aP,fz->iJ,j->eY,k->dx,m->gL,n->dd
open Go.Proofs.YtahcfmdfjjjmjaaGreatDoor.Opn renaming clause->gp,depth->gR,fuel->iE,pc->jK,rest->cP,status->gn,top->fe
open Go.Proofs.YtahcfmdfjjjmjaaGreatDoor.Th renaming bys->cu,byss->ke,ins->iC,ints->gG,vals->eQ
open Go.Proofs.YtahcfmdfjjjmjaaGreatDoor.Val renaming b->cQ,k->cI,l->cM,mk->bd,n->cY,sz->kz
open Go.Value renaming slice->bI
open Go.World renaming alloc_heap_new->jl,putObj_heap_other->dm,putObj_heap_same->ey
open Go.laidMetH renaming filter->gZ
open Int renaming fdiv->aB,ofNat_eq_natCast->bi,tmod->gK,toNat->ag,toNat_natCast->bB
open List renaming append_nil->dW,drop->aV,drop_eq_getElem_cons->cA,flatten->eE,foldl_append->dZ,foldl_cons->kc,getD->aa,getD_eq_getElem?_getD->aI,getElem?_eq_getElem->aq,getElem?_map->cw,length->ab,length_append->aO,length_cons->aT,length_drop->fh,length_nil->bF,length_take->aW,map_append->fU,mem_append->dJ,mem_cons->bE,mem_cons_of_mem->cx,mem_of_getElem?->cp,mem_singleton->jJ,range->cy,range_succ->fp,replicate->aS,set->eG,take->aj,take_append_drop->dz,take_length->aM,take_of_length_le->aN
open Nat renaming beq->bf,ble->cn,ble_eq->bx,le_refl->aE,le_trans->bY,lt_of_lt_of_le->cC,not_lt_zero->iU,sub_self->dS,zero_le->bg
open Option renaming map_eq_some_iff->ck,none->aD,some->ah
open Option.some renaming inj->aU
open Prod renaming fst->ay,snd->aJ
namespace Go.Proofs.YtahcfmdfjjjmjaaGreatDoor
set_option linter.unusedVariables false
set_option linter.unusedSimpArgs false
set_option linter.unnecessarySimpa false
set_option maxRecDepth 100000
section
open Go
def Ybr:Fr thy->Hp thy->Nat->Ann thy:=λT h i=>{X:=DX,fr:=λx=> [(0,.int ae .u64 x.j),(2,.int ae .i64 x.k)],bl:=λx=> [],src:=λ_=> [],md:= [],ih:=i,M:=i+10,meas:=λx=>x.r}
noncomputable def Z5e:Fns thy:=addL F0 220 1 Ybr E
theorem Z0h:FnsOk E Z5e:=Zn E_ok F0_ok _ _ _
theorem Zuq(u:Int) (k:Int):Zk E Z5e (vc E Z5e 400) 220 [.int ae .u64 u] hp0 0 (λr=>ret E (patch hp0 0 r) r.v (.int ae .i64 k))=(
∃(R:DX->Prop),(∃(x:DX),R x/\af=af/\(u=eY x/\0=(↑(dx x):Int)/\True)/\True)/\∀(x:DX),R x->(decide (eY x>0)=af->∃(j:DX),R j/\j.2+1<=x.2/\af=af/\(aB (eY x) (2^min (ag 8) (ak aA))=eY j/\wr ac ((↑(dx x):Int)+1)=(↑(dx j):Int)/\True)/\True)/\(decide (eY x>0)=ae->(↑(dx x):Int)=k)):=by kernel_rfl
theorem shr8(x:Int):aB x (2^min (ag 8) (ak aA))=x/256:=by
 show aB x 256=_;rw[Int.fdiv_eq_ediv_of_nonneg _ (by omega)]
theorem Zur(u:Int) (j:0<=u) (I:u<18446744073709551616):PureC E 220 [.int ae .u64 u] (.int ae .i64 (nbN u.toNat:Int)):=by
 refine Za E_ok (Zb E_ok Z0h 400) ?_;rw[Zuq];simp only[Zz,Zs,Ys,Yt,Yu,gF,gM,fV,fX,fw,fk,bw,bD,bh,bJ,az,bZ,cm,aX,ib,Zx,Z4,ne_eq,and_true,true_and,bu,bc,false_or,or_false,jn,bi,il,iF,bV,shr8];have J:=Zfg 8 u.toNat (by omega)
 refine⟨λx=>0<=x.j/\x.k+nbN x.j.toNat=nbN u.toNat/\x.r=nbN x.j.toNat,⟨⟨0,nbN u.toNat,[],[],0,0,0,u⟩,⟨j,by simp,rfl⟩,rfl,rfl⟩,?_⟩;rintro x ⟨x0,t,R⟩;refine aK (λh=> ?_) (λh=> ?_)
 ·have e:nbN x.j.toNat=nbN (x.j/256).toNat+1:=by
   rw[Zin (by omega)]
   congr 2
   omega
  exact⟨⟨x.k+1,nbN (x.j/256).toNat,[],[],0,0,0,x.j/256⟩,⟨by show 0<=x.j/256;omega,by show x.k+1+nbN (x.j/256).toNat=_;omega,rfl⟩,by show nbN (x.j/256).toNat+1<=x.r;omega,rfl,wr64 (by omega) (by omega)⟩
 ·have e:x.j.toNat=0:=by omega
  rw[e,Zca] at t;omega
def Aint:Fr thy->Hp thy->Nat->Ann thy:=λT h i=>{X:=DX,fr:=λx=> [(0,.sl i 0 x.D.length 1 aD),(1,T 1),(6,T 6),(30,T 30),(31,.int ae .i64 x.k)],bl:=λx=>blkA h (T 0) i cu x.D,src:=λ_=> [(i,0)],md:= [bOf (T 0)],ih:=i+1,M:=i+40,meas:=λx=>x.r}
noncomputable def Z9j:Sum thy:=sumP (.cons (dInt (E:=E) .u64) .nil) (λx=>0<=x.1/\x.1<18446744073709551616) λx=> .int ae .i64 (nbN x.1.toNat:Int)
noncomputable def Fint:Fns thy:=addL (addS F0 220 Z9j) 177 9 Aint E
abbrev qBM3:=(if fo aA=af then(-1:Int) else gY aA)
abbrev qBM1(j:Int):=(↑(nbN (ag (Zo cW aA qBM3 (wr aA j)))):Int)
abbrev qBM2(j:Int):=(↑(nbN (ag (wr aA j))):Int)
abbrev qBM4(j:DX):=(↑(dx j):Int)
abbrev qBM6:=(1:Nat)
abbrev qBM5(j:DX) (t:Nat):=(ab (aC j)<=ab (aC j)/\t<=ab (aC j)/\(ab (aC j)+qBM6)*qBM6<=(140737488355328:Nat))
abbrev qBM7(j:DX) (t:DX):=((0:Nat)=(0:Nat)/\ab (aC j)+qBM6=ab (aC t)/\True)
theorem Z0i(n:Int) (l:List Int) (len j:Nat):Zk E Fint (vc E Fint 400) 177 (.sl 0 0 len (E.w cu) aD:: [.int ae .i64 n]) (hp1 cu l j) 1 (appK E cu l len j (encI n))=(
 (0<=wr aA n/\wr aA n+(1:Int)<=18446744073709551616)/\(decide (n<0)=af->(0<=Zo cW aA qBM3 (wr aA n)/\Zo cW aA qBM3 (wr aA n)+(1:Int)<=18446744073709551616)/\(len<=ab l/\j<=len/\(len+qBM6)*qBM6<=140737488355328)/\∃(R:DX->Prop),(∃(x:DX),R x/\af=af/\((0=0/\len+qBM6=ab (aC x)/\True)/\n=n/\(qBM1 n)=(qBM1 n)/\(qBM1 n)=(qBM1 n)/\0=(qBM4 x)/\True)/\(aj len l++ [wr ax (wr ac (31-(qBM1 n)))]=aC x/\j=j)/\True)/\∀(x:DX),R x->(decide ((qBM4 x)<(qBM1 n))=af->0<=wr ac (8*wr ac (wr ac ((qBM1 n)-1)-(qBM4 x)))/\(qBM5 x j)/\∃(t:DX),R t/\t.2+qBM6<=x.2/\af=af/\((qBM7 x t)/\n=n/\(qBM1 n)=(qBM1 n)/\(qBM1 n)=(qBM1 n)/\wr ac ((qBM4 x)+1)=(qBM4 t)/\True)/\(aj (ab (aC x)) (aC x)++ [wr ax (aB (wr aA n) (2^min (ag (wr ac (8*wr ac (wr ac ((qBM1 n)-1)-(qBM4 x))))) (ak aA)))]=aC t/\j=j)/\True)/\(decide ((qBM4 x)<(qBM1 n))=ae->aC x=aj len l++encI n/\ab (aC x)=len+ab (encI n)/\j=j))/\(decide (n<0)=ae->(len<=ab l/\j<=len/\(len+qBM6)*qBM6<=140737488355328)/\∃(R:DX->Prop),(∃(x:DX),R x/\af=af/\((0=0/\len+qBM6=ab (aC x)/\True)/\n=n/\(qBM2 n)=(qBM2 n)/\(qBM2 n)=(qBM2 n)/\0=(qBM4 x)/\True)/\(aj len l++ [wr ax (wr ac (32+(qBM2 n)))]=aC x/\j=j)/\True)/\∀(x:DX),R x->(decide ((qBM4 x)<(qBM2 n))=af->0<=wr ac (8*wr ac (wr ac ((qBM2 n)-1)-(qBM4 x)))/\(qBM5 x j)/\∃(t:DX),R t/\t.2+qBM6<=x.2/\af=af/\((qBM7 x t)/\n=n/\(qBM2 n)=(qBM2 n)/\(qBM2 n)=(qBM2 n)/\wr ac ((qBM4 x)+1)=(qBM4 t)/\True)/\(aj (ab (aC x)) (aC x)++ [wr ax (aB (wr aA n) (2^min (ag (wr ac (8*wr ac (wr ac ((qBM2 n)-1)-(qBM4 x))))) (ak aA)))]=aC t/\j=j)/\True)/\(decide ((qBM4 x)<(qBM2 n))=ae->aC x=aj len l++encI n/\ab (aC x)=len+ab (encI n)/\j=j))):=by kernel_rfl
theorem Z0j:SumOk E 220 Z9j:=Yc E_ok (Ze (f:=220) rfl) λx h=>Zur x.1 h.1 h.2
theorem Zus:FnsOk E Fint:=Zn E_ok (Zc F0_ok Z0j) _ _ _
theorem notU{u:Int} (t:0<=u) (I:u<18446744073709551616):Zo cW aA (if fo aA=af then(-1:Int) else gY aA) u=18446744073709551615-u:=by
 show eZ .u64 (bW 64 18446744073709551615^^^bW 64 u).toNat=_;have j:bW 64 18446744073709551615=BitVec.allOnes 64:=by decide
 rw[j,BitVec.allOnes_xor,BitVec.toNat_not,BitVec.toNat_ofInt,dj];omega
theorem Z5f(n:Int):AppC E 177 cu 1 [.int ae .i64 n] (encI n):=by
 refine Zdg E_ok (Zb E_ok Zus 400) rfl λ(l:List Int) len fz a2 a4 U=> ?_;rw[Z0i];delta qBM3 qBM1 qBM2 qBM4 qBM6 qBM5 qBM7
 replace U:(len+(encI n).length)*1<=140737488355328:=U
 replace a2:len<=l.length:=a2
 rw[Zeb] at U;have hs:=Zio n;have hw:=wru n;refine⟨⟨by omega,by omega⟩,?_⟩;simp only[Zz,Zs,Ys,Yt,Yu,gF,gM,fV,fX,fw,fk,bw,bD,bh,bJ,az,bZ,cm,aX,ib,Zx,Z4,ne_eq,and_true,true_and,bu,bc,false_or,or_false,jn,bi,il,iF,bV];refine aK (λh=> ?_) (λh=> ?_)
 ·rw[notU hw.1 hw.2]
  refine⟨by omega,?_⟩;have R:nbN (18446744073709551615-wr .u64 n).toNat=X2 n:=by unfold X2;rw[jh h]
  have ht:wr .u8 (wr .i64 (31-(X2 n:Int)))=tagI n:=by unfold tagI;rw[jh h,wr64 (by omega) (by omega)];simp only[wr,dQ];omega
  rw[R,ht];generalize t:X2 n=K at*;refine⟨⟨by omega,by omega,by omega⟩,λx=>∃q,q<=K/\x.k=q/\x.D=l.take len++(tagI n::(cy q).map (intB n K))/\x.r=K-q,⟨⟨0,K,l.take len++ [tagI n],[],0,0,0,0⟩,⟨0,by omega,rfl,rfl,rfl⟩,⟨by simp;omega,rfl⟩,rfl⟩,?_⟩;rintro x ⟨q,hq,a0,j,a3⟩;have a1:x.D.length=len+1+q:=by rw[j];simp;omega
  refine aK (λh=> ?_) (λh=> ?_)
  ·have hK:q<K:=by omega
   have I:wr .i64 (8*wr .i64 (wr .i64 ((K:Int)-1)-(x.k:Int)))=8*((K:Int)-1-(q:Int)):=by rw[wr64 (n:=(K:Int)-1) (by omega) (by omega),a0,wr64 (n:=(K:Int)-1-q) (by omega) (by omega),wr64 (by omega) (by omega)]
   simp only[I];refine⟨by omega,⟨aE _,by omega,by omega⟩,⟨x.k+1,K-(q+1),x.D++ [intB n K q],[],0,0,0,0⟩,⟨q+1,by omega,by show x.k+1=q+1;omega,?_,rfl⟩,by show K-(q+1)+1<=x.r;omega,⟨by simp,wr64 (by omega) (by omega)⟩,by rw[aM];simp[intB,ak]⟩;show x.D++_=_;rw[fp,fU,j];simp
  ·obtain rfl:q=K:=by omega
   have J:encI n=tagI n::(cy q).map (intB n q):=by unfold encI;rw[t]
   exact⟨by rw[j,J],by rw[a1,Zeb,t];omega⟩
 ·have R:nbN (wr .u64 n).toNat=X2 n:=by unfold X2;rw[jb (by omega)]
  have ht:wr .u8 (wr .i64 (32+(X2 n:Int)))=tagI n:=by unfold tagI;rw[jb (by omega),wr64 (by omega) (by omega)];simp only[wr,dQ];omega
  simp only[R,ht];generalize t:X2 n=K at*;refine⟨⟨by omega,by omega,by omega⟩,λx=>∃q,q<=K/\x.k=q/\x.D=l.take len++(tagI n::(cy q).map (intB n K))/\x.r=K-q,⟨⟨0,K,l.take len++ [tagI n],[],0,0,0,0⟩,⟨0,by omega,rfl,rfl,rfl⟩,⟨by simp;omega,rfl⟩,rfl⟩,?_⟩;rintro x ⟨q,hq,a0,j,a3⟩;have a1:x.D.length=len+1+q:=by rw[j];simp;omega
  refine aK (λh=> ?_) (λh=> ?_)
  ·have hK:q<K:=by omega
   have I:wr .i64 (8*wr .i64 (wr .i64 ((K:Int)-1)-(x.k:Int)))=8*((K:Int)-1-(q:Int)):=by rw[wr64 (n:=(K:Int)-1) (by omega) (by omega),a0,wr64 (n:=(K:Int)-1-q) (by omega) (by omega),wr64 (by omega) (by omega)]
   simp only[I];refine⟨by omega,⟨aE _,by omega,by omega⟩,⟨x.k+1,K-(q+1),x.D++ [intB n K q],[],0,0,0,0⟩,⟨q+1,by omega,by show x.k+1=q+1;omega,?_,rfl⟩,by show K-(q+1)+1<=x.r;omega,⟨by simp,wr64 (by omega) (by omega)⟩,by rw[aM];simp[intB,ak]⟩;show x.D++_=_;rw[fp,fU,j];simp
  ·obtain rfl:q=K:=by omega
   have J:encI n=tagI n::(cy q).map (intB n q):=by unfold encI;rw[t]
   exact⟨by rw[j,J],by rw[a1,Zeb,t];omega⟩
end
section
open Go
noncomputable def dVal:DcL E (Val×Unit):= .cons (dR .vals) .nil
noncomputable def Z99(m:Nat):Sum thy:=sumP dVal (λx=>x.1.ht<=m/\OkV x.1) λx=> .tup [.int ae .i64 (Zp x.1).1,.bool ae (Zp x.1).2]
def Yaa:Fr thy->Hp thy->Nat->Ann thy:=λT h i=>{X:=DX,fr:=λx=> [(2,.int ae .i64 x.j),(45,T 45),(46,T 46),(47,.int ae .i64 x.k)],bl:=λx=> [],src:=λ_=> [],md:= [],ih:=i,M:=i+30,meas:=λx=>x.r}
noncomputable def Z4k(m:Nat):Fns thy:=addL (addS F0 140 (Z99 m)) 140 10 Yaa E
abbrev qBN1(j:Val):=(↑(ab (cM j)):Int)
abbrev qBN2(j:Val):=(bd (cI j) (cY j) (cQ j) (cM j))
abbrev qBN3:=(0:Int)
abbrev qBN4(j:Val):=(↑(ab (cQ j)):Int)
abbrev qBN5(j:DX):=(↑(dx j):Int)
theorem Zsk(m:Nat) (v:Val) (d:Int) (b:Bool):Zk E F0 (vc E (Z4k m) 400) 140 [.agg (encF ae .vals v)] hp0 0 (λr=>ret E (patch hp0 0 r) r.v (.tup [.int ae .i64 d,.bool ae b]))=(
 ((cI v==1)=af->(((qBN4 v)==qBN3)=af->(((qBN1 v)==qBN3)=af->qBN3=d/\af=b/\True)/\(((qBN1 v)==qBN3)=ae->qBN3=d/\ae=b/\True))/\(((qBN4 v)==qBN3)=ae->qBN3=d/\ae=b/\True))/\((cI v==1)=ae->((cI v==2)=af->((cY v==qBN3)=af->(((qBN1 v)==qBN3)=af->qBN3=d/\af=b/\True)/\(((qBN1 v)==qBN3)=ae->qBN3=d/\ae=b/\True))/\((cY v==qBN3)=ae->qBN3=d/\ae=b/\True))/\((cI v==2)=ae->((cI v==3)=af->∃(Q:Bool->Prop),(((cY v !=qBN3)=af->Q af)/\((cY v !=qBN3)=ae->(((qBN4 v) !=qBN3)=af->Q af)/\(((qBN4 v) !=qBN3)=ae->Q ae)))/\(Q af->qBN3=d/\ae=b/\True)/\(Q ae->∃(R:DX->Prop),(∃(x:DX),R x/\af=af/\(qBN3=eY x/\(cM v=cM v/\(ae=af->ae=af))/\(qBN1 v)=(qBN1 v)/\qBN3=(qBN5 x)/\True)/\True)/\∀(x:DX),R x->(decide ((qBN5 x)<(qBN1 v))=af->qBN3<=(qBN5 x)/\(qBN5 x)+1<=(qBN1 v)/\∀(j:Val),(cM v)[ag (qBN5 x)]? =ah j->(Val.ht (qBN2 j)<=m/\OkV (qBN2 j))/\((!aJ (Zp (qBN2 j)))=af->qBN3=d/\ae=b/\True)/\((!aJ (Zp (qBN2 j)))=ae->∃(t:DX),R t/\t.2+1<=x.2/\af=af/\(mm2 af (eY x) (ay (Zp (qBN2 j)))=eY t/\(cM v=cM v/\(ae=af->ae=af))/\(qBN1 v)=(qBN1 v)/\wr ac ((qBN5 x)+1)=(qBN5 t)/\True)/\True))/\(decide ((qBN5 x)<(qBN1 v))=ae->wr ac (eY x+1)=d/\af=b/\True)))/\((cI v==3)=ae->qBN3=d/\ae=b/\True)))):=by kernel_rfl
theorem len0{α:Type} {l:List α}:((l.length:Int)=0)↔l= []:=by
 cases l
 ·simp
 ·simp;omega
theorem Zwn: ∀ (m : Nat) (v : Val), v.ht ≤ m → OkV v → PureC E 140 [.agg (encF ae .vals v)] (.tup [.int ae .i64 (Zp v).1, .bool ae (Zp v).2]) := by
 intro m
 induction m with
 | zero => intro v h; rw[Zcb] at h; omega
 | succ m ih =>
  intro v hm hv;have hF : FnsOk E (Z4k m) := Zn E_ok (Zc F0_ok (Yc E_ok (Ze (f := 140) rfl) λx h => ih x.1 h.1 h.2)) _ _ _;refine Za E_ok (Ws E_ok F0_ok λf N c => (Zjv E_ok hF 400 f N c).1) ?_;rw[Zsk]; delta qBN1 qBN2 qBN3 qBN4 qBN5
  simp only[Zz, Zs, Ys, Yt, Yu, gF, gM, fV, fX, fw, fk, bw, bD, bh, bJ, az, bZ, cm, aX, ib, Zx, Z4, ne_eq, and_true, true_and, bu, bc, false_or, or_false, jn, jC, bi, il, iF, bV, Wl, len0];have hl := hv.ln;rw[Zcc]
  refine aK (λI => ?_) (λI => aK (λj => ?_) (λj => aK (λt => ?_) (λt => ?_)))
  ·rw[jh I]
   refine aK (λj => aK (λt => ?_) (λt => ?_)) (λj => ?_) <;> simp[j, *]
  ·rw[jb I, jh j]
   refine aK (λt => aK (λh4 => ?_) (λh4 => ?_)) (λt => ?_) <;> simp[*]
  ·rw[jb I, jb j, jh t]
   refine⟨λb => b = af ↔ (v.n ≠ 0 ∨ v.b ≠ []), ⟨λh => by simp[h], λh => ⟨λh' => by simp[h'], λh' => by simp[h, h']⟩⟩, λU => ?_, λU => ?_⟩
   ·rw[jh (U.1 rfl)]; exact⟨rfl, rfl⟩
   ·rw[jb (λh => by have := U.2 h; simp at this)]
    have a4 : ∀ q, q ≤ v.l.length → 0 ≤ (v.l.take q).foldl (λd v => max d (Zp v).1) 0 ∧ (v.l.take q).foldl (λd v => max d (Zp v).1) 0 ≤ htL v.l := by
     intro q
     induction q with
     | zero => intro _; simp
     | succ q a6 =>
      intro U;have hx := aq (l := v.l) (i := q) (by omega);rw[Ye hx, dZ];have I := a6 (by omega);have j := Zip _ v.l[q] (aE _);have t := Zdj (List.getElem_mem (l := v.l) (n := q) (by omega));simp only[kc, List.foldl_nil];omega
    refine⟨λx => ∃ q, q ≤ v.l.length ∧ x.k = q ∧ (∀ y ∈ v.l.take q, (Zp y).2 = af) ∧ x.j = (v.l.take q).foldl (λd v => max d (Zp v).1) 0 ∧ x.r = v.l.length - q, ⟨⟨0, v.l.length, [], [], 0, 0, 0, 0⟩, ⟨0, by omega, rfl, by simp, rfl, rfl⟩, rfl, rfl⟩, ?_⟩;rintro x ⟨q, a8, a3, a0, a1, a9⟩;refine aK (λh => ⟨by omega, by omega, λy J => ?_⟩) (λh => ?_)
    ·have J : v.l[q]? = ah y := by rw[← a3]; exact J
     have a2 : y ∈ v.l := cp J;have a5 : y.ht ≤ m := by have := Zdj a2; rw[Zcb] at hm; omega
     refine⟨⟨a5, hv.mem a2⟩, λj => ?_, λj => ?_⟩
     ·rw[← dz q v.l, Zg7 _ _ _ a0]
      have hd : v.l.drop q = y :: v.l.drop (q + 1) := by rw[cA (by omega)]; congr 1; have := aq (l := v.l) (i := q) (by omega); rw[J] at this; exact(aU this).symm
      rw[hd, Wz, j];exact⟨rfl, rfl⟩
     ·refine⟨⟨q + 1, v.l.length - (q + 1), [], [], 0, 0, 0, max x.j (Zp y).1⟩, ⟨q + 1, by omega, rfl, ?_, ?_, rfl⟩, by show v.l.length - (q + 1) + 1 ≤ x.r; omega, rfl, ?_⟩
      ·intro z R
       rw[Ye J, dJ] at R;rcases R with R | R
       ·exact a0 z R
       ·rw[jJ.1 R]; exact j
      ·show max x.j (Zp y).1 = _
       rw[Ye J, dZ, ← a1]; rfl
      ·show wr .i64 ((x.k : Int) + 1) = ((q + 1 : Nat) : Int)
       rw[a3, wr64 (by omega) (by omega)]; omega
    ·obtain rfl : q = v.l.length := by omega
     rw[aM] at a0 a1;have hb := a4 v.l.length (aE _);rw[aM, ← a1] at hb;have e := Zg7 v.l [] 0 a0;rw[dW] at e;rw[e, Wz, ← a1];have a7 : htL v.l ≤ 1000000000000 := by
      have := hv.sz;have := Z7i v;rw[Zcb] at this;omega
     rw[wr64 (by omega) (by omega)];exact⟨rfl, rfl⟩
  ·rw[jb I, jb j, jb t]
   exact⟨rfl, rfl⟩
noncomputable def Sint:Sum thy:=sumA E cu 1 (.cons (dInt (E:=E) .i64) .nil) (λ_=>True) λx=>encI x.1
noncomputable def Sval(m:Nat):Sum thy:=sumA E cu 1 dVal (λx=>x.1.ht<=m/\OkV x.1) λx=>encV x.1
def Abyt:Fr thy->Hp thy->Nat->Ann thy:=λT h i=>{X:=DX,fr:=λx=> [(0,.sl i 0 x.D.length 1 aD),(23,T 23),(24,T 24),(25,.int ae .i64 x.k)],bl:=λx=>blkA h (T 0) i cu x.D,src:=λ_=> [(i,0)],md:= [bOf (T 0)],ih:=i+1,M:=i+40,meas:=λx=>x.r}
def Alis:Fr thy->Hp thy->Nat->Ann thy:=λT h i=>{X:=DX,fr:=λx=> [(0,.sl i 0 x.D.length 1 aD),(46,T 46),(47,T 47),(48,.int ae .i64 x.k)],bl:=λx=>blkA h (T 0) i cu x.D,src:=λ_=> [(i,0)],md:= [bOf (T 0)],ih:=i+1,M:=i+40,meas:=λx=>x.r}
noncomputable def Fval(m:Nat):Fns thy:=addL (addL (addS (addS F0 177 Sint) 141 (Sval m)) 141 7 Abyt E) 141 16 Alis E
abbrev qBN6(j:Val):=(↑(ab (cQ j)):Int)
abbrev qBN7(j:Val):=(bd (cI j) (cY j) (cQ j) (cM j))
abbrev qBN8(j:DX):=(↑(dx j):Int)
abbrev qBN9:=(140737488355328:Nat)
abbrev qBNa(j:Val):=(↑(ab (cM j)):Int)
abbrev qBNb:=(1:Nat)
abbrev qBNc:=(ae=af->ae=af)
abbrev qBNd(j:DX) (t:Nat):=(ab (aC j)<=ab (aC j)/\t<=ab (aC j)/\(ab (aC j)+qBNb)*qBNb<=qBN9)
abbrev qBNe(j:DX):=(ab (aC j))
abbrev qBNf:=(0:Nat)
theorem Z1z(m:Nat) (v:Val) (l:List Int) (len j:Nat):Zk E F0 (vc E (Fval m) 400) 141 (.sl 0 0 len (E.w cu) aD:: [.agg (encF ae .vals v)]) (hp1 cu l j) 1 (appK E cu l len j (encV v))=(
 ((cI v==1)=af->True/\(len<=ab l/\j<=len/\(len+ab (encI (cY v)))*qBNb<=qBN9)/\aj len l++encI (cY v)=aj len l++encV v/\len+ab (encI (cY v))=len+ab (encV v)/\j=j)/\((cI v==1)=ae->((cI v==2)=af->(len<=ab l/\j<=len/\(len+qBNb)*qBNb<=qBN9)/\∃(R:DX->Prop),(∃(x:DX),R x/\af=af/\((qBNf=qBNf/\len+qBNb=ab (aC x)/\True)/\(cQ v=cQ v/\qBNc)/\(qBN6 v)=(qBN6 v)/\0=(qBN8 x)/\True)/\(aj len l++ [48]=aC x/\j=j)/\True)/\∀(x:DX),R x->(decide ((qBN8 x)<(qBN6 v))=af->0<=(qBN8 x)/\(qBN8 x)+1<=(qBN6 v)/\∀(I:Int),(cQ v)[ag (qBN8 x)]? =ah I->(qBNd x j)/\((I==0)=af->(ab (aC x)+qBNb<=ab (aj (qBNe x) (aC x)++ [I])/\j<=ab (aC x)+qBNb/\(ab (aC x)+qBNb+qBNb)*qBNb<=qBN9)/\∃(t:DX),R t/\t.2+qBNb<=x.2/\af=af/\((qBNf=qBNf/\ab (aC x)+qBNb+qBNb=ab (aC t)/\True)/\(cQ v=cQ v/\qBNc)/\(qBN6 v)=(qBN6 v)/\wr ac ((qBN8 x)+1)=(qBN8 t)/\True)/\(aj (ab (aC x)+qBNb) (aj (qBNe x) (aC x)++ [I])++ [255]=aC t/\j=j)/\True)/\((I==0)=ae->∃(t:DX),R t/\t.2+qBNb<=x.2/\af=af/\((qBNf=qBNf/\ab (aC x)+qBNb=ab (aC t)/\True)/\(cQ v=cQ v/\qBNc)/\(qBN6 v)=(qBN6 v)/\wr ac ((qBN8 x)+1)=(qBN8 t)/\True)/\(aj (qBNe x) (aC x)++ [I]=aC t/\j=j)/\True))/\(decide ((qBN8 x)<(qBN6 v))=ae->(ab (aC x)<=ab (aC x)/\j<=ab (aC x)/\(ab (aC x)+2)*qBNb<=qBN9)/\aj (qBNe x) (aC x)++ [0,0]=aj len l++encV v/\ab (aC x)+2=len+ab (encV v)/\j=j))/\((cI v==2)=ae->(len<=ab l/\j<=len/\(len+qBNb)*qBNb<=qBN9)/\∃(R:DX->Prop),(∃(x:DX),R x/\af=af/\((qBNf=qBNf/\len+qBNb=ab (aC x)/\True)/\(cM v=cM v/\qBNc)/\(qBNa v)=(qBNa v)/\0=(qBN8 x)/\True)/\(aj len l++ [64]=aC x/\j=j)/\True)/\∀(x:DX),R x->(decide ((qBN8 x)<(qBNa v))=af->0<=(qBN8 x)/\(qBN8 x)+1<=(qBNa v)/\∀(I:Val),(cM v)[ag (qBN8 x)]? =ah I->(Val.ht (qBN7 I)<=m/\OkV (qBN7 I))/\(ab (aC x)<=ab (aC x)/\j<=ab (aC x)/\(ab (aC x)+ab (encV (qBN7 I)))*qBNb<=qBN9)/\∃(t:DX),R t/\t.2+qBNb<=x.2/\af=af/\((qBNf=qBNf/\ab (aC x)+ab (encV (qBN7 I))=ab (aC t)/\True)/\(cM v=cM v/\qBNc)/\(qBNa v)=(qBNa v)/\wr ac ((qBN8 x)+1)=(qBN8 t)/\True)/\(aj (qBNe x) (aC x)++encV (qBN7 I)=aC t/\j=j)/\True)/\(decide ((qBN8 x)<(qBNa v))=ae->(qBNd x j)/\aj (qBNe x) (aC x)++ [0]=aj len l++encV v/\ab (aC x)+qBNb=len+ab (encV v)/\j=j)))):=by kernel_rfl
theorem Zsl(v:Val) (j:OkV v):PureC E 140 [.agg (encF ae .vals v)] (.tup [.int ae .i64 (Zp v).1,.bool ae (Zp v).2]):=Zwn _ v (aE _) j
theorem Zwo:SumOk E 177 Sint:=Zms E_ok (Ze (f:=177) rfl) λx _=>Z5f x.1
theorem Z6l:∀(m:Nat) (v:Val),v.ht<=m->OkV v->AppC E 141 cu 1 [.agg (encF ae .vals v)] (encV v):=by
 intro m
 induction m with
 |zero=>intro v h;rw[Zcb] at h;omega
 |succ m ih=>
  intro v hm hv;have hF:FnsOk E (Fval m):=Zn E_ok (Zn E_ok (Zc (Zc F0_ok Zwo) (Zms E_ok (Ze (f:=141) rfl) λx h=>ih x.1 h.1 h.2)) _ _ _) _ _ _;refine Zdg E_ok (Ws E_ok F0_ok λf N c=>(Zjv E_ok hF 400 f N c).1) rfl λ(l:List Int) len fz a0 a4 I=> ?_;rw[Z1z];delta qBN6 qBN7 qBN8 qBN9 qBNa qBNb qBNc qBNd qBNe qBNf
  replace I:(len+(encV v).length)*1<=140737488355328:=I
  replace a0:len<=l.length:=a0
  simp only[Zz,Zs,Ys,Yt,Yu,gF,gM,fV,fX,fw,fk,bw,bD,bh,bJ,az,bZ,cm,aX,ib,Zx,Z4,ne_eq,and_true,true_and,bu,bc,false_or,or_false,jn,jC,bi,il,iF,bV,Wl];have hl:=hv.ln;have hb:=hv.bn;rw[Zag] at I;rw[Zag]
  refine aK (λR=> ?_) (λR=>aK (λU=> ?_) (λU=> ?_))
  ·rw[jh R] at I
   rw[jh R];exact⟨⟨a0,a4,I⟩,rfl,rfl⟩
  ·rw[jb R,jh U] at I
   rw[jb R,jh U];simp only[aO,aT,bF] at I;refine⟨⟨a0,a4,by omega⟩,λx=>∃q,q<=v.b.length/\x.k=q/\x.D=l.take len++(48::escB (v.b.take q))/\x.r=v.b.length-q,⟨⟨0,v.b.length,l.take len++ [48],[],0,0,0,0⟩,⟨0,by omega,rfl,rfl,rfl⟩,⟨by simp;omega,rfl⟩,rfl⟩,?_⟩;rintro x ⟨q,a7,a1,t,a8⟩;have J:(escB v.b).length=(escB (v.b.take q)).length+(escB (v.b.drop q)).length:=by rw[<-aO,<-Wo,dz]
   have a2:x.D.length=len+1+(escB (v.b.take q)).length:=by rw[t];simp;omega
   refine aK (λh=>⟨by omega,by omega,λy j=> ?_⟩) (λh=> ?_)
   ·have j:v.b[q]? =ah y:=by rw[<-a1];exact j
    have hd:v.b.drop q=y::v.b.drop (q+1):=by rw[cA (by omega)];congr 1;have:=aq (l:=v.b) (i:=q) (by omega);rw[j] at this;exact(aU this).symm
    rw[hd] at J;have a3:wr .i64 ((x.k:Int)+1)=((q+1:Nat):Int):=by rw[a1,wr64 (by omega) (by omega)];omega
    refine⟨⟨aE _,by omega,?_⟩,λh0=> ?_,λh0=> ?_⟩
    ·rw[escB] at J;split at J<;>simp at J<;>omega
    ·rw[escB,jh h0] at J
     simp only[aT] at J;refine⟨⟨by simp,by omega,by omega⟩,⟨q+1,v.b.length-(q+1),x.D++ [y,255],[],0,0,0,0⟩,⟨q+1,by omega,rfl,?_,rfl⟩,by show v.b.length-(q+1)+1<=x.r;omega,⟨by simp,a3⟩,by rw[aM,aN (by simp)];simp⟩;show x.D++ [y,255]=_;rw[Ye j,Wo,t];simp[escB,h0]
    ·refine⟨⟨q+1,v.b.length-(q+1),x.D++ [y],[],0,0,0,0⟩,⟨q+1,by omega,rfl,?_,rfl⟩,by show v.b.length-(q+1)+1<=x.r;omega,⟨by simp,a3⟩,by rw[aM]⟩
     show x.D++ [y]=_;rw[Ye j,Wo,t];simp[escB,h0]
   ·obtain rfl:q=v.b.length:=by omega
    rw[aM] at t a2;refine⟨⟨aE _,by omega,by omega⟩,?_,?_⟩
    ·rw[aM,t];simp
    ·rw[a2];simp;omega
  ·rw[jb R,jb U] at I
   rw[jb R,jb U];simp only[aO,aT,bF] at I;refine⟨⟨a0,a4,by omega⟩,λx=>∃q,q<=v.l.length/\x.k=q/\x.D=l.take len++(64::encL (v.l.take q))/\x.r=v.l.length-q,⟨⟨0,v.l.length,l.take len++ [64],[],0,0,0,0⟩,⟨0,by omega,rfl,rfl,rfl⟩,⟨by simp;omega,rfl⟩,rfl⟩,?_⟩;rintro x ⟨q,a7,a1,t,a8⟩;have J:(encL v.l).length=(encL (v.l.take q)).length+(encL (v.l.drop q)).length:=by rw[<-aO,<-Zaf,dz]
   have a2:x.D.length=len+1+(encL (v.l.take q)).length:=by rw[t];simp;omega
   refine aK (λh=>⟨by omega,by omega,λy j=> ?_⟩) (λh=> ?_)
   ·have j:v.l[q]? =ah y:=by rw[<-a1];exact j
    have a5:y∈v.l:=cp j;have hd:v.l.drop q=y::v.l.drop (q+1):=by rw[cA (by omega)];congr 1;have:=aq (l:=v.l) (i:=q) (by omega);rw[j] at this;exact(aU this).symm
    rw[hd,encL,aO] at J;have a3:wr .i64 ((x.k:Int)+1)=((q+1:Nat):Int):=by rw[a1,wr64 (by omega) (by omega)];omega
    have a6:y.ht<=m:=by have:=Zdj a5;rw[Zcb] at hm;omega
    refine⟨⟨a6,hv.mem a5⟩,⟨aE _,by omega,by omega⟩,⟨q+1,v.l.length-(q+1),x.D++encV y,[],0,0,0,0⟩,⟨q+1,by omega,rfl,?_,rfl⟩,by show v.l.length-(q+1)+1<=x.r;omega,⟨by simp,a3⟩,by rw[aM]⟩;show x.D++encV y=_;rw[Ye j,Zaf,t];simp[encL]
   ·obtain rfl:q=v.l.length:=by omega
    rw[aM] at t a2;refine⟨⟨aE _,by omega,by omega⟩,?_,?_⟩
    ·rw[aM,t];simp
    ·rw[a2];simp;omega
theorem Z6m(v:Val) (j:OkV v):AppC E 141 cu 1 [.agg (encF ae .vals v)] (encV v):=Z6l _ v (aE _) j
end
section
open Go
abbrev qBO3:=(if fo aA=af then(-1:Int) else gY aA)
abbrev qBO1(j:Int):=(↑(nbN (ag (Zo cW aA qBO3 (wr aA j)))):Int)
abbrev qBO2(j:Int):=(↑(nbN (ag (wr aA j))):Int)
abbrev qBO6:=(0:Nat)
abbrev qBO4(j:DX):=(ab (aC j)<=ab (aC j)/\qBO6<=ab (aC j)/\(ab (aC j)+(1:Nat))*(1:Nat)<=(140737488355328:Nat))
abbrev qBO5(j:DX):=(↑(dx j):Int)
theorem Zwz(n:Int) (b:List Int):Zk E F0 (vc E Fint 400) 177 [.val (.slice aD 0 0),.int ae .i64 n] hp0 0 (λr=>ret E (patch hp0 0 r) r.v (.psl cu b ae))=(
 (0<=wr aA n/\wr aA n+(1:Int)<=18446744073709551616)/\(decide (n<0)=af->(0<=Zo cW aA qBO3 (wr aA n)/\Zo cW aA qBO3 (wr aA n)+(1:Int)<=18446744073709551616)/\∃(R:DX->Prop),(∃(x:DX),R x/\af=af/\((qBO6=qBO6/\1=ab (aC x)/\True)/\n=n/\(qBO1 n)=(qBO1 n)/\(qBO1 n)=(qBO1 n)/\0=(qBO5 x)/\True)/\([wr ax (wr ac (31-(qBO1 n)))]=aC x/\qBO6=qBO6)/\True)/\∀(x:DX),R x->(decide ((qBO5 x)<(qBO1 n))=af->0<=wr ac (8*wr ac (wr ac ((qBO1 n)-1)-(qBO5 x)))/\(qBO4 x)/\∃(j:DX),R j/\j.2+1<=x.2/\af=af/\((qBO6=qBO6/\ab (aC x)+1=ab (aC j)/\True)/\n=n/\(qBO1 n)=(qBO1 n)/\(qBO1 n)=(qBO1 n)/\wr ac ((qBO5 x)+1)=(qBO5 j)/\True)/\(aj (ab (aC x)) (aC x)++ [wr ax (aB (wr aA n) (2^min (ag (wr ac (8*wr ac (wr ac ((qBO1 n)-1)-(qBO5 x))))) (ak aA)))]=aC j/\qBO6=qBO6)/\True)/\(decide ((qBO5 x)<(qBO1 n))=ae->qBO6+ab (aC x)<=ab (aC x)/\aj (ab (aC x)) (aC x)=b))/\(decide (n<0)=ae->∃(R:DX->Prop),(∃(x:DX),R x/\af=af/\((qBO6=qBO6/\1=ab (aC x)/\True)/\n=n/\(qBO2 n)=(qBO2 n)/\(qBO2 n)=(qBO2 n)/\0=(qBO5 x)/\True)/\([wr ax (wr ac (32+(qBO2 n)))]=aC x/\qBO6=qBO6)/\True)/\∀(x:DX),R x->(decide ((qBO5 x)<(qBO2 n))=af->0<=wr ac (8*wr ac (wr ac ((qBO2 n)-1)-(qBO5 x)))/\(qBO4 x)/\∃(j:DX),R j/\j.2+1<=x.2/\af=af/\((qBO6=qBO6/\ab (aC x)+1=ab (aC j)/\True)/\n=n/\(qBO2 n)=(qBO2 n)/\(qBO2 n)=(qBO2 n)/\wr ac ((qBO5 x)+1)=(qBO5 j)/\True)/\(aj (ab (aC x)) (aC x)++ [wr ax (aB (wr aA n) (2^min (ag (wr ac (8*wr ac (wr ac ((qBO2 n)-1)-(qBO5 x))))) (ak aA)))]=aC j/\qBO6=qBO6)/\True)/\(decide ((qBO5 x)<(qBO2 n))=ae->qBO6+ab (aC x)<=ab (aC x)/\aj (ab (aC x)) (aC x)=b))):=by kernel_rfl
theorem Z6o(n:Int):PureC E 177 [.val (.slice aD 0 0),.int ae .i64 n] (.psl cu (encI n) ae):=by
 refine Za E_ok (Ws E_ok F0_ok λf N c=>(Zjv E_ok Zus 400 f N c).1) ?_;rw[Zwz];delta qBO3 qBO1 qBO2 qBO6 qBO4 qBO5;have hs:=Zio n;have hw:=wru n;refine⟨⟨by omega,by omega⟩,?_⟩
 simp only[Zz,Zs,Ys,Yt,Yu,gF,gM,fV,fX,fw,fk,bw,bD,bh,bJ,az,bZ,cm,aX,ib,Zx,Z4,ne_eq,and_true,true_and,bu,bc,false_or,or_false,jn,bi,il,iF,bV];refine aK (λh=> ?_) (λh=> ?_)
 ·rw[notU hw.1 hw.2]
  refine⟨by omega,?_⟩;have J:nbN (18446744073709551615-wr .u64 n).toNat=X2 n:=by unfold X2;rw[jh h]
  have ht:wr .u8 (wr .i64 (31-(X2 n:Int)))=tagI n:=by unfold tagI;rw[jh h,wr64 (by omega) (by omega)];simp only[wr,dQ];omega
  rw[J,ht];generalize R:X2 n=K at*;refine⟨λx=>∃q,q<=K/\x.k=q/\x.D=(tagI n::(cy q).map (intB n K))/\x.r=K-q,⟨⟨0,K,[tagI n],[],0,0,0,0⟩,⟨0,by omega,rfl,rfl,rfl⟩,⟨rfl,rfl⟩,rfl⟩,?_⟩;rintro x ⟨q,hq,U,j,a1⟩;have a0:x.D.length=1+q:=by rw[j];simp;omega
  refine aK (λh=> ?_) (λh=> ?_)
  ·have hK:q<K:=by omega
   have t:wr .i64 (8*wr .i64 (wr .i64 ((K:Int)-1)-(x.k:Int)))=8*((K:Int)-1-(q:Int)):=by rw[wr64 (n:=(K:Int)-1) (by omega) (by omega),U,wr64 (n:=(K:Int)-1-q) (by omega) (by omega),wr64 (by omega) (by omega)]
   simp only[t];refine⟨by omega,⟨aE _,by omega,by omega⟩,⟨x.k+1,K-(q+1),x.D++ [intB n K q],[],0,0,0,0⟩,⟨q+1,by omega,by show x.k+1=q+1;omega,?_,rfl⟩,by show K-(q+1)+1<=x.r;omega,⟨by simp,wr64 (by omega) (by omega)⟩,by rw[aM];simp[intB,ak]⟩;show x.D++_=_;rw[fp,fU,j];simp
  ·obtain rfl:q=K:=by omega
   have I:encI n=tagI n::(cy q).map (intB n q):=by unfold encI;rw[R]
   exact⟨by omega,by rw[aM,j,I]⟩
 ·have J:nbN (wr .u64 n).toNat=X2 n:=by unfold X2;rw[jb (by omega)]
  have ht:wr .u8 (wr .i64 (32+(X2 n:Int)))=tagI n:=by unfold tagI;rw[jb (by omega),wr64 (by omega) (by omega)];simp only[wr,dQ];omega
  simp only[J,ht];generalize R:X2 n=K at*;refine⟨λx=>∃q,q<=K/\x.k=q/\x.D=(tagI n::(cy q).map (intB n K))/\x.r=K-q,⟨⟨0,K,[tagI n],[],0,0,0,0⟩,⟨0,by omega,rfl,rfl,rfl⟩,⟨rfl,rfl⟩,rfl⟩,?_⟩;rintro x ⟨q,hq,U,j,a1⟩;have a0:x.D.length=1+q:=by rw[j];simp;omega
  refine aK (λh=> ?_) (λh=> ?_)
  ·have hK:q<K:=by omega
   have t:wr .i64 (8*wr .i64 (wr .i64 ((K:Int)-1)-(x.k:Int)))=8*((K:Int)-1-(q:Int)):=by rw[wr64 (n:=(K:Int)-1) (by omega) (by omega),U,wr64 (n:=(K:Int)-1-q) (by omega) (by omega),wr64 (by omega) (by omega)]
   simp only[t];refine⟨by omega,⟨aE _,by omega,by omega⟩,⟨x.k+1,K-(q+1),x.D++ [intB n K q],[],0,0,0,0⟩,⟨q+1,by omega,by show x.k+1=q+1;omega,?_,rfl⟩,by show K-(q+1)+1<=x.r;omega,⟨by simp,wr64 (by omega) (by omega)⟩,by rw[aM];simp[intB,ak]⟩;show x.D++_=_;rw[fp,fU,j];simp
  ·obtain rfl:q=K:=by omega
   have I:encI n=tagI n::(cy q).map (intB n q):=by unfold encI;rw[R]
   exact⟨by omega,by rw[aM,j,I]⟩
noncomputable def Z6p:Sum thy:=sumA E cu 1 dVal (λx=>OkV x.1) λx=>encV x.1
theorem Zqg:SumOk E 141 Z6p:=Zms E_ok (Ze (f:=141) rfl) λx h=>Z6m x.1 h
noncomputable def Yad:Sum thy:=sumN (.cons (dInt (E:=E) .i64) .nil) (λ_=>True) (λx=> .psl cu (encI x.1) ae) Sint
theorem Z12:SumOk E 177 Yad:=Zyi E_ok Zwo λx _=>Z6o x.1
noncomputable def Yae:Fns thy:=addL (addL (addS (addS F0 177 Yad) 141 Z6p) 141 7 Abyt E) 141 16 Alis E
theorem Z13:FnsOk E Yae:=Zn E_ok (Zn E_ok (Zc (Zc F0_ok Z12) Zqg) _ _ _) _ _ _
abbrev qBO7(j:Val):=(↑(ab (cQ j)):Int)
abbrev qBO8(j:DX):=(↑(dx j):Int)
abbrev qBO9:=(0:Nat)
abbrev qBOa(j:Val):=(↑(ab (cM j)):Int)
abbrev qBOb:=(ae=af->ae=af)
abbrev qBOc(j:Val):=(bd (cI j) (cY j) (cQ j) (cM j))
abbrev qBOe:=(1:Nat)
abbrev qBOi(j:DX):=(ab (aC j)+qBOe)
abbrev qBOg:=(140737488355328:Nat)
abbrev qBOd(j:DX):=(ab (aC j)<=ab (aC j)/\qBO9<=ab (aC j)/\(qBOi j)*qBOe<=qBOg)
abbrev qBOf(j:DX):=(ab (aC j))
abbrev qBOh:=(0:Int)
theorem Zw0(v:Val) (b:List Int):Zk E F0 (vc E Yae 400) 141 [.val (.slice aD 0 0),.agg (encF ae .vals v)] hp0 0 (λr=>ret E (patch hp0 0 r) r.v (.psl cu b ae))=(
 ((cI v==1)=af->True/\encI (cY v)=b/\qBOb)/\((cI v==1)=ae->((cI v==2)=af->∃(R:DX->Prop),(∃(x:DX),R x/\af=af/\((qBO9=qBO9/\qBOe=ab (aC x)/\True)/\(cQ v=cQ v/\qBOb)/\(qBO7 v)=(qBO7 v)/\qBOh=(qBO8 x)/\True)/\([48]=aC x/\qBO9=qBO9)/\True)/\∀(x:DX),R x->(decide ((qBO8 x)<(qBO7 v))=af->qBOh<=(qBO8 x)/\(qBO8 x)+1<=(qBO7 v)/\∀(t:Int),(cQ v)[ag (qBO8 x)]? =ah t->(qBOd x)/\((t==qBOh)=af->(ab (aC x)+qBOe<=ab (aj (qBOf x) (aC x)++ [t])/\qBO9<=ab (aC x)+qBOe/\(ab (aC x)+qBOe+qBOe)*qBOe<=qBOg)/\∃(j:DX),R j/\j.2+qBOe<=x.2/\af=af/\((qBO9=qBO9/\ab (aC x)+qBOe+qBOe=ab (aC j)/\True)/\(cQ v=cQ v/\qBOb)/\(qBO7 v)=(qBO7 v)/\wr ac ((qBO8 x)+1)=(qBO8 j)/\True)/\(aj (qBOi x) (aj (qBOf x) (aC x)++ [t])++ [255]=aC j/\qBO9=qBO9)/\True)/\((t==qBOh)=ae->∃(j:DX),R j/\j.2+qBOe<=x.2/\af=af/\((qBO9=qBO9/\ab (aC x)+qBOe=ab (aC j)/\True)/\(cQ v=cQ v/\qBOb)/\(qBO7 v)=(qBO7 v)/\wr ac ((qBO8 x)+1)=(qBO8 j)/\True)/\(aj (qBOf x) (aC x)++ [t]=aC j/\qBO9=qBO9)/\True))/\(decide ((qBO8 x)<(qBO7 v))=ae->(ab (aC x)<=ab (aC x)/\qBO9<=ab (aC x)/\(ab (aC x)+2)*qBOe<=qBOg)/\qBO9+(ab (aC x)+2)<=ab (aj (qBOf x) (aC x)++ [qBOh,qBOh])/\aj (ab (aC x)+2) (aj (qBOf x) (aC x)++ [qBOh,qBOh])=b))/\((cI v==2)=ae->∃(R:DX->Prop),(∃(x:DX),R x/\af=af/\((qBO9=qBO9/\qBOe=ab (aC x)/\True)/\(cM v=cM v/\qBOb)/\(qBOa v)=(qBOa v)/\qBOh=(qBO8 x)/\True)/\([64]=aC x/\qBO9=qBO9)/\True)/\∀(x:DX),R x->(decide ((qBO8 x)<(qBOa v))=af->qBOh<=(qBO8 x)/\(qBO8 x)+1<=(qBOa v)/\∀(t:Val),(cM v)[ag (qBO8 x)]? =ah t->OkV (qBOc t)/\(ab (aC x)<=ab (aC x)/\qBO9<=ab (aC x)/\(ab (aC x)+ab (encV (qBOc t)))*qBOe<=qBOg)/\∃(j:DX),R j/\j.2+qBOe<=x.2/\af=af/\((qBO9=qBO9/\ab (aC x)+ab (encV (qBOc t))=ab (aC j)/\True)/\(cM v=cM v/\qBOb)/\(qBOa v)=(qBOa v)/\wr ac ((qBO8 x)+1)=(qBO8 j)/\True)/\(aj (qBOf x) (aC x)++encV (qBOc t)=aC j/\qBO9=qBO9)/\True)/\(decide ((qBO8 x)<(qBOa v))=ae->(qBOd x)/\qBO9+(qBOi x)<=ab (aj (qBOf x) (aC x)++ [qBOh])/\aj (qBOi x) (aj (qBOf x) (aC x)++ [qBOh])=b)))):=by kernel_rfl
theorem Z6q(v:Val) (hv:OkV v):PureC E 141 [.val (.slice aD 0 0),.agg (encF ae .vals v)] (.psl cu (encV v) ae):=by
 refine Za E_ok (Ws E_ok F0_ok λf N c=>(Zjv E_ok Z13 400 f N c).1) ?_;rw[Zw0];delta qBO7 qBO8 qBO9 qBOa qBOb qBOc qBOe qBOi qBOg qBOd qBOf qBOh;have R:=hv.en
 simp only[Zz,Zs,Ys,Yt,Yu,gF,gM,fV,fX,fw,fk,bw,bD,bh,bJ,az,bZ,cm,aX,ib,Zx,Z4,ne_eq,and_true,true_and,bu,bc,false_or,or_false,jn,jC,bi,il,iF,bV,Wl];have hl:=hv.ln;have hb:=hv.bn;rw[Zag] at R;rw[Zag]
 refine aK (λJ=> ?_) (λJ=>aK (λU=> ?_) (λU=> ?_))
 ·rw[jh J] at R
  rw[jh J]
 ·rw[jb J,jh U] at R
  rw[jb J,jh U];simp only[aO,aT,bF] at R;refine⟨λx=>∃q,q<=v.b.length/\x.k=q/\x.D=(48::escB (v.b.take q))/\x.r=v.b.length-q,⟨⟨0,v.b.length,[48],[],0,0,0,0⟩,⟨0,by omega,rfl,rfl,rfl⟩,⟨rfl,rfl⟩,rfl⟩,?_⟩;rintro x ⟨q,a4,a0,t,a5⟩;have I:(escB v.b).length=(escB (v.b.take q)).length+(escB (v.b.drop q)).length:=by rw[<-aO,<-Wo,dz]
  have a2:x.D.length=1+(escB (v.b.take q)).length:=by rw[t];simp;omega
  refine aK (λh=>⟨by omega,by omega,λy j=> ?_⟩) (λh=> ?_)
  ·have j:v.b[q]? =ah y:=by rw[<-a0];exact j
   have hd:v.b.drop q=y::v.b.drop (q+1):=by rw[cA (by omega)];congr 1;have:=aq (l:=v.b) (i:=q) (by omega);rw[j] at this;exact(aU this).symm
   rw[hd] at I;have a1:wr .i64 ((x.k:Int)+1)=((q+1:Nat):Int):=by rw[a0,wr64 (by omega) (by omega)];omega
   refine⟨⟨aE _,by omega,?_⟩,λh0=> ?_,λh0=> ?_⟩
   ·rw[escB] at I;split at I<;>simp at I<;>omega
   ·rw[escB,jh h0] at I
    simp only[aT] at I;refine⟨⟨by simp,by omega,by omega⟩,⟨q+1,v.b.length-(q+1),x.D++ [y,255],[],0,0,0,0⟩,⟨q+1,by omega,rfl,?_,rfl⟩,by show v.b.length-(q+1)+1<=x.r;omega,⟨by simp,a1⟩,by rw[aM,aN (by simp)];simp⟩;show x.D++ [y,255]=_;rw[Ye j,Wo,t];simp[escB,h0]
   ·refine⟨⟨q+1,v.b.length-(q+1),x.D++ [y],[],0,0,0,0⟩,⟨q+1,by omega,rfl,?_,rfl⟩,by show v.b.length-(q+1)+1<=x.r;omega,⟨by simp,a1⟩,by rw[aM]⟩
    show x.D++ [y]=_;rw[Ye j,Wo,t];simp[escB,h0]
  ·obtain rfl:q=v.b.length:=by omega
   rw[aM] at t a2;refine⟨⟨aE _,by omega,by omega⟩,by simp,?_⟩;rw[aM,t,aN (by simp)];try simp
 ·rw[jb J,jb U] at R
  rw[jb J,jb U];simp only[aO,aT,bF] at R;refine⟨λx=>∃q,q<=v.l.length/\x.k=q/\x.D=(64::encL (v.l.take q))/\x.r=v.l.length-q,⟨⟨0,v.l.length,[64],[],0,0,0,0⟩,⟨0,by omega,rfl,rfl,rfl⟩,⟨rfl,rfl⟩,rfl⟩,?_⟩;rintro x ⟨q,a4,a0,t,a5⟩;have I:(encL v.l).length=(encL (v.l.take q)).length+(encL (v.l.drop q)).length:=by rw[<-aO,<-Zaf,dz]
  have a2:x.D.length=1+(encL (v.l.take q)).length:=by rw[t];simp;omega
  refine aK (λh=>⟨by omega,by omega,λy j=> ?_⟩) (λh=> ?_)
  ·have j:v.l[q]? =ah y:=by rw[<-a0];exact j
   have a3:y∈v.l:=cp j;have hd:v.l.drop q=y::v.l.drop (q+1):=by rw[cA (by omega)];congr 1;have:=aq (l:=v.l) (i:=q) (by omega);rw[j] at this;exact(aU this).symm
   rw[hd,encL,aO] at I;have a1:wr .i64 ((x.k:Int)+1)=((q+1:Nat):Int):=by rw[a0,wr64 (by omega) (by omega)];omega
   refine⟨hv.mem a3,⟨aE _,by omega,by omega⟩,⟨q+1,v.l.length-(q+1),x.D++encV y,[],0,0,0,0⟩,⟨q+1,by omega,rfl,?_,rfl⟩,by show v.l.length-(q+1)+1<=x.r;omega,⟨by simp,a1⟩,by rw[aM]⟩;show x.D++encV y=_;rw[Ye j,Zaf,t];simp[encL]
  ·obtain rfl:q=v.l.length:=by omega
   rw[aM] at t a2;refine⟨⟨aE _,by omega,by omega⟩,by simp,?_⟩;rw[aM,t,aN (by simp)];try simp
def Z9(v:Val):List Int×Int:=if(Zp v).2=ae then([],10) else if(Zp v).1>16 then([],2) else if(encV v).length>65536 then([],2) else(encV v,0)
noncomputable def Zw1:Sum thy:=sumP dVal (λx=>OkV x.1) λx=> .tup [.int ae .i64 (Zp x.1).1,.bool ae (Zp x.1).2]
theorem Zsq:SumOk E 140 Zw1:=Yc E_ok (Ze (f:=140) rfl) λx h=>Zsl x.1 h
noncomputable def Yaf:Sum thy:=sumN dVal (λx=>OkV x.1) (λx=> .psl cu (encV x.1) ae) Z6p
theorem Z14:SumOk E 141 Yaf:=Zyi E_ok Zqg λx h=>Z6q x.1 h
noncomputable def Fenc:Fns thy:=addS (addS F0 140 Zw1) 141 Yaf
theorem Z6r:FnsOk E Fenc:=Zc (Zc F0_ok Zsq) Z14
theorem Znh(v:Val) (l:List Int) (e:Int):Zk E Fenc (vc E Fenc 400) 99 [.agg (encF ae .vals v)] hp0 0 (λr=>ret E (patch hp0 0 r) r.v (.tup [.psl cu l ae,.int ae .i64 e]))=(
OkV (bd (cI v) (cY v) (cQ v) (cM v))/\((!aJ (Zp (bd (cI v) (cY v) (cQ v) (cM v))))=af->l= []/\10=e/\True)/\((!aJ (Zp (bd (cI v) (cY v) (cQ v) (cM v))))=ae->(decide (ay (Zp (bd (cI v) (cY v) (cQ v) (cM v)))>16)=af->l= []/\2=e/\True)/\(decide (ay (Zp (bd (cI v) (cY v) (cQ v) (cM v)))>16)=ae->OkV (bd (cI v) (cY v) (cQ v) (cM v))/\(decide ((↑(ab (encV (bd (cI v) (cY v) (cQ v) (cM v)))):Int)>65536)=af->l= []/\2=e/\True)/\(decide ((↑(ab (encV (bd (cI v) (cY v) (cQ v) (cM v)))):Int)>65536)=ae->(encV (bd (cI v) (cY v) (cQ v) (cM v))=l/\(ae=af->ae=af))/\0=e/\True)))):=by kernel_rfl
theorem Zni(v:Val) (t:OkV v):PureC E 99 [.agg (encF ae .vals v)] (.tup [.psl cu (Z9 v).1 ae,.int ae .i64 (Z9 v).2]):=by
 refine Za E_ok (Zb E_ok Z6r 400) ?_;rw[Znh];simp only[Zz,Zs,Ys,Yt,Yu,gF,gM,fV,fX,fw,fk,bw,bD,bh,bJ,az,bZ,cm,aX,ib,Zx,Z4,ne_eq,and_true,true_and,bu,bc,false_or,or_false,jn,jC,bi,il,iF,bV,Wl]
 refine⟨t,λh=> ?_,λh=>aK (λj=> ?_) (λj=>⟨t,λI=> ?_,λI=> ?_⟩)⟩
 all_goals unfold Z9
 ·rw[jh (by simpa using h)];exact⟨rfl,rfl⟩
 ·rw[jb (by simpa using h),jh j];exact⟨rfl,rfl⟩
 ·rw[jb (by simpa using h),jb j,jh (by omega)];exact⟨rfl,rfl⟩
 ·rw[jb (by simpa using h),jb j,jb (by omega)];exact⟨rfl,rfl⟩
end
section
open Go
end
section
open Go
def kNums:List Int:= [1116352408,1899447441,3049323471,3921009573,961987163,1508970993,2453635748,2870763221,3624381080,310598401,607225278,1426881987,1925078388,2162078206,2614888103,3248222580,3835390401,4022224774,264347078,604807628,770255983,1249150122,1555081692,1996064986,2554220882,2821834349,2952996808,3210313671,3336571891,3584528711,113926993,338241895,666307205,773529912,1294757372,1396182291,1695183700,1986661051,2177026350,2456956037,2730485921,2820302411,3259730800,3345764771,3516065817,3600352804,4094571909,275423344,430227734,506948616,659060556,883997877,958139571,1322822218,1537002063,1747873779,1955562222,2024104815,2227730452,2361852424,2428436474,2756734187,3204031479,3329325298]
def kSV:SV thy:= .agg [.int af .u32 1116352408,.int af .u32 1899447441,.int af .u32 3049323471,.int af .u32 3921009573,.int af .u32 961987163,.int af .u32 1508970993,.int af .u32 2453635748,.int af .u32 2870763221,.int af .u32 3624381080,.int af .u32 310598401,.int af .u32 607225278,.int af .u32 1426881987,.int af .u32 1925078388,.int af .u32 2162078206,.int af .u32 2614888103,.int af .u32 3248222580,.int af .u32 3835390401,.int af .u32 4022224774,.int af .u32 264347078,.int af .u32 604807628,.int af .u32 770255983,.int af .u32 1249150122,.int af .u32 1555081692,.int af .u32 1996064986,.int af .u32 2554220882,.int af .u32 2821834349,.int af .u32 2952996808,.int af .u32 3210313671,.int af .u32 3336571891,.int af .u32 3584528711,.int af .u32 113926993,.int af .u32 338241895,.int af .u32 666307205,.int af .u32 773529912,.int af .u32 1294757372,.int af .u32 1396182291,.int af .u32 1695183700,.int af .u32 1986661051,.int af .u32 2177026350,.int af .u32 2456956037,.int af .u32 2730485921,.int af .u32 2820302411,.int af .u32 3259730800,.int af .u32 3345764771,.int af .u32 3516065817,.int af .u32 3600352804,.int af .u32 4094571909,.int af .u32 275423344,.int af .u32 430227734,.int af .u32 506948616,.int af .u32 659060556,.int af .u32 883997877,.int af .u32 958139571,.int af .u32 1322822218,.int af .u32 1537002063,.int af .u32 1747873779,.int af .u32 1955562222,.int af .u32 2024104815,.int af .u32 2227730452,.int af .u32 2361852424,.int af .u32 2428436474,.int af .u32 2756734187,.int af .u32 3204031479,.int af .u32 3329325298]
def Zei(n:Nat):Option (SV thy):=match n with|3=>ah kSV|n=>Z8g n
noncomputable def E2:Eng thy:={E with glob:=Zei}
theorem Zd:EngOk E2:=E_ok.glob Zei
theorem Zuj(n:Nat) (sv:SV thy) (h:Z8g n=ah sv):Zei n=ah sv:=by
 match n,h with
 |1,h=>exact h
theorem up2{f:FuncId} {args:List (SV thy)} {v:SV thy} (h:PureC E f args v):PureC E2 f args v:=PureC.like (Vs E Zei).1 (Vs E Zei).2 Zuj h
theorem Z7:FnsOk E2 F0:=⟨F0_ok.sumG,F0_ok.fnG,(λf S h=>by cases h),F0_ok.fn,(λf j L h=>by cases h)⟩
end
section
open Go
theorem Zzs(x k:Int) (z:Int):Zk E F0 (vc E F0 400) 221 [.int ae .u32 x,.int ae .i64 k] hp0 0 (λr=>ret E (patch hp0 0 r) r.v (.int ae .u32 z))=(
0<=Zo dh aA (wr aA k) 31/\0<=wr aA (32-Zo dh aA (wr aA k) 31)/\Zo iI au (wr au (x*2^min (ag (Zo dh aA (wr aA k) 31)) (ak au))) (aB x (2^min (ag (wr aA (32-Zo dh aA (wr aA k) 31))) (ak au)))=z):=by kernel_rfl
theorem Zzt(x k:Int) (z:Int):Zk E F0 (vc E F0 400) 186 [.int ae .u32 x,.int ae .i64 k] hp0 0 (λr=>ret E (patch hp0 0 r) r.v (.int ae .u32 z))=(
0<=k/\0<=wr ac (32-k)/\Zo iI au (aB x (2^min (ag k) (ak au))) (wr au (x*2^min (ag (wr ac (32-k))) (ak au)))=z):=by kernel_rfl
def rotF(x n:Int):Int:=Zo .or .u32 (aB x (2^min (ag n) 32)) (wr .u32 (x*2^min (ag (32-n)) 32))
theorem Zzu(a b:Int):Zo .or .u32 a b=Zo .or .u32 b a:=by
 show eZ .u32 ((bW 32 a|||bW 32 b).toNat:Int)=eZ .u32 ((bW 32 b|||bW 32 a).toNat:Int);rw[BitVec.or_comm]
theorem Ycg:∀m:Fin 31,Zo .and .u64 (wr .u64 (-(m.val:Int)-1)) 31=31-(m.val:Int):=by decide
theorem Zzv(x k:Int) (t: -31<=k) (I:k<= -1):PureC E 221 [.int ae .u32 x,.int ae .i64 k] (.int ae .u32 (rotF x (-k))):=by
 refine Za E_ok (Zb E_ok F0_ok 400) ?_;rw[Zzs];have e:=Ycg ⟨(-k-1).toNat,by omega⟩;simp only[show(-(((-k-1).toNat:Nat):Int)-1)=k by omega,show(31-(((-k-1).toNat:Nat):Int))=32+k by omega] at e;rw[e];have j:wr .u64 (32-(32+k))= -k:=by simp only[wr,dj];omega
 rw[j];refine⟨by omega,by omega,?_⟩;unfold rotF;rw[Zzu,show(32- -k)=32+k by omega];rfl
theorem Zzw(x k:Int) (t:1<=k) (I:k<=31):PureC E 186 [.int ae .u32 x,.int ae .i64 k] (.int ae .u32 (rotF x k)):=by
 refine Za E_ok (Zb E_ok F0_ok 400) ?_;rw[Zzt];have j:wr .i64 (32-k)=32-k:=wr64 (by omega) (by omega);rw[j];exact⟨by omega,by omega,rfl⟩
def sumD{Y:Thy} {E:Eng Y} {α:Type} (d:DcL E α) (pre:α->Bool) (f:α->SV Y):Sum Y:=λargs _ _ k=>match d.dec args with|some x=>(match pre x with|true=>k (quiet [] (f x))|false=>False)|none=>False
theorem Zzx{Y:Thy} {E:Eng Y} (R:EngOk E) {α:Type} {f:Nat} (U:FnGood E.P f) {d:DcL E α} {pre:α->Bool} {v:α->SV Y} (hp:∀x,pre x=af->PureC E f (d.enc x) (v x)):SumOk E f (sumD d pre v):=by
 have t:=Yc R U (d:=d) (pre:=λx=>pre x=af) (v:=v) hp;refine⟨t.good,λargs h i k J j=>t.ok args h i k J ?_⟩;unfold sumD at j;unfold sumP;split at j
 ·rename_i e
  simp only[e];split at j
  ·rename_i I
   exact⟨I,j⟩
  ·exact j.elim
 ·exact j.elim
end
section
open Go
theorem Vb{α:Type} {l:List α} {n:Nat} (h:l.length=n+1):∃a r,l=a::r/\r.length=n:=by
 cases l with
 |nil=>simp at h
 |cons a r=>exact⟨a,r,rfl,by simpa using h⟩
theorem all8{P:List Int->Prop} (hP:∀j b1 b2 t I J R U:Int,P [j,b1,b2,t,I,J,R,U]) (b:List Int) (hb:b.length=8):P b:=by
 obtain⟨j,s0,rfl,d0⟩:=Vb hb;obtain⟨b1,s1,rfl,d1⟩:=Vb d0;obtain⟨b2,s2,rfl,d2⟩:=Vb d1;obtain⟨t,s3,rfl,d3⟩:=Vb d2;obtain⟨I,s4,rfl,d4⟩:=Vb d3;obtain⟨J,s5,rfl,d5⟩:=Vb d4;obtain⟨R,s6,rfl,d6⟩:=Vb d5;obtain⟨U,s7,rfl,d7⟩:=Vb d6;obtain rfl:=List.eq_nil_of_length_eq_zero d7;exact hP j b1 b2 t I J R U
noncomputable def dXK2:DcL E2 (Int×Int×Unit):= .cons (dInt (E:=E2) .u32) (.cons (dInt (E:=E2) .i64) .nil)
noncomputable def Z4v:Sum thy:=sumD dXK2 (λx=>decide (-31<=x.2.1)&&decide (x.2.1<= -1)) λx=> .int ae .u32 (rotF x.1 (-x.2.1))
theorem Zx8:SumOk E2 221 Z4v:=Zzx Zd (Ze (f:=221) rfl) λx h=>by
 simp only[az,fw] at h;exact up2 (Zzv x.1 x.2.1 h.1 h.2)
def k64:List Int:= [1116352408,1899447441,3049323471,3921009573,961987163,1508970993,2453635748,2870763221,3624381080,310598401,607225278,1426881987,1925078388,2162078206,2614888103,3248222580,3835390401,4022224774,264347078,604807628,770255983,1249150122,1555081692,1996064986,2554220882,2821834349,2952996808,3210313671,3336571891,3584528711,113926993,338241895,666307205,773529912,1294757372,1396182291,1695183700,1986661051,2177026350,2456956037,2730485921,2820302411,3259730800,3345764771,3516065817,3600352804,4094571909,275423344,430227734,506948616,659060556,883997877,958139571,1322822218,1537002063,1747873779,1955562222,2024104815,2227730452,2361852424,2428436474,2756734187,3204031479,3329325298]
def z64:List Int:= [0,0,0,0,0,0,0,0,0,0,0,0,0,0,0,0,0,0,0,0,0,0,0,0,0,0,0,0,0,0,0,0,0,0,0,0,0,0,0,0,0,0,0,0,0,0,0,0,0,0,0,0,0,0,0,0,0,0,0,0,0,0,0,0]
def itL(f:Nat->List Int->List Int):Nat->Nat->List Int->List Int
 |0,_,D=>D
 |r+1,k,D=>itL f r (k+1) (f k D)
def orF(a b c d:Int):Int:=Zo iI au (Zo iI au (Zo iI au (wr au (wr au a*(2:Int)^min (ag (24:Int)) (ak au))) (wr au (wr au b*(2:Int)^min (ag (16:Int)) (ak au)))) (wr au (wr au c*(2:Int)^min (ag (8:Int)) (ak au)))) (wr au d)
def wdF(a b c d:Int):Int:=wr au (wr au (wr au (a+Zo cW au (Zo cW au (rotF b 7) (rotF b 18)) (aB b ((2:Int)^min (ag (3:Int)) (ak au))))+c)+Zo cW au (Zo cW au (rotF d 17) (rotF d 19)) (aB d ((2:Int)^min (ag (10:Int)) (ak au))))
def t1F(H:List Int) (K W:Int):Int:=wr au (wr au (wr au (wr au (aa H (7:Nat) (0:Int)+Zo cW au (Zo cW au (rotF (aa H (4:Nat) (0:Int)) 6) (rotF (aa H (4:Nat) (0:Int)) 11)) (rotF (aa H (4:Nat) (0:Int)) 25))+Zo cW au (Zo dh au (aa H (4:Nat) (0:Int)) (aa H (5:Nat) (0:Int))) (Zo dh au (Zo cW au (if fo au=af then(-1:Int) else gY au) (aa H (4:Nat) (0:Int))) (aa H (6:Nat) (0:Int))))+K)+W)
def t2F(H:List Int):Int:=wr au (Zo cW au (Zo cW au (rotF (aa H (0:Nat) (0:Int)) 2) (rotF (aa H (0:Nat) (0:Int)) 13)) (rotF (aa H (0:Nat) (0:Int)) 22)+Zo cW au (Zo cW au (Zo dh au (aa H (0:Nat) (0:Int)) (aa H (1:Nat) (0:Int))) (Zo dh au (aa H (0:Nat) (0:Int)) (aa H (2:Nat) (0:Int)))) (Zo dh au (aa H (1:Nat) (0:Int)) (aa H (2:Nat) (0:Int))))
def shaR(H:List Int) (K W:Int):List Int:= [wr au (t1F H K W+t2F H),H.getD 0 0,H.getD 1 0,H.getD 2 0,wr au (H.getD 3 0+t1F H K W),H.getD 4 0,H.getD 5 0,H.getD 6 0]
def f1(b:List Int) (k:Nat) (D:List Int):List Int:=D.set k (orF (b.getD (4*k) 0) (b.getD (4*k+1) 0) (b.getD (4*k+2) 0) (b.getD (4*k+3) 0))
def f2(k:Nat) (D:List Int):List Int:=D.set k (wdF (D.getD (k-16) 0) (D.getD (k-15) 0) (D.getD (k-7) 0) (D.getD (k-2) 0))
def f3(W:List Int) (k:Nat) (H:List Int):List Int:=shaR H (k64.getD k 0) (W.getD k 0)
def schF(b:List Int):List Int:=itL f2 48 16 (itL (f1 b) 16 0 z64)
def shaE(H X:List Int):List Int:= [wr au (H.getD 0 0+X.getD 0 0),wr au (H.getD 1 0+X.getD 1 0),wr au (H.getD 2 0+X.getD 2 0),wr au (H.getD 3 0+X.getD 3 0),wr au (H.getD 4 0+X.getD 4 0),wr au (H.getD 5 0+X.getD 5 0),wr au (H.getD 6 0+X.getD 6 0),wr au (H.getD 7 0+X.getD 7 0)]
def blkF(h b:List Int):List Int:=shaE h (itL (f3 (schF b)) 64 0 h)
theorem Zah{h b:List Int} (t:h.length=8) (j:b.length=64):(blkF h b).length=8:=rfl
theorem Zn0(f:Nat->List Int->List Int) (n:Nat) (j:∀k D,D.length=n->(f k D).length=n):∀(r k:Nat) (D:List Int),D.length=n->(itL f r k D).length=n
 |0,_,_,h=>h
 |r+1,k,D,h=>Zn0 f n j r (k+1) _ (j k D h)
theorem Zec(b:List Int):(schF b).length=64:=Zn0 _ 64 (λk D h=>by simp[f2,h]) _ _ _ (Zn0 _ 64 (λk D h=>by simp[f1,h]) _ _ _ rfl)
theorem Vg{l:List Int} {k:Nat} {x:Int} (h:l[k]? =ah x):l.getD k 0=x:=by rw[aI,h];rfl
def cR8(H:List Int):List (SV thy):= [.int ae .u32 (H.getD 0 0),.int ae .u32 (H.getD 1 0),.int ae .u32 (H.getD 2 0),.int ae .u32 (H.getD 3 0),.int ae .u32 (H.getD 4 0),.int ae .u32 (H.getD 5 0),.int ae .u32 (H.getD 6 0),.int ae .u32 (H.getD 7 0)]
def hEQ(a z:List Int):Prop:=aa a (0:Nat) (0:Int)=aa z (0:Nat) (0:Int)/\aa a (1:Nat) (0:Int)=aa z (1:Nat) (0:Int)/\aa a (2:Nat) (0:Int)=aa z (2:Nat) (0:Int)/\aa a (3:Nat) (0:Int)=aa z (3:Nat) (0:Int)/\aa a (4:Nat) (0:Int)=aa z (4:Nat) (0:Int)/\aa a (5:Nat) (0:Int)=aa z (5:Nat) (0:Int)/\aa a (6:Nat) (0:Int)=aa z (6:Nat) (0:Int)/\aa a (7:Nat) (0:Int)=aa z (7:Nat) (0:Int)/\True
theorem Yb(a:List Int):hEQ a a:=⟨rfl,rfl,rfl,rfl,rfl,rfl,rfl,rfl,js⟩
def Ab1:Fr thy->Hp thy->Nat->Ann thy:=λT h i=>{X:=DX,fr:=λx=> [(1,T 1),(2,T 2),(4,T 4),(5,T 5),(19,.int ae .i64 x.k)],bl:=λx=>(bOf (T 5),.rows Th.w64 x.D 0)::(blkP h (T 2)++blkP h (T 4)),src:=λ_=> [],md:= [bOf (T 5)],ih:=i,M:=i+40,meas:=λx=>x.r}
def Ab2:Fr thy->Hp thy->Nat->Ann thy:=λT h i=>{X:=DX,fr:=λx=> [(2,T 2),(4,T 4),(5,T 5),(7,.int ae .i64 x.k)],bl:=λx=>(bOf (T 5),.rows Th.w64 x.D 0)::(blkP h (T 2)++blkP h (T 4)),src:=λ_=> [],md:= [bOf (T 5)],ih:=i,M:=i+40,meas:=λx=>x.r}
def Ab3:Fr thy->Hp thy->Nat->Ann thy:=λT h i=>{X:=DX,fr:=λx=> [(2,T 2),(4,T 4),(5,T 5),(12,T 12),(102,.int ae .i64 x.k)],bl:=λx=>(bOf (T 12),.raw (cR8 x.H) 0 aD)::(blkP h (T 5)++blkP h (T 2)++blkP h (T 4)),src:=λ_=> [],md:= [bOf (T 12)],ih:=i,M:=i+40,meas:=λx=>x.r}
noncomputable def Fbb:Fns thy:=addL (addL (addL (addS F0 221 Z4v) 178 3 Ab1 E2) 178 8 Ab2 E2) 178 16 Ab3 E2
theorem Yaw:FnsOk E2 Fbb:=Zn Zd (Zn Zd (Zn Zd (Zc Z7 Zx8) _ _ _) _ _ _) _ _ _
abbrev qBS1(j:DX):=(↑(dx j):Int)
abbrev qBS2:=(0:Nat)
abbrev qBS3(j:DX):=((4:Int)*(qBS1 j))
abbrev qBS4:=(↑(64:Nat):Int)
abbrev qBS5:=(1:Int)
abbrev qBS6:=(0:Int)
abbrev qBS7(j:DX):=(qBS6<=(qBS1 j)/\(qBS1 j)+qBS5<=qBS4)
abbrev qBS8:=(1:Nat)
theorem Zn1(H b:List Int) (z:List Int):Zk E2 Fbb (vc E2 Fbb 600) 178 [.agg (cR8 H),.psl cu b ae] hp0 0 (λr=>ret E2 (patch hp0 0 r) r.v (.agg (cR8 z)))=(
 ∃(R:DX->Prop),(∃(x:DX),R x/\af=af/\((b=b/\(ae=af->ae=af))/\qBS2=qBS2/\qBS2=qBS2/\qBS2=qBS2/\qBS6=(qBS1 x)/\True)/\(z64=aC x/\qBS2=qBS2)/\hEQ H H/\hEQ [] []/\True)/\∀(x:DX),R x->(decide ((qBS1 x)<16)=af->qBS6<=wr ac (qBS3 x)/\wr ac (qBS3 x)+qBS5<=(↑(ab b):Int)/\∀(j:Int),b[ag (wr ac (qBS3 x))]? =ah j->qBS6<=wr ac (wr ac (qBS3 x)+qBS5)/\wr ac (wr ac (qBS3 x)+qBS5)+qBS5<=(↑(ab b):Int)/\∀(I:Int),b[ag (wr ac (wr ac (qBS3 x)+qBS5))]? =ah I->qBS6<=wr ac (wr ac (qBS3 x)+2)/\wr ac (wr ac (qBS3 x)+2)+qBS5<=(↑(ab b):Int)/\∀(J:Int),b[ag (wr ac (wr ac (qBS3 x)+2))]? =ah J->qBS6<=wr ac (wr ac (qBS3 x)+3)/\wr ac (wr ac (qBS3 x)+3)+qBS5<=(↑(ab b):Int)/\∀(U:Int),b[ag (wr ac (wr ac (qBS3 x)+3))]? =ah U->(qBS7 x)/\qBS2<=ag (qBS1 x)/\ag (qBS1 x)+qBS8<=ab (aC x)/\∀(a0:Int),(aC x)[ag (qBS1 x)]? =ah a0->∃(t:DX),R t/\t.2+qBS8<=x.2/\af=af/\((b=b/\(ae=af->ae=af))/\qBS2=qBS2/\qBS2=qBS2/\qBS2=qBS2/\wr ac ((qBS1 x)+qBS5)=(qBS1 t)/\True)/\(eG (aC x) (ag (qBS1 x)) (orF j I J U)=aC t/\qBS2=qBS2)/\hEQ H H/\hEQ [] []/\True)/\(decide ((qBS1 x)<16)=ae->∃(R:DX->Prop),(∃(j:DX),R j/\af=af/\(qBS2=qBS2/\qBS2=qBS2/\qBS2=qBS2/\16=(qBS1 j)/\True)/\(aC x=aC j/\qBS2=qBS2)/\hEQ H H/\hEQ [] []/\True)/\∀(x:DX),R x->(decide ((qBS1 x)<64)=af->(qBS6<=wr ac ((qBS1 x)-15)/\wr ac ((qBS1 x)-15)+qBS5<=qBS4)/\ag (wr ac ((qBS1 x)-15))+qBS8<=ab (aC x)/\∀(j:Int),(aC x)[ag (wr ac ((qBS1 x)-15))]? =ah j->(qBS6<=wr ac ((qBS1 x)-2)/\wr ac ((qBS1 x)-2)+qBS5<=qBS4)/\ag (wr ac ((qBS1 x)-2))+qBS8<=ab (aC x)/\∀(I:Int),(aC x)[ag (wr ac ((qBS1 x)-2))]? =ah I->(qBS6<=wr ac ((qBS1 x)-16)/\wr ac ((qBS1 x)-16)+qBS5<=qBS4)/\ag (wr ac ((qBS1 x)-16))+qBS8<=ab (aC x)/\∀(J:Int),(aC x)[ag (wr ac ((qBS1 x)-16))]? =ah J->(qBS6<=wr ac ((qBS1 x)-7)/\wr ac ((qBS1 x)-7)+qBS5<=qBS4)/\ag (wr ac ((qBS1 x)-7))+qBS8<=ab (aC x)/\∀(U:Int),(aC x)[ag (wr ac ((qBS1 x)-7))]? =ah U->(qBS7 x)/\qBS2<=ag (qBS1 x)/\ag (qBS1 x)+qBS8<=ab (aC x)/\∀(a0:Int),(aC x)[ag (qBS1 x)]? =ah a0->∃(t:DX),R t/\t.2+qBS8<=x.2/\af=af/\(qBS2=qBS2/\qBS2=qBS2/\qBS2=qBS2/\wr ac ((qBS1 x)+qBS5)=(qBS1 t)/\True)/\(eG (aC x) (ag (qBS1 x)) (wdF J j U I)=aC t/\qBS2=qBS2)/\hEQ H H/\hEQ [] []/\True)/\(decide ((qBS1 x)<64)=ae->∃(R:DX->Prop),(∃(j:DX),R j/\af=af/\(qBS2=qBS2/\qBS2=qBS2/\qBS2=qBS2/\qBS2=qBS2/\qBS6=(qBS1 j)/\True)/\hEQ H (aP j)/\(aC x=aC x/\qBS2=qBS2)/\hEQ H H/\hEQ [] []/\True)/\∀(j:DX),R j->(decide ((qBS1 j)<64)=af->qBS6<=(qBS1 j)/\(qBS1 j)+qBS5<=qBS4/\∀(I:Int),k64[ag (qBS1 j)]? =ah I->(qBS7 j)/\ag (qBS1 j)+qBS8<=ab (aC x)/\∀(J:Int),(aC x)[ag (qBS1
j)]? =ah J->∃(t:DX),R t/\t.2+qBS8<=j.2/\af=af/\(qBS2=qBS2/\qBS2=qBS2/\qBS2=qBS2/\qBS2=qBS2/\wr ac ((qBS1 j)+qBS5)=(qBS1 t)/\True)/\hEQ (shaR (aP j) I J) (aP t)/\(aC x=aC x/\qBS2=qBS2)/\hEQ H H/\hEQ [] []/\True)/\(decide ((qBS1 j)<64)=ae->hEQ (shaE H (aP j)) z)))):=by kernel_rfl
theorem Zx9{b D:List Int} {k:Nat} {j t I J:Int} (R:b[4*k]? =ah j) (U:b[4*k+1]? =ah t) (h3:b[4*k+2]? =ah I) (h4:b[4*k+3]? =ah J):eG D k (orF j t I J)=f1 b k D:=by
 unfold f1;rw[Vg R,Vg U,Vg h3,Vg h4]
theorem Zya{D:List Int} {k:Nat} {j t I J:Int} (R:D[k-15]? =ah j) (U:D[k-2]? =ah t) (h3:D[k-16]? =ah I) (h4:D[k-7]? =ah J):eG D k (wdF I j J t)=f2 k D:=by
 unfold f2;rw[Vg R,Vg U,Vg h3,Vg h4]
theorem Zyb{W H:List Int} {k:Nat} {j t:Int} (I:k64[k]? =ah j) (J:W[k]? =ah t):shaR H j t=f3 W k H:=by
 unfold f3;rw[Vg I,Vg J]
theorem Zai{f:Nat->List Int->List Int} {r k:Nat} {D j W:List Int} (h:itL f r k D=W) (I:0<r) (t:j=f k D):itL f (r-1) (k+1) j=W:=by
 obtain⟨q,rfl⟩:∃q,r=q+1:=⟨r-1,by omega⟩;rw[t];exact h
theorem Zis{h:List Int} (j:h.length=8):rowV .u32 h= .agg (cR8 h):=all8 (P:=λh=>rowV .u32 h= .agg (cR8 h)) (λ_ _ _ _ _ _ _ _=>rfl) h j
theorem Z2v{h b:List Int} (hh:h.length=8) (hb:b.length=64):PureC E2 178 [rowV .u32 h,.psl cu b ae] (rowV .u32 (blkF h b)):=by
 rw[Zis hh,Zis (Zah hh hb)];refine Za Zd (Zb Zd Yaw 600) ?_;rw[Zn1];delta qBS1 qBS2 qBS3 qBS4 qBS5 qBS6 qBS7 qBS8;refine⟨λx=>x.r+x.k=16/\x.D.length=64/\itL (f1 b) x.r x.k x.D=itL (f1 b) 16 0 z64,⟨⟨0,16,z64,[],0,0,0,0⟩,⟨rfl,rfl,rfl⟩,rfl,⟨⟨rfl,id⟩,rfl,rfl,rfl,rfl,js⟩,⟨rfl,rfl⟩,Yb _,Yb _,js⟩,?_⟩;rintro x ⟨h1,I,t⟩;refine aK (λj=> ?_) (λj=> ?_)
 ·have j:=iK j
  have e0:wr .i64 (4*(x.k:Int))=((4*x.k:Nat):Int):=by rw[wr64 (by omega) (by omega)];omega
  have e1:wr .i64 (((4*x.k:Nat):Int)+1)=((4*x.k+1:Nat):Int):=by rw[wr64 (by omega) (by omega)];omega
  have e2:wr .i64 (((4*x.k:Nat):Int)+2)=((4*x.k+2:Nat):Int):=by rw[wr64 (by omega) (by omega)];omega
  have e3:wr .i64 (((4*x.k:Nat):Int)+3)=((4*x.k+3:Nat):Int):=by rw[wr64 (by omega) (by omega)];omega
  simp only[e0,e1,e2,e3,bB];refine⟨by omega,by omega,λa J=>⟨by omega,by omega,λc R=>⟨by omega,by omega,λd hd=>⟨by omega,by omega,λe he=>⟨⟨by omega,by omega⟩,bg _,by omega,λ_ _=>⟨⟨x.k+1,x.r-1,_,[],0,0,0,0⟩,⟨?_,?_,Zai t (by omega) (Zx9 J R hd he)⟩,?_,js,⟨⟨js,id⟩,js,js,js,wr64 (by omega) (by omega),js⟩,⟨rfl,js⟩,Yb _,Yb _,js⟩⟩⟩⟩⟩⟩
  ·show x.r-1+(x.k+1)=16;omega
  ·simp[I]
  ·show x.r-1+1<=x.r;omega
 ·have j:=iT j
  have U:x.D=itL (f1 b) 16 0 z64:=by rw[<-t,show x.r=0 by omega];rfl
  refine⟨λx=>x.r+x.k=64/\16<=x.k/\x.D.length=64/\itL f2 x.r x.k x.D=schF b,⟨⟨16,48,x.D,[],0,0,0,0⟩,⟨rfl,aE _,I,by rw[U];rfl⟩,rfl,⟨rfl,rfl,rfl,rfl,js⟩,⟨rfl,rfl⟩,Yb _,Yb _,js⟩,?_⟩;clear j h1 I t U;rintro x ⟨h1,h0,I,t⟩;refine aK (λj=> ?_) (λj=> ?_)
  ·have j:=iK j
   have e0:wr .i64 ((x.k:Int)-15)=((x.k-15:Nat):Int):=by rw[wr64 (by omega) (by omega)];omega
   have e1:wr .i64 ((x.k:Int)-2)=((x.k-2:Nat):Int):=by rw[wr64 (by omega) (by omega)];omega
   have e2:wr .i64 ((x.k:Int)-16)=((x.k-16:Nat):Int):=by rw[wr64 (by omega) (by omega)];omega
   have e3:wr .i64 ((x.k:Int)-7)=((x.k-7:Nat):Int):=by rw[wr64 (by omega) (by omega)];omega
   simp only[e0,e1,e2,e3,bB];refine⟨⟨by omega,by omega⟩,by omega,λa J=>⟨⟨by omega,by omega⟩,by omega,λc R=>⟨⟨by omega,by omega⟩,by omega,λd hd=>⟨⟨by omega,by omega⟩,by omega,λe he=>⟨⟨by omega,by omega⟩,bg _,by omega,λ_ _=>⟨⟨x.k+1,x.r-1,_,[],0,0,0,0⟩,⟨?_,?_,?_,Zai t (by omega) (Zya J R hd he)⟩,?_,js,⟨js,js,js,wr64 (by omega) (by omega),js⟩,⟨rfl,js⟩,Yb _,Yb _,js⟩⟩⟩⟩⟩⟩
   ·show x.r-1+(x.k+1)=64;omega
   ·show 16<=x.k+1;omega
   ·simp[I]
   ·show x.r-1+1<=x.r;omega
  ·have j:=iT j
   have U:x.D=schF b:=by rw[<-t,show x.r=0 by omega];rfl
   refine⟨λx=>x.r+x.k=64/\itL (f3 (schF b)) x.r x.k x.H=itL (f3 (schF b)) 64 0 h,⟨⟨0,64,[],h,0,0,0,0⟩,⟨rfl,rfl⟩,rfl,⟨rfl,rfl,rfl,rfl,rfl,js⟩,Yb _,⟨rfl,rfl⟩,Yb _,Yb _,js⟩,?_⟩;rw[U];rintro x ⟨h1,t⟩;refine aK (λj=> ?_) (λj=> ?_)
   ·have j:=iK j
    simp only[bB];refine⟨by omega,by omega,λa J=>⟨⟨by omega,by omega⟩,by rw[Zec];omega,λc R=>⟨⟨x.k+1,x.r-1,[],_,0,0,0,0⟩,⟨?_,Zai t (by omega) (Zyb J R)⟩,?_,js,⟨js,js,js,js,wr64 (by omega) (by omega),js⟩,Yb _,⟨js,js⟩,Yb _,Yb _,js⟩⟩⟩
    ·show x.r-1+(x.k+1)=64;omega
    ·show x.r-1+1<=x.r;omega
   ·have j:=iT j
    have hX:x.H=itL (f3 (schF b)) 64 0 h:=by rw[<-t,show x.r=0 by omega];rfl
    rw[hX];exact Yb _
end
section
open Go
def dBys(E:Eng thy):Dc E (List Int):=(Zlr (E:=E) cu:Dc E (List (thy.dom cu)))
def Z9g(E:Eng thy):Dc E (List (List Int)):=(Zlr (E:=E) ke:Dc E (List (thy.dom ke)))
def Ybq(E:Eng thy):Dc E (List Val):=(Zlr (E:=E) eQ:Dc E (List (thy.dom eQ)))
def row8(H:List Int):SV thy:= .agg [.int ae .u32 (H.getD 0 0),.int ae .u32 (H.getD 1 0),.int ae .u32 (H.getD 2 0),.int ae .u32 (H.getD 3 0),.int ae .u32 (H.getD 4 0),.int ae .u32 (H.getD 5 0),.int ae .u32 (H.getD 6 0),.int ae .u32 (H.getD 7 0)]
theorem Zug{H:List Int} (h:H.length=8):rowV .u32 H=row8 H:=all8 (P:=λH=>rowV .u32 H=row8 H) (λ_ _ _ _ _ _ _ _=>rfl) H h
def gthT(cs:List (SV thy)):Option Th:=match cs with| .int _ .u8 _::_=>ah .bys|_=>aD
noncomputable def Sblk:Sum thy:=sumF E2 gthT 2 (.cons (Z8k E2 .u32) (.cons (dBys E2) .nil)) (λx=>x.1.length=8/\x.2.1.length=64) λx=>row8 (blkF x.1 x.2.1)
theorem Z46:SumOk E2 178 Sblk:=Zf7 Zd (Ze (f:=178) rfl) λx h=>by
 have:=Z2v h.1 h.2;rw[Zug (Zah h.1 h.2)] at this;exact this
def A58a:Fr thy->Hp thy->Nat->Ann2 thy:=λT h i=>{X:=DX,fr:=λs x=>match s with|true=> [(2,T 2),(3,.val (.slice aD 0 0)),(10,T 10),(11,T 11),(12,.int ae .i64 x.k)]|false=> [(2,T 2),(3,.sl i 0 x.D.length 1 aD),(10,T 10),(11,T 11),(12,.int ae .i64 x.k)],bl:=λs x=>match s with|true=>blkP h (T 2)|false=>(i,.rows cu x.D 0)::blkP h (T 2),src:=λs=>match s with|true=> []|false=> [(i,3)],md:= [],ih:=i+1,M:=i+40,meas:=λs x=>x.r}
def A58b:Fr thy->Hp thy->Nat->Ann thy:=λT h i=>{X:=DX,fr:=λx=> [(2,T 2),(3,.sl i 0 x.D.length 1 aD),(6,T 6)],bl:=λx=>(i,.rows cu x.D 0)::blkP h (T 2),src:=λ_=> [(i,3)],md:= [bOf (T 3)],ih:=i+1,M:=i+40,meas:=λx=>x.r}
def A58c:Fr thy->Hp thy->Nat->Ann2 thy:=λT h i=>{X:=DX,fr:=λs x=>match s with|true=> [(2,T 2),(3,.sl (bOf (T 3)) x.n x.m 1 aD),(8,T 8)]|false=> [(2,T 2),(3,.psl cu [] ae),(8,T 8)],bl:=λs x=>match s with|true=>(bOf (T 8),.raw (row8 x.H).cells 0 aD)::(blkZ h (T 3) x.fz++blkP h (T 2))|false=>(bOf (T 8),.raw (row8 x.H).cells 0 aD)::blkP h (T 2),src:=λ_=> [],md:= [bOf (T 3),bOf (T 8)],ih:=i,M:=i+60,meas:=λs x=>x.r}
def A58d:Fr thy->Hp thy->Nat->Ann thy:=λT h i=>{X:=DX,fr:=λx=> [(2,T 2),(3,.sl i 0 x.D.length 1 aD),(6,T 6),(7,.int ae .i64 x.j)],bl:=λx=>(i,.rows cu x.D 0)::blkP h (T 2),src:=λ_=> [(i,3)],md:= [bOf (T 3)],ih:=i+1,M:=i+40,meas:=λx=>x.r}
noncomputable def F20:Fns thy:=addL (Z52 (addL (Z52 (addS F0 178 Sblk) 142 3 A58a E2) 142 9 A58b E2) 142 16 A58c E2) 142 12 A58d E2
theorem Z9h:FnsOk E2 F20:=Zn Zd (Zps Zd (Zn Zd (Zps Zd (Zc Z7 Z46) _ _ _) _ _ _) _ _ _) _ _ _
def Zm(d:List Int):SV thy:= .agg [.int ae .u8 (d.getD 0 0),.int ae .u8 (d.getD 1 0),.int ae .u8 (d.getD 2 0),.int ae .u8 (d.getD 3 0),.int ae .u8 (d.getD 4 0),.int ae .u8 (d.getD 5 0),.int ae .u8 (d.getD 6 0),.int ae .u8 (d.getD 7 0),.int ae .u8 (d.getD 8 0),.int ae .u8 (d.getD 9 0),.int ae .u8 (d.getD 10 0),.int ae .u8 (d.getD 11 0),.int ae .u8 (d.getD 12 0),.int ae .u8 (d.getD 13 0),.int ae .u8 (d.getD 14 0),.int ae .u8 (d.getD 15 0),.int ae .u8 (d.getD 16 0),.int ae .u8 (d.getD 17 0),.int ae .u8 (d.getD 18 0),.int ae .u8 (d.getD 19 0),.int ae .u8 (d.getD 20 0),.int ae .u8 (d.getD 21 0),.int ae .u8 (d.getD 22 0),.int ae .u8 (d.getD 23 0),.int ae .u8 (d.getD 24 0),.int ae .u8 (d.getD 25 0),.int ae .u8 (d.getD 26 0),.int ae .u8 (d.getD 27 0),.int ae .u8 (d.getD 28 0),.int ae .u8 (d.getD 29 0),.int ae .u8 (d.getD 30 0),.int ae .u8 (d.getD 31 0)]
def n32q(x:List Int):List Int:= [aa x 0 0,aa x 1 0,aa x 2 0,aa x 3 0,aa x 4 0,aa x 5 0,aa x 6 0,aa x 7 0,aa x 8 0,aa x 9 0,aa x 10 0,aa x 11 0,aa x 12 0,aa x 13 0,aa x 14 0,aa x 15 0,aa x 16 0,aa x 17 0,aa x 18 0,aa x 19 0,aa x 20 0,aa x 21 0,aa x 22 0,aa x 23 0,aa x 24 0,aa x 25 0,aa x 26 0,aa x 27 0,aa x 28 0,aa x 29 0,aa x 30 0,aa x 31 0]
def z32q(x:List Int):Prop:=0=aa x 0 0/\0=aa x 1 0/\0=aa x 2 0/\0=aa x 3 0/\0=aa x 4 0/\0=aa x 5 0/\0=aa x 6 0/\0=aa x 7 0/\0=aa x 8 0/\0=aa x 9 0/\0=aa x 10 0/\0=aa x 11 0/\0=aa x 12 0/\0=aa x 13 0/\0=aa x 14 0/\0=aa x 15 0/\0=aa x 16 0/\0=aa x 17 0/\0=aa x 18 0/\0=aa x 19 0/\0=aa x 20 0/\0=aa x 21 0/\0=aa x 22 0/\0=aa x 23 0/\0=aa x 24 0/\0=aa x 25 0/\0=aa x 26 0/\0=aa x 27 0/\0=aa x 28 0/\0=aa x 29 0/\0=aa x 30 0/\0=aa x 31 0/\True
def b32q(x y:List Int):Bool:=(aa x 0 0==aa y 0 0&&(aa x 1 0==aa y 1 0&&(aa x 2 0==aa y 2 0&&(aa x 3 0==aa y 3 0&&(aa x 4 0==aa y 4 0&&(aa x 5 0==aa y 5 0&&(aa x 6 0==aa y 6 0&&(aa x 7 0==aa y 7 0&&(aa x 8 0==aa y 8 0&&(aa x 9 0==aa y 9 0&&(aa x 10 0==aa y 10 0&&(aa x 11 0==aa y 11 0&&(aa x 12 0==aa y 12 0&&(aa x 13 0==aa y 13 0&&(aa x 14 0==aa y 14 0&&(aa x 15 0==aa y 15 0&&(aa x 16 0==aa y 16 0&&(aa x 17 0==aa y 17 0&&(aa x 18 0==aa y 18 0&&(aa x 19 0==aa y 19 0&&(aa x 20 0==aa y 20 0&&(aa x 21 0==aa y 21 0&&(aa x 22 0==aa y 22 0&&(aa x 23 0==aa y 23 0&&(aa x 24 0==aa y 24 0&&(aa x 25 0==aa y 25 0&&(aa x 26 0==aa y 26 0&&(aa x 27 0==aa y 27 0&&(aa x 28 0==aa y 28 0&&(aa x 29 0==aa y 29 0&&(aa x 30 0==aa y 30 0&&(aa x 31 0==aa y 31 0&&af))))))))))))))))))))))))))))))))
def e32q(x y:List Int):Prop:=aa x 0 0=aa y 0 0/\aa x 1 0=aa y 1 0/\aa x 2 0=aa y 2 0/\aa x 3 0=aa y 3 0/\aa x 4 0=aa y 4 0/\aa x 5 0=aa y 5 0/\aa x 6 0=aa y 6 0/\aa x 7 0=aa y 7 0/\aa x 8 0=aa y 8 0/\aa x 9 0=aa y 9 0/\aa x 10 0=aa y 10 0/\aa x 11 0=aa y 11 0/\aa x 12 0=aa y 12 0/\aa x 13 0=aa y 13 0/\aa x 14 0=aa y 14 0/\aa x 15 0=aa y 15 0/\aa x 16 0=aa y 16 0/\aa x 17 0=aa y 17 0/\aa x 18 0=aa y 18 0/\aa x 19 0=aa y 19 0/\aa x 20 0=aa y 20 0/\aa x 21 0=aa y 21 0/\aa x 22 0=aa y 22 0/\aa x 23 0=aa y 23 0/\aa x 24 0=aa y 24 0/\aa x 25 0=aa y 25 0/\aa x 26 0=aa y 26 0/\aa x 27 0=aa y 27 0/\aa x 28 0=aa y 28 0/\aa x 29 0=aa y 29 0/\aa x 30 0=aa y 30 0/\aa x 31 0=aa y 31 0/\True
theorem e32r(x:List Int):e32q x x:=by
 unfold e32q
 repeat' (first|exact rfl|exact js|apply aK)
def z00:Prop:=(0:Int)=0/\(0:Int)=0/\(0:Int)=0/\(0:Int)=0/\(0:Int)=0/\(0:Int)=0/\(0:Int)=0/\(0:Int)=0/\(0:Int)=0/\(0:Int)=0/\(0:Int)=0/\(0:Int)=0/\(0:Int)=0/\(0:Int)=0/\(0:Int)=0/\(0:Int)=0/\(0:Int)=0/\(0:Int)=0/\(0:Int)=0/\(0:Int)=0/\(0:Int)=0/\(0:Int)=0/\(0:Int)=0/\(0:Int)=0/\(0:Int)=0/\(0:Int)=0/\(0:Int)=0/\(0:Int)=0/\(0:Int)=0/\(0:Int)=0/\(0:Int)=0/\(0:Int)=0/\True
theorem Z36:z00=True:=eq_true (by
 unfold z00
 repeat' (first|exact rfl|exact js|apply aK))
def h8q(x:List Int):List Int:= [aa x 0 0,aa x 1 0,aa x 2 0,aa x 3 0,aa x 4 0,aa x 5 0,aa x 6 0,aa x 7 0]
theorem Zz8(ps:List (List Int)) (d:List Int):Zk E2 F20 (vc E2 F20 400) 142 [.psl ke ps ae] hp0 0 (λr=>ret E2 (patch hp0 0 r) r.v (Zm d))=(
 ∃(R:Bool->DX->Prop),((∃(x:DX),R af x/\af=af/\(0=0/\bI aD 0 0=bI aD 0 0/\(ps=ps/\
 (ae=af->ae=af))/\(↑(ab ps):Int)=(↑(ab ps):Int)/\0=(↑(dx x):Int)/\True)/\z00/\True)\/∃(x:DX),R ae x/\af=af/\
 False)/\(∀(x:DX),R af x->(decide ((↑(dx x):Int)<(↑(ab ps):Int))=af->0<=(↑(dx x):Int)/\(↑(dx x):Int)+1<=(↑(ab ps)
 :Int)/\∀(t:List Int),ps[ag (↑(dx x):Int)]? =ah t->(t=([]:List Int)->(∃(j:DX),R af j/\j.2+1<=x.2/\af=af/\(0=(0
 :Nat)/\bI aD 0 0=bI aD 0 0/\(ps=ps/\(ae=af->ae=af))/\(↑(ab ps):Int)=(↑(ab ps):
 Int)/\wr ac ((↑(dx x):Int)+1)=(↑(dx j):Int)/\True)/\z00/\True)\/∃(j:DX),R ae j/\j.2+1<=x.2/\af=af/\False)/\(t≠
 ([]:List Int)->ab t*1<=140737488355328/\((∃(j:DX),R af j/\j.2+1<=x.2/\af=af/\(0=0/\False/\(ps=
 ps/\(ae=af->ae=af))/\(↑(ab ps):Int)=(↑(ab ps):Int)/\wr ac ((↑(dx x):Int)+1)=(↑(dx j):Int)/\True)/\z00/\
 True)\/∃(j:DX),R ae j/\j.2+1<=x.2/\af=af/\(0=0/\(0=0/\ab t=ab (aC j)/\True)/\(ps=
 ps/\(ae=af->ae=af))/\(↑(ab ps):Int)=(↑(ab ps):Int)/\wr ac ((↑(dx x):Int)+1)=(↑(dx j):Int)/\True)/\(t=
 aC j/\0=0)/\z00/\True)))/\(decide ((↑(dx x):Int)<(↑(ab ps):Int))=ae->∃(R:DX->Prop),(∃(x:DX),R x/\af=af/\(0
 =0/\(0=0/\1=ab (aC x)/\True)/\(0:Int)=0/\True)/\([128]=aC x/\0=0)/\z00/\True)/\∀
 (x:DX),R x->((gK (↑(ab (aC x)):Int) 64 !=56)=af->(ab (aC x)<=ab (aC x)/\0<=ab (aC x)/\
 (ab (aC x)+1)*1<=140737488355328)/\∃(j:DX),R j/\j.2+1<=x.2/\af=af/\(0=0/\(0=(0:
 Nat)/\ab (aC x)+1=ab (aC j)/\True)/\(0:Int)=0/\True)/\(aj (ab (aC x)) (aC x)++ [0]=aC j/\(0:
 Nat)=0)/\z00/\True)/\((gK (↑(ab (aC x)):Int) 64 !=56)=ae->∃(R:DX->Prop),(∃(t:DX),R t/\af=af/\(0
 =0/\(0=0/\ab (aC x)=ab (aC t)/\True)/\(0:Int)=0/\56=eY t/\True)/\(aC x=aC t/\(0:
 Nat)=0)/\z00/\True)/\∀(x:DX),R x->(decide (eY x>=0)=af->0<=eY x/\(ab (aC x)<=ab (aC x)/\0<=
 ab (aC x)/\(ab (aC x)+1)*1<=140737488355328)/\∃(j:DX),R j/\j.2+1<=x.2/\af=af/\(0=0
 /\(0=0/\ab (aC x)+1=ab (aC j)/\True)/\(0:Int)=0/\wr ac (eY x-8)=eY j/\True)/\
 (aj (ab (aC x)) (aC x)++ [wr ax (aB 0 (2^min (ag (eY x)) (ak aA)))]=aC j/\0=(0:
 Nat))/\z00/\True)/\(decide (eY x>=0)=ae->∃(R:Bool->DX->Prop),((∃(t:DX),R af t/\af=af/\(0=0/\(0=dd t/\
 ab (aC x)=gL t/\True)/\0=0/\True)/\(1779033703=aa (aP t) 0 0/\3144134277=aa (aP t)
 1 0/\1013904242=aa (aP t) 2 0/\2773480762=aa (aP t) 3 0/\1359893119=aa
 (aP t) 4 0/\2600822924=aa (aP t) 5 0/\528734635=aa (aP t) 6 0/\1541459225=
 aa (aP t) 7 0/\True)/\(aC x=aC x/\0=iJ t)/\z00/\True)\/∃(x:DX),R ae x/\af=af/\(0=0/\False/\
 0=0/\True)/\(1779033703=aa (aP x) 0 0/\3144134277=aa (aP x) 1 0/\1013904242=
 aa (aP x) 2 0/\2773480762=aa (aP x) 3 0/\1359893119=aa (aP x) 4 0/\(2600822924:
 Int)=aa (aP x) 5 0/\528734635=aa (aP x) 6 0/\1541459225=aa (aP x) 7 0/\True)/\
 z00/\True)/\(∀(t:DX),R af t->(decide ((↑(gL t):Int)>0)=af->((0:Int)<=64/\64<=(↑(gL t):Int))/\dd t+ag (64
 :Int)<=ab (aC x)/\(8=8/\ab (aj (ag 64) (aV (dd t) (aC x)))=64)/\((0:Int)<=64/\
 64<=(↑(gL t):Int))/\(decide (64<(↑(gL t):Int))=af->(∃(j:DX),R af j/\j.2+1<=t.2/\af=af/\(0=0/\
 (dd t+ag 64=dd j/\gL t-ag 64=gL j/\True)/\0=0/\True)/\(aa (blkF (h8q (aP t)) (aj
 (ag 64) (aV (dd t) (aC x)))) 0 0=aa (aP j) 0 0/\aa (blkF (h8q (aP t)) (aj (ag (64
 :Int)) (aV (dd t) (aC x)))) 1 0=aa (aP j) 1 0/\aa (blkF (h8q (aP t)) (aj (ag 64)
 (aV (dd t) (aC x)))) 2 0=aa (aP j) 2 0/\aa (blkF (h8q (aP t)) (aj (ag 64) (aV
 (dd t) (aC x)))) 3 0=aa (aP j) 3 0/\aa (blkF (h8q (aP t)) (aj (ag 64) (aV (dd t)
 (aC x)))) 4 0=aa (aP j) 4 0/\aa (blkF (h8q (aP t)) (aj (ag 64) (aV (dd t) (aC x)))) (5
 :Nat) 0=aa (aP j) 5 0/\aa (blkF (h8q (aP t)) (aj (ag 64) (aV (dd t) (aC x)))) 6 (0:
 Int)=aa (aP j) 6 0/\aa (blkF (h8q (aP t)) (aj (ag 64) (aV (dd t) (aC x)))) 7 0=
 aa (aP j) 7 0/\True)/\(aC x=aC x/\mx2 (iJ t) (ab (aC x))=iJ j)/\z00/\True)\/∃(j:DX),R ae j/\j.2+1<=
 t.2/\af=af/\(0=0/\False/\0=0/\True)/\(aa (blkF (h8q (aP t)) (aj (ag 64) (aV (dd t)
 (aC x)))) 0 0=aa (aP j) 0 0/\aa (blkF (h8q (aP t)) (aj (ag 64) (aV (dd t) (aC x)))) (1
 :Nat) 0=aa (aP j) 1 0/\aa (blkF (h8q (aP t)) (aj (ag 64) (aV (dd t) (aC x)))) 2 (0:
 Int)=aa (aP j) 2 0/\aa (blkF (h8q (aP t)) (aj (ag 64) (aV (dd t) (aC x)))) 3 0=
 aa (aP j) 3 0/\aa (blkF (h8q (aP t)) (aj (ag 64) (aV (dd t) (aC x)))) 4 0=aa (aP
 j) 4 0/\aa (blkF (h8q (aP t)) (aj (ag 64) (aV (dd t) (aC x)))) 5 0=aa (aP j) 5
 0/\aa (blkF (h8q (aP t)) (aj (ag 64) (aV (dd t) (aC x)))) 6 0=aa (aP j) 6 0/\
 aa (blkF (h8q (aP t)) (aj (ag 64) (aV (dd t) (aC x)))) 7 0=aa (aP j) 7 0/\True)/\z00/\
 True)/\(decide (64<(↑(gL t):Int))=ae->(∃(j:DX),R af j/\j.2+1<=t.2/\af=af/\(0=0/\False/\0=(0:
 Nat)/\True)/\(aa (blkF (h8q (aP t)) (aj (ag 64) (aV (dd t) (aC x)))) 0 0=aa (aP j) 0 0/\
 aa (blkF (h8q (aP t)) (aj (ag 64) (aV (dd t) (aC x)))) 1 0=aa (aP j) 1 0/\aa (blkF
 (h8q (aP t)) (aj (ag 64) (aV (dd t) (aC x)))) 2 0=aa (aP j) 2 0/\aa (blkF (h8q (aP
 t)) (aj (ag 64) (aV (dd t) (aC x)))) 3 0=aa (aP j) 3 0/\aa (blkF (h8q (aP t))
 (aj (ag 64) (aV (dd t) (aC x)))) 4 0=aa (aP j) 4 0/\aa (blkF (h8q (aP t)) (aj
 (ag 64) (aV (dd t) (aC x)))) 5 0=aa (aP j) 5 0/\aa (blkF (h8q (aP t)) (aj (ag (64
 :Int)) (aV (dd t) (aC x)))) 6 0=aa (aP j) 6 0/\aa (blkF (h8q (aP t)) (aj (ag 64)
 (aV (dd t) (aC x)))) 7 0=aa (aP j) 7 0/\True)/\(aC x=aC x/\mx2 (iJ t) (ab (aC x))=iJ j)/\
 z00/\True)\/∃(j:DX),R ae j/\j.2+1<=t.2/\af=af/\(0=0/\(([]:List Int)=([]:List Int)/\(ae=af->ae=af))/\(0:
 Nat)=0/\True)/\(aa (blkF (h8q (aP t)) (aj (ag 64) (aV (dd t) (aC x)))) 0 0=aa (aP j) 0
 0/\aa (blkF (h8q (aP t)) (aj (ag 64) (aV (dd t) (aC x)))) 1 0=aa (aP j) 1 0/\
 aa (blkF (h8q (aP t)) (aj (ag 64) (aV (dd t) (aC x)))) 2 0=aa (aP j) 2 0/\aa (blkF
 (h8q (aP t)) (aj (ag 64) (aV (dd t) (aC x)))) 3 0=aa (aP j) 3 0/\aa (blkF (h8q (aP
 t)) (aj (ag 64) (aV (dd t) (aC x)))) 4 0=aa (aP j) 4 0/\aa (blkF (h8q (aP t))
 (aj (ag 64) (aV (dd t) (aC x)))) 5 0=aa (aP j) 5 0/\aa (blkF (h8q (aP t)) (aj
 (ag 64) (aV (dd t) (aC x)))) 6 0=aa (aP j) 6 0/\aa (blkF (h8q (aP t)) (aj (ag (64
 :Int)) (aV (dd t) (aC x)))) 7 0=aa (aP j) 7 0/\True)/\z00/\True))/\(decide ((↑(gL t):Int)>0)=ae->
 wr ax (aB (aa (aP t) 0 0) (2^min (ag 24) (ak au)))=aa d 0 0/\wr
 ax (aB (aa (aP t) 0 0) (2^min (ag 16) (ak au)))=aa d 1 0/\wr
 ax (aB (aa (aP t) 0 0) (2^min (ag 8) (ak au)))=aa d 2 0/\wr
 ax (aB (aa (aP t) 0 0) (2^min (ag 0) (ak au)))=aa d 3 0/\wr
 ax (aB (aa (aP t) 1 0) (2^min (ag 24) (ak au)))=aa d 4 0/\wr
 ax (aB (aa (aP t) 1 0) (2^min (ag 16) (ak au)))=aa d 5 0/\wr
 ax (aB (aa (aP t) 1 0) (2^min (ag 8) (ak au)))=aa d 6 0/\wr
 ax (aB (aa (aP t) 1 0) (2^min (ag 0) (ak au)))=aa d 7 0/\wr
 ax (aB (aa (aP t) 2 0) (2^min (ag 24) (ak au)))=aa d 8 0/\wr
 ax (aB (aa (aP t) 2 0) (2^min (ag 16) (ak au)))=aa d 9 0/\wr
 ax (aB (aa (aP t) 2 0) (2^min (ag 8) (ak au)))=aa d 10 0/\wr
 ax (aB (aa (aP t) 2 0) (2^min (ag 0) (ak au)))=aa d 11 0/\wr
 ax (aB (aa (aP t) 3 0) (2^min (ag 24) (ak au)))=aa d 12 0/\wr
 ax (aB (aa (aP t) 3 0) (2^min (ag 16) (ak au)))=aa d 13 0/\wr
 ax (aB (aa (aP t) 3 0) (2^min (ag 8) (ak au)))=aa d 14 0/\wr
 ax (aB (aa (aP t) 3 0) (2^min (ag 0) (ak au)))=aa d 15 0/\wr
 ax (aB (aa (aP t) 4 0) (2^min (ag 24) (ak au)))=aa d 16 0/\wr
 ax (aB (aa (aP t) 4 0) (2^min (ag 16) (ak au)))=aa d 17 0/\wr
 ax (aB (aa (aP t) 4 0) (2^min (ag 8) (ak au)))=aa d 18 0/\wr
 ax (aB (aa (aP t) 4 0) (2^min (ag 0) (ak au)))=aa d 19 0/\wr
 ax (aB (aa (aP t) 5 0) (2^min (ag 24) (ak au)))=aa d 20 0/\wr
 ax (aB (aa (aP t) 5 0) (2^min (ag 16) (ak au)))=aa d 21 0/\wr
 ax (aB (aa (aP t) 5 0) (2^min (ag 8) (ak au)))=aa d 22 0/\wr
 ax (aB (aa (aP t) 5 0) (2^min (ag 0) (ak au)))=aa d 23 0/\wr
 ax (aB (aa (aP t) 6 0) (2^min (ag 24) (ak au)))=aa d 24 0/\wr
 ax (aB (aa (aP t) 6 0) (2^min (ag 16) (ak au)))=aa d 25 0/\wr
 ax (aB (aa (aP t) 6 0) (2^min (ag 8) (ak au)))=aa d 26 0/\wr
 ax (aB (aa (aP t) 6 0) (2^min (ag 0) (ak au)))=aa d 27 0/\wr
 ax (aB (aa (aP t) 7 0) (2^min (ag 24) (ak au)))=aa d 28 0/\wr
 ax (aB (aa (aP t) 7 0) (2^min (ag 16) (ak au)))=aa d 29 0/\wr
 ax (aB (aa (aP t) 7 0) (2^min (ag 8) (ak au)))=aa d 30 0/\wr
 ax (aB (aa (aP t) 7 0) (2^min (ag 0) (ak au)))=aa d 31 0/\True))/\∀
 (x:DX),R ae x->(decide ((↑(0:Nat):Int)>0)=af->((0:Int)<=64/\64<=(↑(0:Nat):Int))/\(8=8/\ab (aj
 (ag 64) ([]:List Int))=64)/\((0:Int)<=64/\64<=(↑(0:Nat):Int))/\((∃(j:DX),R af j/\j.2+1<=x.2/\af=af
 /\(0=0/\False/\0=0/\True)/\(aa (blkF (h8q (aP x)) (aj (ag 64) ([]:List Int))) 0 0=
 aa (aP j) 0 0/\aa (blkF (h8q (aP x)) (aj (ag 64) ([]:List Int))) 1 0=aa (aP j) 1 (0
 :Int)/\aa (blkF (h8q (aP x)) (aj (ag 64) ([]:List Int))) 2 0=aa (aP j) 2 0/\aa (blkF (h8q
 (aP x)) (aj (ag 64) ([]:List Int))) 3 0=aa (aP j) 3 0/\aa (blkF (h8q (aP x)) (aj (ag
 64) ([]:List Int))) 4 0=aa (aP j) 4 0/\aa (blkF (h8q (aP x)) (aj (ag 64) ([]:List Int))) (5
 :Nat) 0=aa (aP j) 5 0/\aa (blkF (h8q (aP x)) (aj (ag 64) ([]:List Int))) 6 0=aa
 (aP j) 6 0/\aa (blkF (h8q (aP x)) (aj (ag 64) ([]:List Int))) 7 0=aa (aP j) 7 0/\
 True)/\False/\z00/\True)\/∃(j:DX),R ae j/\j.2+1<=x.2/\af=af/\(0=0/\(aV (ag 64) ([]:List Int)=([]:
 List Int)/\(ae=af->ae=af))/\0=0/\True)/\(aa (blkF (h8q (aP x)) (aj (ag 64) ([]:List Int))) 0 0
 =aa (aP j) 0 0/\aa (blkF (h8q (aP x)) (aj (ag 64) ([]:List Int))) 1 0=aa (aP j) 1
 0/\aa (blkF (h8q (aP x)) (aj (ag 64) ([]:List Int))) 2 0=aa (aP j) 2 0/\aa (blkF (h8q
 (aP x)) (aj (ag 64) ([]:List Int))) 3 0=aa (aP j) 3 0/\aa (blkF (h8q (aP x)) (aj (ag
 64) ([]:List Int))) 4 0=aa (aP j) 4 0/\aa (blkF (h8q (aP x)) (aj (ag 64) ([]:List Int))) (5
 :Nat) 0=aa (aP j) 5 0/\aa (blkF (h8q (aP x)) (aj (ag 64) ([]:List Int))) 6 0=aa
 (aP j) 6 0/\aa (blkF (h8q (aP x)) (aj (ag 64) ([]:List Int))) 7 0=aa (aP j) 7 0/\
 True)/\z00/\True))/\(decide ((↑(0:Nat):Int)>0)=ae->wr ax (aB (aa (aP x) 0 0) (2^min (ag 24)
 (ak au)))=aa d 0 0/\wr ax (aB (aa (aP x) 0 0) (2^min (ag 16)
 (ak au)))=aa d 1 0/\wr ax (aB (aa (aP x) 0 0) (2^min (ag 8)
 (ak au)))=aa d 2 0/\wr ax (aB (aa (aP x) 0 0) (2^min (ag 0)
 (ak au)))=aa d 3 0/\wr ax (aB (aa (aP x) 1 0) (2^min (ag 24)
 (ak au)))=aa d 4 0/\wr ax (aB (aa (aP x) 1 0) (2^min (ag 16)
 (ak au)))=aa d 5 0/\wr ax (aB (aa (aP x) 1 0) (2^min (ag 8)
 (ak au)))=aa d 6 0/\wr ax (aB (aa (aP x) 1 0) (2^min (ag 0)
 (ak au)))=aa d 7 0/\wr ax (aB (aa (aP x) 2 0) (2^min (ag 24)
 (ak au)))=aa d 8 0/\wr ax (aB (aa (aP x) 2 0) (2^min (ag 16)
 (ak au)))=aa d 9 0/\wr ax (aB (aa (aP x) 2 0) (2^min (ag 8)
 (ak au)))=aa d 10 0/\wr ax (aB (aa (aP x) 2 0) (2^min (ag 0)
 (ak au)))=aa d 11 0/\wr ax (aB (aa (aP x) 3 0) (2^min (ag 24)
 (ak au)))=aa d 12 0/\wr ax (aB (aa (aP x) 3 0) (2^min (ag 16)
 (ak au)))=aa d 13 0/\wr ax (aB (aa (aP x) 3 0) (2^min (ag 8)
 (ak au)))=aa d 14 0/\wr ax (aB (aa (aP x) 3 0) (2^min (ag 0)
 (ak au)))=aa d 15 0/\wr ax (aB (aa (aP x) 4 0) (2^min (ag 24)
 (ak au)))=aa d 16 0/\wr ax (aB (aa (aP x) 4 0) (2^min (ag 16)
 (ak au)))=aa d 17 0/\wr ax (aB (aa (aP x) 4 0) (2^min (ag 8)
 (ak au)))=aa d 18 0/\wr ax (aB (aa (aP x) 4 0) (2^min (ag 0)
 (ak au)))=aa d 19 0/\wr ax (aB (aa (aP x) 5 0) (2^min (ag 24)
 (ak au)))=aa d 20 0/\wr ax (aB (aa (aP x) 5 0) (2^min (ag 16)
 (ak au)))=aa d 21 0/\wr ax (aB (aa (aP x) 5 0) (2^min (ag 8)
 (ak au)))=aa d 22 0/\wr ax (aB (aa (aP x) 5 0) (2^min (ag 0)
 (ak au)))=aa d 23 0/\wr ax (aB (aa (aP x) 6 0) (2^min (ag 24)
 (ak au)))=aa d 24 0/\wr ax (aB (aa (aP x) 6 0) (2^min (ag 16)
 (ak au)))=aa d 25 0/\wr ax (aB (aa (aP x) 6 0) (2^min (ag 8)
 (ak au)))=aa d 26 0/\wr ax (aB (aa (aP x) 6 0) (2^min (ag 0)
 (ak au)))=aa d 27 0/\wr ax (aB (aa (aP x) 7 0) (2^min (ag 24)
 (ak au)))=aa d 28 0/\wr ax (aB (aa (aP x) 7 0) (2^min (ag 16)
 (ak au)))=aa d 29 0/\wr ax (aB (aa (aP x) 7 0) (2^min (ag 8)
 (ak au)))=aa d 30 0/\wr ax (aB (aa (aP x) 7 0) (2^min (ag 0)
 (ak au)))=aa d 31 0/\True)))))/\∀(x:DX),R ae x->(decide ((↑(dx x):Int)<(↑(ab ps):Int))=af->0<=
 (↑(dx x):Int)/\(↑(dx x):Int)+1<=(↑(ab ps):Int)/\∀(t:List Int),ps[ag (↑(dx x):Int)]? =ah t->(t=([]:List Int)->(∃(j:
 DX),R af j/\j.2+1<=x.2/\af=af/\(0=0/\False/\(ps=ps/\(ae=af->ae=af))/\(↑(ab ps):Int)=(↑(ab ps)
 :Int)/\wr ac ((↑(dx x):Int)+1)=(↑(dx j):Int)/\True)/\z00/\True)\/∃(j:DX),R ae j/\j.2+1<=x.2/\af=af/\(0=
 0/\(0=0/\ab (aC x)=ab (aC j)/\True)/\(ps=ps/\(ae=af->ae=af))/\(↑(ab ps):Int)=(↑(ab
 ps):Int)/\wr ac ((↑(dx x):Int)+1)=(↑(dx j):Int)/\True)/\(aC x=aC j/\0=0)/\z00/\True)/\(t≠([]:List Int)->
 (ab (aC x)<=ab (aC x)/\0<=ab (aC x)/\(ab (aC x)+ab t)*1<=140737488355328)/\((∃(j:DX),R
 af j/\j.2+1<=x.2/\af=af/\(0=0/\False/\(ps=ps/\(ae=af->ae=af))/\(↑(ab ps):Int)=(↑(ab ps):Int)
 /\wr ac ((↑(dx x):Int)+1)=(↑(dx j):Int)/\True)/\z00/\True)\/∃(j:DX),R ae j/\j.2+1<=x.2/\af=af/\(0=(0:
 Nat)/\(0=0/\ab (aC x)+ab t=ab (aC j)/\True)/\(ps=ps/\(ae=af->ae=af))/\(↑(ab ps):Int)=
 (↑(ab ps):Int)/\wr ac ((↑(dx x):Int)+1)=(↑(dx j):Int)/\True)/\(aj (ab (aC x)) (aC x)++t=aC j/\0=
 0)/\z00/\True)))/\(decide ((↑(dx x):Int)<(↑(ab ps):Int))=ae->(ab (aC x)<=ab (aC x)/\0<=ab (aC x)/\
 (ab (aC x)+1)*1<=140737488355328)/\∃(R:DX->Prop),(∃(t:DX),R t/\af=af/\(0=0/\(0=0
 /\ab (aC x)+1=ab (aC t)/\True)/\wr aA (wr aA (↑(ab (aC x)):Int)*8)=wr aA (wr aA
 (↑(ab (aC x)):Int)*8)/\True)/\(aj (ab (aC x)) (aC x)++ [128]=aC t/\0=0)/\z00/\True)/\∀(t:DX),
 R t->((gK (↑(ab (aC t)):Int) 64 !=56)=af->(ab (aC t)<=ab (aC t)/\0<=ab (aC t)/\
 (ab (aC t)+1)*1<=140737488355328)/\∃(j:DX),R j/\j.2+1<=t.2/\af=af/\(0=0/\(0=(0
 :Nat)/\ab (aC t)+1=ab (aC j)/\True)/\wr aA (wr aA (↑(ab (aC x)):Int)*8)=wr aA (wr
 aA (↑(ab (aC x)):Int)*8)/\True)/\(aj (ab (aC t)) (aC t)++ [0]=aC j/\0=0)/\z00/\True)/\
 ((gK (↑(ab (aC t)):Int) 64 !=56)=ae->∃(R:DX->Prop),(∃(I:DX),R I/\af=af/\(0=0/\(0=(0:
 Nat)/\ab (aC t)=ab (aC I)/\True)/\wr aA (wr aA (↑(ab (aC x)):Int)*8)=wr aA (wr aA
 (↑(ab (aC x)):Int)*8)/\56=eY I/\True)/\(aC t=aC I/\0=0)/\z00/\True)/\∀(I:DX),R I->(decide (eY I
 >=0)=af->0<=eY I/\(ab (aC I)<=ab (aC I)/\0<=ab (aC I)/\(ab (aC I)+1)*(1:
 Nat)<=140737488355328)/\∃(j:DX),R j/\j.2+1<=I.2/\af=af/\(0=0/\(0=0/\ab (aC I)+1
 =ab (aC j)/\True)/\wr aA (wr aA (↑(ab (aC x)):Int)*8)=wr aA (wr aA (↑(ab (aC x)):Int)*(8
 :Int))/\wr ac (eY I-8)=eY j/\True)/\(aj (ab (aC I)) (aC I)++ [wr ax (aB (wr aA (wr aA
 (↑(ab (aC x)):Int)*8)) (2^min (ag (eY I)) (ak aA)))]=aC j/\0=0)/\z00/\True)/\(decide (eY
 I>=0)=ae->∃(R:Bool->DX->Prop),((∃(x:DX),R af x/\af=af/\(0=0/\(0=dd x/\ab (aC I)=gL x/\True)/\
 0=0/\True)/\(1779033703=aa (aP x) 0 0/\3144134277=aa (aP x) 1 0/\1013904242=
 aa (aP x) 2 0/\2773480762=aa (aP x) 3 0/\1359893119=aa (aP x) 4 0/\(2600822924:
 Int)=aa (aP x) 5 0/\528734635=aa (aP x) 6 0/\1541459225=aa (aP x) 7 0/\True)/\
 (aC I=aC I/\0=iJ x)/\z00/\True)\/∃(x:DX),R ae x/\af=af/\(0=0/\False/\0=0/\True)/\((1779033703:
 Int)=aa (aP x) 0 0/\3144134277=aa (aP x) 1 0/\1013904242=aa (aP x) 2 0/\
 2773480762=aa (aP x) 3 0/\1359893119=aa (aP x) 4 0/\2600822924=aa (aP x) 5 (0:
 Int)/\528734635=aa (aP x) 6 0/\1541459225=aa (aP x) 7 0/\True)/\z00/\True)/\(∀(x:DX),R af x->
 (decide ((↑(gL x):Int)>0)=af->((0:Int)<=64/\64<=(↑(gL x):Int))/\dd x+ag 64<=ab (aC I)/\(8=
 8/\ab (aj (ag 64) (aV (dd x) (aC I)))=64)/\((0:Int)<=64/\64<=(↑(gL x):Int))/\(decide ((64
 :Int)<(↑(gL x):Int))=af->(∃(j:DX),R af j/\j.2+1<=x.2/\af=af/\(0=0/\(dd x+ag 64=dd j/\gL x-
 ag 64=gL j/\True)/\0=0/\True)/\(aa (blkF (h8q (aP x)) (aj (ag 64) (aV (dd x) (aC I)))) (0:
 Nat) 0=aa (aP j) 0 0/\aa (blkF (h8q (aP x)) (aj (ag 64) (aV (dd x) (aC I)))) 1 0=
 aa (aP j) 1 0/\aa (blkF (h8q (aP x)) (aj (ag 64) (aV (dd x) (aC I)))) 2 0=aa (aP
 j) 2 0/\aa (blkF (h8q (aP x)) (aj (ag 64) (aV (dd x) (aC I)))) 3 0=aa (aP j) 3 (0
 :Int)/\aa (blkF (h8q (aP x)) (aj (ag 64) (aV (dd x) (aC I)))) 4 0=aa (aP j) 4 0/\
 aa (blkF (h8q (aP x)) (aj (ag 64) (aV (dd x) (aC I)))) 5 0=aa (aP j) 5 0/\aa (blkF
 (h8q (aP x)) (aj (ag 64) (aV (dd x) (aC I)))) 6 0=aa (aP j) 6 0/\aa (blkF (h8q (aP x))
 (aj (ag 64) (aV (dd x) (aC I)))) 7 0=aa (aP j) 7 0/\True)/\(aC I=aC I/\mx2 (iJ x)
 (ab (aC I))=iJ j)/\z00/\True)\/∃(j:DX),R ae j/\j.2+1<=x.2/\af=af/\(0=0/\False/\0=0/\True)
 /\(aa (blkF (h8q (aP x)) (aj (ag 64) (aV (dd x) (aC I)))) 0 0=aa (aP j) 0 0/\aa
 (blkF (h8q (aP x)) (aj (ag 64) (aV (dd x) (aC I)))) 1 0=aa (aP j) 1 0/\aa (blkF (h8q (aP
 x)) (aj (ag 64) (aV (dd x) (aC I)))) 2 0=aa (aP j) 2 0/\aa (blkF (h8q (aP x)) (aj
 (ag 64) (aV (dd x) (aC I)))) 3 0=aa (aP j) 3 0/\aa (blkF (h8q (aP x)) (aj (ag (64:
 Int)) (aV (dd x) (aC I)))) 4 0=aa (aP j) 4 0/\aa (blkF (h8q (aP x)) (aj (ag 64) (aV
 (dd x) (aC I)))) 5 0=aa (aP j) 5 0/\aa (blkF (h8q (aP x)) (aj (ag 64) (aV (dd x) (aC
 I)))) 6 0=aa (aP j) 6 0/\aa (blkF (h8q (aP x)) (aj (ag 64) (aV (dd x) (aC I)))) 7
 0=aa (aP j) 7 0/\True)/\z00/\True)/\(decide (64<(↑(gL x):Int))=ae->(∃(j:DX),R af j/\j.2+1<=x.2/\
 af=af/\(0=0/\False/\0=0/\True)/\(aa (blkF (h8q (aP x)) (aj (ag 64) (aV (dd x) (aC I))))
 0 0=aa (aP j) 0 0/\aa (blkF (h8q (aP x)) (aj (ag 64) (aV (dd x) (aC I)))) 1 (0:
 Int)=aa (aP j) 1 0/\aa (blkF (h8q (aP x)) (aj (ag 64) (aV (dd x) (aC I)))) 2 0=aa
 (aP j) 2 0/\aa (blkF (h8q (aP x)) (aj (ag 64) (aV (dd x) (aC I)))) 3 0=aa (aP j) (3:
 Nat) 0/\aa (blkF (h8q (aP x)) (aj (ag 64) (aV (dd x) (aC I)))) 4 0=aa (aP j) 4 0/\
 aa (blkF (h8q (aP x)) (aj (ag 64) (aV (dd x) (aC I)))) 5 0=aa (aP j) 5 0/\aa (blkF
 (h8q (aP x)) (aj (ag 64) (aV (dd x) (aC I)))) 6 0=aa (aP j) 6 0/\aa (blkF (h8q (aP x))
 (aj (ag 64) (aV (dd x) (aC I)))) 7 0=aa (aP j) 7 0/\True)/\(aC I=aC I/\mx2 (iJ x)
 (ab (aC I))=iJ j)/\z00/\True)\/∃(j:DX),R ae j/\j.2+1<=x.2/\af=af/\(0=0/\(([]:List Int)=([]:List Int)/\
 (ae=af->ae=af))/\0=0/\True)/\(aa (blkF (h8q (aP x)) (aj (ag 64) (aV (dd x) (aC I)))) 0 (0:
 Int)=aa (aP j) 0 0/\aa (blkF (h8q (aP x)) (aj (ag 64) (aV (dd x) (aC I)))) 1 0=aa
 (aP j) 1 0/\aa (blkF (h8q (aP x)) (aj (ag 64) (aV (dd x) (aC I)))) 2 0=aa (aP j) (2:
 Nat) 0/\aa (blkF (h8q (aP x)) (aj (ag 64) (aV (dd x) (aC I)))) 3 0=aa (aP j) 3 0/\
 aa (blkF (h8q (aP x)) (aj (ag 64) (aV (dd x) (aC I)))) 4 0=aa (aP j) 4 0/\aa (blkF
 (h8q (aP x)) (aj (ag 64) (aV (dd x) (aC I)))) 5 0=aa (aP j) 5 0/\aa (blkF (h8q (aP x))
 (aj (ag 64) (aV (dd x) (aC I)))) 6 0=aa (aP j) 6 0/\aa (blkF (h8q (aP x)) (aj
 (ag 64) (aV (dd x) (aC I)))) 7 0=aa (aP j) 7 0/\True)/\z00/\True))/\(decide ((↑(gL x):Int)>(0:
 Int))=ae->wr ax (aB (aa (aP x) 0 0) (2^min (ag 24) (ak au)))=aa d 0 (0:
 Int)/\wr ax (aB (aa (aP x) 0 0) (2^min (ag 16) (ak au)))=aa d 1 0/\wr
 ax (aB (aa (aP x) 0 0) (2^min (ag 8) (ak au)))=aa d 2 0/\wr ax
 (aB (aa (aP x) 0 0) (2^min (ag 0) (ak au)))=aa d 3 0/\wr ax (aB
 (aa (aP x) 1 0) (2^min (ag 24) (ak au)))=aa d 4 0/\wr ax (aB (aa
 (aP x) 1 0) (2^min (ag 16) (ak au)))=aa d 5 0/\wr ax (aB (aa (aP x)
 1 0) (2^min (ag 8) (ak au)))=aa d 6 0/\wr ax (aB (aa (aP x) 1
 0) (2^min (ag 0) (ak au)))=aa d 7 0/\wr ax (aB (aa (aP x) 2 0)
 (2^min (ag 24) (ak au)))=aa d 8 0/\wr ax (aB (aa (aP x) 2 0) (2
 ^min (ag 16) (ak au)))=aa d 9 0/\wr ax (aB (aa (aP x) 2 0) (2^min
 (ag 8) (ak au)))=aa d 10 0/\wr ax (aB (aa (aP x) 2 0) (2^min (ag
 0) (ak au)))=aa d 11 0/\wr ax (aB (aa (aP x) 3 0) (2^min (ag (24:
 Int)) (ak au)))=aa d 12 0/\wr ax (aB (aa (aP x) 3 0) (2^min (ag 16)
 (ak au)))=aa d 13 0/\wr ax (aB (aa (aP x) 3 0) (2^min (ag 8)
 (ak au)))=aa d 14 0/\wr ax (aB (aa (aP x) 3 0) (2^min (ag 0)
 (ak au)))=aa d 15 0/\wr ax (aB (aa (aP x) 4 0) (2^min (ag 24)
 (ak au)))=aa d 16 0/\wr ax (aB (aa (aP x) 4 0) (2^min (ag 16)
 (ak au)))=aa d 17 0/\wr ax (aB (aa (aP x) 4 0) (2^min (ag 8)
 (ak au)))=aa d 18 0/\wr ax (aB (aa (aP x) 4 0) (2^min (ag 0)
 (ak au)))=aa d 19 0/\wr ax (aB (aa (aP x) 5 0) (2^min (ag 24)
 (ak au)))=aa d 20 0/\wr ax (aB (aa (aP x) 5 0) (2^min (ag 16)
 (ak au)))=aa d 21 0/\wr ax (aB (aa (aP x) 5 0) (2^min (ag 8)
 (ak au)))=aa d 22 0/\wr ax (aB (aa (aP x) 5 0) (2^min (ag 0)
 (ak au)))=aa d 23 0/\wr ax (aB (aa (aP x) 6 0) (2^min (ag 24)
 (ak au)))=aa d 24 0/\wr ax (aB (aa (aP x) 6 0) (2^min (ag 16)
 (ak au)))=aa d 25 0/\wr ax (aB (aa (aP x) 6 0) (2^min (ag 8)
 (ak au)))=aa d 26 0/\wr ax (aB (aa (aP x) 6 0) (2^min (ag 0)
 (ak au)))=aa d 27 0/\wr ax (aB (aa (aP x) 7 0) (2^min (ag 24)
 (ak au)))=aa d 28 0/\wr ax (aB (aa (aP x) 7 0) (2^min (ag 16)
 (ak au)))=aa d 29 0/\wr ax (aB (aa (aP x) 7 0) (2^min (ag 8)
 (ak au)))=aa d 30 0/\wr ax (aB (aa (aP x) 7 0) (2^min (ag 0)
 (ak au)))=aa d 31 0/\True))/\∀(x:DX),R ae x->(decide ((↑(0:Nat):Int)>0)=af->((0:Int)<=64/\(64:
 Int)<=(↑(0:Nat):Int))/\(8=8/\ab (aj (ag 64) ([]:List Int))=64)/\((0:Int)<=64/\64<=(↑(0:
 Nat):Int))/\((∃(j:DX),R af j/\j.2+1<=x.2/\af=af/\(0=0/\False/\0=0/\True)/\(aa (blkF (h8q (aP x))
 (aj (ag 64) ([]:List Int))) 0 0=aa (aP j) 0 0/\aa (blkF (h8q (aP x)) (aj (ag 64)
 ([]:List Int))) 1 0=aa (aP j) 1 0/\aa (blkF (h8q (aP x)) (aj (ag 64) ([]:List Int))) 2 (0:
 Int)=aa (aP j) 2 0/\aa (blkF (h8q (aP x)) (aj (ag 64) ([]:List Int))) 3 0=aa (aP j) (3:
 Nat) 0/\aa (blkF (h8q (aP x)) (aj (ag 64) ([]:List Int))) 4 0=aa (aP j) 4 0/\aa (blkF
 (h8q (aP x)) (aj (ag 64) ([]:List Int))) 5 0=aa (aP j) 5 0/\aa (blkF (h8q (aP x)) (aj
 (ag 64) ([]:List Int))) 6 0=aa (aP j) 6 0/\aa (blkF (h8q (aP x)) (aj (ag 64) ([]:List
 Int))) 7 0=aa (aP j) 7 0/\True)/\False/\z00/\True)\/∃(j:DX),R ae j/\j.2+1<=x.2/\af=af/\(0=
 0/\(aV (ag 64) ([]:List Int)=([]:List Int)/\(ae=af->ae=af))/\0=0/\True)/\(aa (blkF (h8q (aP x))
 (aj (ag 64) ([]:List Int))) 0 0=aa (aP j) 0 0/\aa (blkF (h8q (aP x)) (aj (ag 64)
 ([]:List Int))) 1 0=aa (aP j) 1 0/\aa (blkF (h8q (aP x)) (aj (ag 64) ([]:List Int))) 2 (0:
 Int)=aa (aP j) 2 0/\aa (blkF (h8q (aP x)) (aj (ag 64) ([]:List Int))) 3 0=aa (aP j) (3:
 Nat) 0/\aa (blkF (h8q (aP x)) (aj (ag 64) ([]:List Int))) 4 0=aa (aP j) 4 0/\aa (blkF
 (h8q (aP x)) (aj (ag 64) ([]:List Int))) 5 0=aa (aP j) 5 0/\aa (blkF (h8q (aP x)) (aj
 (ag 64) ([]:List Int))) 6 0=aa (aP j) 6 0/\aa (blkF (h8q (aP x)) (aj (ag 64) ([]:List
 Int))) 7 0=aa (aP j) 7 0/\True)/\z00/\True))/\(decide ((↑(0:Nat):Int)>0)=ae->wr ax (aB (aa
 (aP x) 0 0) (2^min (ag 24) (ak au)))=aa d 0 0/\wr ax (aB (aa (aP x)
 0 0) (2^min (ag 16) (ak au)))=aa d 1 0/\wr ax (aB (aa (aP x) 0
 0) (2^min (ag 8) (ak au)))=aa d 2 0/\wr ax (aB (aa (aP x) 0 0)
 (2^min (ag 0) (ak au)))=aa d 3 0/\wr ax (aB (aa (aP x) 1 0) (2
 ^min (ag 24) (ak au)))=aa d 4 0/\wr ax (aB (aa (aP x) 1 0) (2^min
 (ag 16) (ak au)))=aa d 5 0/\wr ax (aB (aa (aP x) 1 0) (2^min (ag
 8) (ak au)))=aa d 6 0/\wr ax (aB (aa (aP x) 1 0) (2^min (ag 0)
 (ak au)))=aa d 7 0/\wr ax (aB (aa (aP x) 2 0) (2^min (ag 24)
 (ak au)))=aa d 8 0/\wr ax (aB (aa (aP x) 2 0) (2^min (ag 16)
 (ak au)))=aa d 9 0/\wr ax (aB (aa (aP x) 2 0) (2^min (ag 8)
 (ak au)))=aa d 10 0/\wr ax (aB (aa (aP x) 2 0) (2^min (ag 0)
 (ak au)))=aa d 11 0/\wr ax (aB (aa (aP x) 3 0) (2^min (ag 24)
 (ak au)))=aa d 12 0/\wr ax (aB (aa (aP x) 3 0) (2^min (ag 16)
 (ak au)))=aa d 13 0/\wr ax (aB (aa (aP x) 3 0) (2^min (ag 8)
 (ak au)))=aa d 14 0/\wr ax (aB (aa (aP x) 3 0) (2^min (ag 0)
 (ak au)))=aa d 15 0/\wr ax (aB (aa (aP x) 4 0) (2^min (ag 24)
 (ak au)))=aa d 16 0/\wr ax (aB (aa (aP x) 4 0) (2^min (ag 16)
 (ak au)))=aa d 17 0/\wr ax (aB (aa (aP x) 4 0) (2^min (ag 8)
 (ak au)))=aa d 18 0/\wr ax (aB (aa (aP x) 4 0) (2^min (ag 0)
 (ak au)))=aa d 19 0/\wr ax (aB (aa (aP x) 5 0) (2^min (ag 24)
 (ak au)))=aa d 20 0/\wr ax (aB (aa (aP x) 5 0) (2^min (ag 16)
 (ak au)))=aa d 21 0/\wr ax (aB (aa (aP x) 5 0) (2^min (ag 8)
 (ak au)))=aa d 22 0/\wr ax (aB (aa (aP x) 5 0) (2^min (ag 0)
 (ak au)))=aa d 23 0/\wr ax (aB (aa (aP x) 6 0) (2^min (ag 24)
 (ak au)))=aa d 24 0/\wr ax (aB (aa (aP x) 6 0) (2^min (ag 16)
 (ak au)))=aa d 25 0/\wr ax (aB (aa (aP x) 6 0) (2^min (ag 8)
 (ak au)))=aa d 26 0/\wr ax (aB (aa (aP x) 6 0) (2^min (ag 0)
 (ak au)))=aa d 27 0/\wr ax (aB (aa (aP x) 7 0) (2^min (ag 24)
 (ak au)))=aa d 28 0/\wr ax (aB (aa (aP x) 7 0) (2^min (ag 16)
 (ak au)))=aa d 29 0/\wr ax (aB (aa (aP x) 7 0) (2^min (ag 8)
 (ak au)))=aa d 30 0/\wr ax (aB (aa (aP x) 7 0) (2^min (ag 0)
 (ak au)))=aa d 31 0/\True))))):=by kernel_rfl
end
section
open Go
set_option maxHeartbeats 4000000
def zc(n:Nat):Nat:=(119-n%64)%64
def len8(n:Int) (j:Nat):List Int:=(cy j).map λk:Nat=>wr .u8 (aB n (2^min (ag (56-8*(k:Int))) 64))
def padF(m:List Int):List Int:=m++ [128]++aS (zc m.length) 0++len8 (wr .u64 (wr .u64 (m.length:Int)*8)) 8
noncomputable def Zaz:Nat->List Int->List Int->List Int
 |0,h,_=>h
 |n+1,h,m=>Zaz n (blkF h (m.take 64)) (m.drop 64)
def H0:List Int:= [1779033703,3144134277,1013904242,2773480762,1359893119,2600822924,528734635,1541459225]
def digF(H:List Int):List Int:=(cy 32).map λi=>wr .u8 (aB (H.getD (i/4) 0) (2^min (24-8*(i%4)) 32))
noncomputable def shaF(m:List Int):List Int:=digF (Zaz ((padF m).length/64) H0 (padF m))
theorem Zci(n:Int) (j:Nat):(len8 n j).length=j:=by simp[len8]
theorem Zfq(n:Int) (j:Nat):len8 n (j+1)=len8 n j++ [wr .u8 (aB n (2^min (ag (56-8*(j:Int))) 64))]:=by simp[len8,fp]
theorem Zyx(m:List Int):(padF m).length%64=0:=by
 simp only[padF,aO,List.length_replicate,Zci,aT,bF,zc];omega
theorem Yba{H:List Int} (h:H.length=8): [H.getD 0 0,H.getD 1 0,H.getD 2 0,H.getD 3 0,H.getD 4 0,H.getD 5 0,H.getD 6 0,H.getD 7 0]=H:=all8 (P:=λH=> [H.getD 0 0,H.getD 1 0,H.getD 2 0,H.getD 3 0,H.getD 4 0,H.getD 5 0,H.getD 6 0,H.getD 7 0]=H) (λ_ _ _ _ _ _ _ _=>rfl) H h
theorem Zq2(ps:List (List Int)) (p:List Int) (r:List (List Int)) (I:ps=p::r) (hp:p≠ []) (c5:ps.flatten.length<=1000000) (c4:ps.length<=1000000):PureC E2 142 [.psl ke ps ae] (Zm (shaF ps.flatten)):=by
 refine Za Zd (Zb Zd Z9h 400) ?_;rw[Zz8];simp only[h8q,Z36];have b9:0<ps.length:=by rw[I];simp
 simp only[Zz,Zs,Ys,Yt,Yu,gF,gM,fV,fX,fw,fk,bw,bD,bh,bJ,az,bZ,cm,aX,ib,Zx,Z4,ne_eq,and_true,true_and,bu,bc,false_or,or_false,jn,bi,il,iF,bV,eq_self,false_and,and_false,exists_false,ak,bB,jC]
 have a6:∀n:Nat,gK (n:Int) 64=((n%64:Nat):Int):=λn=>rfl;refine⟨λs x=>match s with|true=>x.k=0/\x.r=ps.length+1|false=>1<=x.k/\x.k<=ps.length/\x.D=(ps.take x.k).flatten/\x.r=ps.length-x.k,⟨⟨0,ps.length+1,[],[],0,0,0,0⟩,⟨rfl,rfl⟩,rfl⟩,?_,?_⟩
 ·rintro x ⟨t,hr⟩
  refine aK (λ_=> ?_) (λh=>jv h (by rw[t];omega));rw[t];refine⟨by omega,by omega,λy J=> ?_⟩;rw[I] at J;cases J;refine aK (λh=>jv h hp) (λ_=> ?_);refine⟨?_,⟨1,ps.length-1,p,[],0,0,0,0⟩,⟨aE _,b9,?_,rfl⟩,?_,⟨rfl,?_⟩,rfl⟩
  ·have:p.length<=ps.flatten.length:=by rw[I];simp
   omega
  ·rw[I];simp
  ·show ps.length-1+1<=x.r
   omega
  ·exact wr64 (by omega) (by omega)
 ·rintro x ⟨b7,b8,U,hr⟩
  refine aK (λh=> ?_) (λh=> ?_)
  ·have a5:x.k<ps.length:=by omega
   refine⟨by omega,by omega,λy J=> ?_⟩;have ht:(ps.take (x.k+1)).flatten=x.D++y:=by rw[List.take_add_one,J,U];simp
   have c1:(ps.take (x.k+1)).flatten.length<=ps.flatten.length:=by
    have e:ps.flatten=(ps.take (x.k+1)).flatten++(ps.drop (x.k+1)).flatten:=by rw[<-List.flatten_append,dz]
    rw[e,aO];omega
   rw[ht,aO] at c1;have hw:wr .i64 ((x.k:Int)+1)=((x.k+1:Nat):Int):=wr64 (by omega) (by omega);refine aK (λa9=> ?_) (λa9=> ?_)
   ·refine⟨⟨x.k+1,x.r-1,x.D,[],0,0,0,0⟩,⟨by show 1<=x.k+1;omega,a5,?_,by show x.r-1=ps.length-(x.k+1);omega⟩,by show x.r-1+1<=x.r;omega,⟨rfl,hw⟩,rfl⟩
    rw[ht,a9,dW]
   ·refine⟨⟨aE _,bg _,by omega⟩,⟨x.k+1,x.r-1,x.D++y,[],0,0,0,0⟩,⟨by show 1<=x.k+1;omega,a5,ht.symm,by show x.r-1=ps.length-(x.k+1);omega⟩,by show x.r-1+1<=x.r;omega,⟨by simp,hw⟩,by rw[aM]⟩
  ·have t:x.k=ps.length:=by omega
   rw[t,aM] at U;clear hr b7 b8 t h;generalize ps.flatten=m at*;rw[U];have d1:zc m.length<64:=by unfold zc;omega
   refine⟨⟨aE _,bg _,by omega⟩,λy=>∃j,j<=zc m.length/\y.D=m++ [128]++aS j 0/\y.r=zc m.length-j,⟨⟨0,zc m.length,m++ [128],[],0,0,0,0⟩,⟨0,bg _,by simp,rfl⟩,by simp,by simp⟩,?_⟩;rintro y ⟨j,hj,R,d0⟩;have a1:y.D.length=m.length+1+j:=by rw[R];simp;omega
   refine aK (λh=> ?_) (λh=> ?_)
   ·have b6:j<zc m.length:=by
     rcases Nat.lt_or_ge j (zc m.length) with h1|h1
     ·exact h1
     ·exfalso
      apply h;rw[a6,a1];unfold zc at*;omega
    refine⟨⟨aE _,bg _,by omega⟩,⟨0,zc m.length-(j+1),y.D++ [0],[],0,0,0,0⟩,⟨j+1,b6,?_,rfl⟩,by show zc m.length-(j+1)+1<=y.r;omega,by simp,by rw[aM]⟩;show y.D++ [0]=_;rw[R,List.replicate_succ'];simp
   ·have a4:j=zc m.length:=by
     rw[a6,a1] at h;unfold zc at*;omega
    rw[a4] at R;rw[a4] at a1;generalize hB:y.D=base at*;generalize hN:wr .u64 (wr .u64 (m.length:Int)*8)=N;refine⟨λz=>∃q,q<=8/\z.D=base++len8 N q/\z.j=56-8*(q:Int)/\z.r=8-q,⟨⟨0,8,base,[],0,0,0,56⟩,⟨0,by omega,by simp[len8],rfl,rfl⟩,⟨rfl,rfl⟩,rfl⟩,?_⟩;rintro z ⟨q,hq,a2,c2,d2⟩;have c3:z.D.length=base.length+q:=by rw[a2,aO,Zci]
    refine aK (λh=> ?_) (λh=> ?_)
    ·refine⟨h,⟨aE _,bg _,by omega⟩,⟨0,8-(q+1),z.D++ [wr .u8 (N.fdiv (2^min z.j.toNat 64))],[],0,0,0,z.j-8⟩,⟨q+1,by omega,?_,?_,rfl⟩,by show 8-(q+1)+1<=z.r;omega,⟨by simp,wr64 (by omega) (by omega)⟩,by rw[aM]⟩
     ·show z.D++_=_
      rw[Zfq,<-c2,<-List.append_assoc,<-a2]
     ·show z.j-8=56-8*((q+1:Nat):Int)
      omega
    ·obtain rfl:q=8:=by omega
     have b0:z.D=padF m:=by rw[a2,R,<-hN];rfl
     rw[b0];have hL:=Zyx m;have b4:0<(padF m).length:=by rw[<-b0,c3];omega
     generalize a3:Zaz ((padF m).length/64) H0 (padF m)=FIN;have c0:shaF m=digF FIN:=by rw[<-a3];rfl
     rw[c0];generalize padF m=L at*;refine⟨λs u=>match s with|true=>u.n+u.m=L.length/\u.m%64=0/\0<u.m/\u.H.length=8/\Zaz (u.m/64) u.H (L.drop u.n)=FIN/\u.r=u.m|false=>u.H=FIN/\u.r=0,⟨⟨0,L.length,[],H0,0,L.length,0,0⟩,⟨by simp,hL,b4,rfl,a3,rfl⟩,⟨rfl,rfl⟩,⟨rfl,rfl,rfl,rfl,rfl,rfl,rfl,rfl⟩,rfl⟩,?_,?_⟩
     ·rintro u ⟨c6,c7,c8,a7,a8,c9⟩
      refine aK (λh=> ?_) (λh=>jv (by omega) h);simp only[Yba a7];have b5:u.m/64=(u.m-64)/64+1:=by omega
      rw[b5] at a8;have a0:Zaz ((u.m-64)/64) (blkF u.H ((L.drop u.n).take 64)) (L.drop (u.n+64))=FIN:=by rw[<-a8];show _=Zaz _ _ ((L.drop u.n).drop 64);rw[List.drop_drop]
      refine⟨⟨by omega,by omega⟩,by show u.n+64<=_;omega,by simp;omega,⟨by omega,by omega⟩,?_⟩;have h8:(blkF u.H ((L.drop u.n).take 64)).length=8:=Zah a7 (by simp;omega);refine aK (λb3=>⟨⟨0,u.m-64,[],blkF u.H ((L.drop u.n).take 64),u.n+64,u.m-64,mx2 u.fz L.length,0⟩,⟨?_,?_,?_,h8,a0,rfl⟩,?_,⟨rfl,rfl⟩,⟨rfl,rfl,rfl,rfl,rfl,rfl,rfl,rfl⟩,rfl⟩) (λb3=>⟨⟨0,0,[],blkF u.H ((L.drop u.n).take 64),0,0,0,0⟩,⟨?_,rfl⟩,?_,⟨rfl,rfl,rfl,rfl,rfl,rfl,rfl,rfl⟩⟩)
      ·show u.n+64+(u.m-64)=_;omega
      ·show(u.m-64)%64=0;omega
      ·show 0<u.m-64;omega
      ·show u.m-64+1<=u.r;omega
      ·have e:(u.m-64)/64=0:=by omega
       rw[e] at a0;exact a0
      ·show 0+1<=u.r;omega
     ·rintro u ⟨hu,hr⟩
      refine aK (λh=>jv h (by simp)) (λ_=> ?_);rw[hu];exact⟨rfl,rfl,rfl,rfl,rfl,rfl,rfl,rfl,rfl,rfl,rfl,rfl,rfl,rfl,rfl,rfl,rfl,rfl,rfl,rfl,rfl,rfl,rfl,rfl,rfl,rfl,rfl,rfl,rfl,rfl,rfl,rfl⟩
end
section
open Go
theorem Zj5(v:Val) (j:OkV v):PureC E2 99 [.agg (encF ae .vals v)] (.tup [.psl cu (Z9 v).1 ae,.int ae .i64 (Z9 v).2]):=up2 (Zni v j)
def dTag{E:Eng thy} (I:List (List Nat)):Dc E Nat where
 dec v:=match v with| .str _ b=>(match I.findIdx? (λt=>t==b) with|some j=>ah j|none=>aD)|_=>aD
 enc i:= .str af (I.getD i [])
 ok v i h:=by
  split at h
  ·rename_i fl b
   split at h
   ·rename_i j J
    cases h
    refine⟨rfl,rfl,λσ g u R=> ?_⟩
    rw[List.findIdx?_eq_some_iff_getElem] at J
    obtain⟨a0,U,_⟩:=J
    have e:I.getD i []=b:=by
     rw[aI,aq a0]
     exact eq_of_beq U
    rw[e]
    cases R
    exact .str _ (by assumption)
   ·cases h
  ·cases h
def tags:List (List Nat):= [[115,116,97,99,107],[112,114,111,103,114,97,109],[105,110,112,117,116,115],[115,116,97,116,101]]
structure PartsOk(ps:List (List Int)):Prop where
 ne:∃p r,ps=p::r/\p≠ []
 sz:ps.flatten.length<=1000000
 len:ps.length<=1000000
def gthV(cs:List (SV thy)):Option Th:=match cs with| .int _ .u8 _::_=>ah .bys|_=>aD
noncomputable def Ssum:Sum thy:=sumF E2 gthV 4 (.cons (Z9g E2) .nil) (λx=>PartsOk x.1) λx=>Zm (shaF x.1.flatten)
theorem Z5q:SumOk E2 142 Ssum:=Zf7 Zd (Ze (f:=142) rfl) λx h=>by
 obtain⟨⟨p,r,j,t⟩,I,J⟩:=h;exact Zq2 x.1 p r j t I J
noncomputable def Senc:Sum thy:=sumF E2 gthV 8 (.cons (dRow Zd eQ λ_ _ h=>Zex (th:=eQ) h:Dc E2 Val) .nil) (λx=>OkV x.1) λx=> .tup [.psl cu (Z9 x.1).1 ae,.int ae .i64 (Z9 x.1).2]
theorem Z5r:SumOk E2 99 Senc:=Zf7 Zd (Ze (f:=99) rfl) λx h=>Zj5 x.1 h
noncomputable def Fdig:Fns thy:=addS (addS F0 142 Ssum) 99 Senc
theorem Zhu:FnsOk E2 Fdig:=Zc (Zc Z7 Z5q) Z5r
theorem Zrx(v:Val) (d:List Int):Zk E2 Fdig (vc E2 Fdig 400) 68 [.str af [115,116,97,99,107],.agg (encF ae .vals v)] hp0 0 (λr=>ret E2 (patch hp0 0 r) r.v (Zm d))=(
 OkV (bd (cI v) (cY v) (cQ v) (cM v))/\PartsOk [[5],[(↑(115:Nat):Int),(↑(116:Nat):Int),(↑(97:Nat):Int),(↑(99:Nat):Int),(↑(107:Nat):
 Int)],ay (Z9 (bd (cI v) (cY v) (cQ v) (cM v)))]/\e32q (shaF (eE [[5],[(↑(115:Nat):Int),(↑(116:Nat):Int),(↑(97:Nat):
 Int),(↑(99:Nat):Int),(↑(107:Nat):Int)],ay (Z9 (bd (cI v) (cY v) (cQ v) (cM v)))])) d):=by kernel_rfl
theorem Zry(v:Val) (d:List Int):Zk E2 Fdig (vc E2 Fdig 400) 68 [.str af [112,114,111,103,114,97,109],.agg (encF ae .vals v)] hp0 0 (λr=>ret E2 (patch hp0 0 r) r.v (Zm d))=(
 OkV (bd (cI v) (cY v) (cQ v) (cM v))/\PartsOk [[7],[(↑(112:Nat):Int),(↑(114:Nat):Int),(↑(111:Nat):Int),(↑(103:Nat):Int),(↑(114:Nat)
 :Int),(↑(97:Nat):Int),(↑(109:Nat):Int)],ay (Z9 (bd (cI v) (cY v) (cQ v) (cM v)))]/\e32q (shaF (eE [[7],[(↑(112:Nat):
 Int),(↑(114:Nat):Int),(↑(111:Nat):Int),(↑(103:Nat):Int),(↑(114:Nat):Int),(↑(97:Nat):Int),(↑(109:Nat):Int)],ay (Z9 (bd (cI v) (cY
 v) (cQ v) (cM v)))])) d):=by kernel_rfl
theorem Zrz(v:Val) (d:List Int):Zk E2 Fdig (vc E2 Fdig 400) 68 [.str af [105,110,112,117,116,115],.agg (encF ae .vals v)] hp0 0 (λr=>ret E2 (patch hp0 0 r) r.v (Zm d))=(
 OkV (bd (cI v) (cY v) (cQ v) (cM v))/\PartsOk [[6],[(↑(105:Nat):Int),(↑(110:Nat):Int),(↑(112:Nat):Int),(↑(117:Nat):Int),(↑(116:Nat)
 :Int),(↑(115:Nat):Int)],ay (Z9 (bd (cI v) (cY v) (cQ v) (cM v)))]/\e32q (shaF (eE [[6],[(↑(105:Nat):Int),(↑(110:Nat):
 Int),(↑(112:Nat):Int),(↑(117:Nat):Int),(↑(116:Nat):Int),(↑(115:Nat):Int)],ay (Z9 (bd (cI v) (cY v) (cQ v) (cM v)))])) d):=by kernel_rfl
theorem Zr0(v:Val) (d:List Int):Zk E2 Fdig (vc E2 Fdig 400) 68 [.str af [115,116,97,116,101],.agg (encF ae .vals v)] hp0 0 (λr=>ret E2 (patch hp0 0 r) r.v (Zm d))=(
 OkV (bd (cI v) (cY v) (cQ v) (cM v))/\PartsOk [[5],[(↑(115:Nat):Int),(↑(116:Nat):Int),(↑(97:Nat):Int),(↑(116:Nat):Int),(↑(101:Nat):
 Int)],ay (Z9 (bd (cI v) (cY v) (cQ v) (cM v)))]/\e32q (shaF (eE [[5],[(↑(115:Nat):Int),(↑(116:Nat):Int),(↑(97:Nat):
 Int),(↑(116:Nat):Int),(↑(101:Nat):Int)],ay (Z9 (bd (cI v) (cY v) (cQ v) (cM v)))])) d):=by kernel_rfl
def tagB:Nat->List Int
 |0=> [115,116,97,99,107]
 |1=> [112,114,111,103,114,97,109]
 |2=> [105,110,112,117,116,115]
 |_=> [115,116,97,116,101]
noncomputable def We(i:Nat) (v:Val):List Int:=shaF [[((tagB i).length:Int)],tagB i,(Z9 v).1].flatten
theorem Zba(v:Val):(Z9 v).1.length<=65536:=by
 unfold Z9;split
 ·simp
 ·split
  ·simp
  ·split
   ·simp
   ·show(encV v).length<=_;omega
theorem Z0y(i:Nat) (v:Val):PartsOk [[((tagB i).length:Int)],tagB i,(Z9 v).1]:=by
 have j:=Zba v;have t:(tagB i).length<=7:=by unfold tagB;split<;>simp
 refine⟨⟨_,_,rfl,by simp⟩,?_,by simp⟩;simp only[List.flatten_cons,List.flatten_nil,aO,aT,bF];omega
theorem Zu6(i:Nat) (hi:i<4) (v:Val) (t:OkV v):PureC E2 68 [.str af (tags.getD i []),.agg (encF ae .vals v)] (Zm (We i v)):=by
 have j:=Z0y i v
 match i,hi with
 |0,_=>
  refine Za Zd (Zb Zd Zhu 400) ?_;show Zk E2 Fdig (vc E2 Fdig 400) 68 [.str af [115,116,97,99,107],.agg (encF ae .vals v)] hp0 0 _;rw[Zrx,Wl];exact⟨t,j,e32r _⟩
 |1,_=>
  refine Za Zd (Zb Zd Zhu 400) ?_;show Zk E2 Fdig (vc E2 Fdig 400) 68 [.str af [112,114,111,103,114,97,109],.agg (encF ae .vals v)] hp0 0 _;rw[Zry,Wl];exact⟨t,j,e32r _⟩
 |2,_=>
  refine Za Zd (Zb Zd Zhu 400) ?_;show Zk E2 Fdig (vc E2 Fdig 400) 68 [.str af [105,110,112,117,116,115],.agg (encF ae .vals v)] hp0 0 _;rw[Zrz,Wl];exact⟨t,j,e32r _⟩
 |3,_=>
  refine Za Zd (Zb Zd Zhu 400) ?_;show Zk E2 Fdig (vc E2 Fdig 400) 68 [.str af [115,116,97,116,101],.agg (encF ae .vals v)] hp0 0 _;rw[Zr0,Wl];exact⟨t,j,e32r _⟩
def Zgr:List Int:= [0,0,0,0,0,0,0,0,0,0,0,0,0,0,0,0,0,0,0,0,0,0,0,0,0,0,0,0,0,0,0,0]
end
section
open Go
def n32(d:List Int):List Int:=(cy 32).map λi=>d.getD i 0
def numV(n:Int):Val:= .mk 1 n [] []
def bytV(d:List Int):Val:= .mk 2 0 (n32 d) []
def lisV(l:List Val):Val:= .mk 3 0 [] l
def Zkj(n:Int) (d:List Int):Val:=lisV [numV n,bytV d]
def Zwf(x:Ins) (d:List Int):Val:=lisV [numV x.op,numV x.n,numV x.m,bytV d]
noncomputable def Zav(d:List Int) (l:List Int):List Int:=l.foldl (λd n=>We 0 (Zkj n d)) d
noncomputable def Ze7(l:List Int):List Int:=Zav Zgr l
noncomputable def Zdx(c:List Ins):List Int:=c.foldl (λd x=>We 1 (Zwf x d)) Zgr
noncomputable def dTV:DcL E2 (Nat×Val×Unit):= .cons (dTag tags) (.cons (dRow Zd eQ λ_ _ h=>Zex (th:=eQ) h:Dc E2 Val) .nil)
noncomputable def Z1x:Sum thy:=Yh E2 gthV 10 dTV (λx=>x.1<4/\OkV x.2.1) (λx=>We x.1 x.2.1) Zm
theorem Zic:SumOk E2 68 Z1x:=Zl Zd (Ze (f:=68) rfl) λx h=>Zu6 x.1 h.1 x.2.1 h.2
def Yb6:Fr thy->Hp thy->Nat->Ann thy:=λT h i=>{X:=DX,fr:=λx=> [(2,T 2),(4,T 4),(7,T 7),(8,T 8),(9,.int ae .i64 x.k)],bl:=λx=>(bOf (T 2),.raw (Zm x.D).cells 0 aD)::blkP h (T 4),src:=λ_=> [],md:= [bOf (T 2)],ih:=i,M:=i+60,meas:=λx=>x.r}
def Yb7:Fr thy->Hp thy->Nat->Ann thy:=λT h i=>{X:=DX,fr:=λx=> [(2,T 2),(5,T 5),(6,T 6),(7,.int ae .i64 x.k)],bl:=λx=> [(bOf (T 2),.raw (Zm x.D).cells 0 aD)],src:=λ_=> [],md:= [bOf (T 2)],ih:=i,M:=i+60,meas:=λx=>x.r}
noncomputable def Zwg:Fns thy:=addL (addL (addS F0 68 Z1x) 74 2 Yb6 E2) 71 2 Yb7 E2
theorem Zp4:FnsOk E2 Zwg:=Zn Zd (Zn Zd (Zc Z7 Zic) _ _ _) _ _ _
abbrev qBW6:=(0:Nat)
abbrev qBW2:=(0:Int)
abbrev qBW1(j:List Int) (t:DX):=(aa j qBW6 qBW2=aa (aC t) qBW6 qBW2/\aa j (1:Nat) qBW2=aa (aC t) (1:Nat) qBW2/\aa j (2:Nat) qBW2=aa (aC t) (2:Nat) qBW2/\aa j (3:Nat) qBW2=aa (aC t) (3:Nat) qBW2/\aa j (4:Nat) qBW2=aa (aC t) (4:Nat) qBW2/\aa j (5:Nat) qBW2=aa (aC t) (5:Nat) qBW2/\aa j (6:Nat) qBW2=aa (aC t) (6:Nat) qBW2/\aa j (7:Nat) qBW2=aa (aC t) (7:Nat) qBW2/\aa j (8:Nat) qBW2=aa (aC t) (8:Nat) qBW2/\aa j (9:Nat) qBW2=aa (aC t) (9:Nat) qBW2/\aa j (10:Nat) qBW2=aa (aC t) (10:Nat) qBW2/\aa j (11:Nat) qBW2=aa (aC t) (11:Nat) qBW2/\aa j (12:Nat) qBW2=aa (aC t) (12:Nat) qBW2/\aa j (13:Nat) qBW2=aa (aC t) (13:Nat) qBW2/\aa j (14:Nat) qBW2=aa (aC t) (14:Nat) qBW2/\aa j (15:Nat) qBW2=aa (aC t) (15:Nat) qBW2/\aa j (16:Nat) qBW2=aa (aC t) (16:Nat) qBW2/\aa j (17:Nat) qBW2=aa (aC t) (17:Nat) qBW2/\aa j (18:Nat) qBW2=aa (aC t) (18:Nat) qBW2/\aa j (19:Nat) qBW2=aa (aC t) (19:Nat) qBW2/\aa j (20:Nat) qBW2=aa (aC t) (20:Nat) qBW2/\aa j (21:Nat) qBW2=aa (aC t) (21:Nat) qBW2/\aa j (22:Nat) qBW2=aa (aC t) (22:Nat) qBW2/\aa j (23:Nat) qBW2=aa (aC t) (23:Nat) qBW2/\aa j (24:Nat) qBW2=aa (aC t) (24:Nat) qBW2/\aa j (25:Nat) qBW2=aa (aC t) (25:Nat) qBW2/\aa j (26:Nat) qBW2=aa (aC t) (26:Nat) qBW2/\aa j (27:Nat) qBW2=aa (aC t) (27:Nat) qBW2/\aa j (28:Nat) qBW2=aa (aC t) (28:Nat) qBW2/\aa j (29:Nat) qBW2=aa (aC t) (29:Nat) qBW2/\aa j (30:Nat) qBW2=aa (aC t) (30:Nat) qBW2/\aa j (31:Nat) qBW2=aa (aC t) (31:Nat) qBW2/\True)
abbrev qBW3(t:Int) (j:DX):=(bd (3:Int) qBW2 [] [bd (1:Int) t [] [],bd (2:Int) qBW2 [aa (aC j) qBW6 qBW2,aa (aC j) (1:Nat) qBW2,aa (aC j) (2:Nat) qBW2,aa (aC j) (3:Nat) qBW2,aa (aC j) (4:Nat) qBW2,aa (aC j) (5:Nat) qBW2,aa (aC j) (6:Nat) qBW2,aa (aC j) (7:Nat) qBW2,aa (aC j) (8:Nat) qBW2,aa (aC j) (9:Nat) qBW2,aa (aC j) (10:Nat) qBW2,aa (aC j) (11:Nat) qBW2,aa (aC j) (12:Nat) qBW2,aa (aC j) (13:Nat) qBW2,aa (aC j) (14:Nat) qBW2,aa (aC j) (15:Nat) qBW2,aa (aC j) (16:Nat) qBW2,aa (aC j) (17:Nat) qBW2,aa (aC j) (18:Nat) qBW2,aa (aC j) (19:Nat) qBW2,aa (aC j) (20:Nat) qBW2,aa (aC j) (21:Nat) qBW2,aa (aC j) (22:Nat) qBW2,aa (aC j) (23:Nat) qBW2,aa (aC j) (24:Nat) qBW2,aa (aC j) (25:Nat) qBW2,aa (aC j) (26:Nat) qBW2,aa (aC j) (27:Nat) qBW2,aa (aC j) (28:Nat) qBW2,aa (aC j) (29:Nat) qBW2,aa (aC j) (30:Nat) qBW2,aa (aC j) (31:Nat) qBW2] []])
abbrev qBW4:=(qBW2=qBW2/\qBW2=qBW2/\qBW2=qBW2/\qBW2=qBW2/\qBW2=qBW2/\qBW2=qBW2/\qBW2=qBW2/\qBW2=qBW2/\qBW2=qBW2/\qBW2=qBW2/\qBW2=qBW2/\qBW2=qBW2/\qBW2=qBW2/\qBW2=qBW2/\qBW2=qBW2/\qBW2=qBW2/\qBW2=qBW2/\qBW2=qBW2/\qBW2=qBW2/\qBW2=qBW2/\qBW2=qBW2/\qBW2=qBW2/\qBW2=qBW2/\qBW2=qBW2/\qBW2=qBW2/\qBW2=qBW2/\qBW2=qBW2/\qBW2=qBW2/\qBW2=qBW2/\qBW2=qBW2/\qBW2=qBW2/\qBW2=qBW2/\True)
abbrev qBW5(j:List Int):=(↑(ab j):Int)
abbrev qBW7(j:DX):=(↑(dx j):Int)
theorem Zwh(d l:List Int) (z:List Int):Zk E2 Zwg (vc E2 Zwg 400) 74 [Zm d,.psl gG l ae] hp0 0 (λr=>ret E2 (patch hp0 0 r) r.v (Zm z))=(
 ∃(R:DX->Prop),(∃(x:DX),R x/\af=af/\(qBW6=qBW6/\qBW6=qBW6/\(l=l/\(ae=af->ae=af))/\(qBW5 l)=(qBW5 l)/\qBW2=(qBW7 x)/\True)/\(qBW1 d x)/\qBW4/\True)/\∀(x:DX),R x->(decide ((qBW7 x)<(qBW5 l))=af->qBW2<=(qBW7 x)/\(qBW7 x)+1<=(qBW5 l)/\∀(t:Int),l[ag (qBW7 x)]? =ah t->(qBW6+1<=4/\OkV (qBW3 t x))/\∀(y:List Int),y=We qBW6 (qBW3 t x)->∃(j:DX),R j/\j.2+1<=x.2/\af=af/\(qBW6=qBW6/\qBW6=qBW6/\(l=l/\(ae=af->ae=af))/\(qBW5 l)=(qBW5 l)/\wr ac ((qBW7 x)+1)=(qBW7 j)/\True)/\(qBW1 y j)/\qBW4/\True)/\(decide ((qBW7 x)<(qBW5 l))=ae->aa (aC x) qBW6 qBW2=aa z qBW6 qBW2/\aa (aC x) 1 qBW2=aa z 1 qBW2/\aa (aC x) 2 qBW2=aa z 2 qBW2/\aa (aC x) 3 qBW2=aa z 3 qBW2/\aa (aC x) 4 qBW2=aa z 4 qBW2/\aa (aC x) 5 qBW2=aa z 5 qBW2/\aa (aC x) 6 qBW2=aa z 6 qBW2/\aa (aC x) 7 qBW2=aa z 7 qBW2/\aa (aC x) 8 qBW2=aa z 8 qBW2/\aa (aC x) 9 qBW2=aa z 9 qBW2/\aa (aC x) 10 qBW2=aa z 10 qBW2/\aa (aC x) 11 qBW2=aa z 11 qBW2/\aa (aC x) 12 qBW2=aa z 12 qBW2/\aa (aC x) 13 qBW2=aa z 13 qBW2/\aa (aC x) 14 qBW2=aa z 14 qBW2/\aa (aC x) 15 qBW2=aa z 15 qBW2/\aa (aC x) 16 qBW2=aa z 16 qBW2/\aa (aC x) 17 qBW2=aa z 17 qBW2/\aa (aC x) 18 qBW2=aa z 18 qBW2/\aa (aC x) 19 qBW2=aa z 19 qBW2/\aa (aC x) 20 qBW2=aa z 20 qBW2/\aa (aC x) 21 qBW2=aa z 21 qBW2/\aa (aC x) 22 qBW2=aa z 22 qBW2/\aa (aC x) 23 qBW2=aa z 23 qBW2/\aa (aC x) 24 qBW2=aa z 24 qBW2/\aa (aC x) 25 qBW2=aa z 25 qBW2/\aa (aC x) 26 qBW2=aa z 26 qBW2/\aa (aC x) 27 qBW2=aa z 27 qBW2/\aa (aC x) 28 qBW2=aa z 28 qBW2/\aa (aC x) 29 qBW2=aa z 29 qBW2/\aa (aC x) 30 qBW2=aa z 30 qBW2/\aa (aC x) 31 qBW2=aa z 31 qBW2/\True)):=by kernel_rfl
abbrev qBW9:=(0:Int)
abbrev qBWb:=(0:Nat)
abbrev qBWd:=(1:Nat)
abbrev qBW8(t:Ins) (j:DX):=(bd (3:Int) qBW9 [] [bd (1:Int) (Ins.op t) [] [],bd (1:Int) (Ins.n t) [] [],bd (1:Int) (Ins.m t) [] [],bd (2:Int) qBW9 [aa (aC j) qBWb qBW9,aa (aC j) qBWd qBW9,aa (aC j) (2:Nat) qBW9,aa (aC j) (3:Nat) qBW9,aa (aC j) (4:Nat) qBW9,aa (aC j) (5:Nat) qBW9,aa (aC j) (6:Nat) qBW9,aa (aC j) (7:Nat) qBW9,aa (aC j) (8:Nat) qBW9,aa (aC j) (9:Nat) qBW9,aa (aC j) (10:Nat) qBW9,aa (aC j) (11:Nat) qBW9,aa (aC j) (12:Nat) qBW9,aa (aC j) (13:Nat) qBW9,aa (aC j) (14:Nat) qBW9,aa (aC j) (15:Nat) qBW9,aa (aC j) (16:Nat) qBW9,aa (aC j) (17:Nat) qBW9,aa (aC j) (18:Nat) qBW9,aa (aC j) (19:Nat) qBW9,aa (aC j) (20:Nat) qBW9,aa (aC j) (21:Nat) qBW9,aa (aC j) (22:Nat) qBW9,aa (aC j) (23:Nat) qBW9,aa (aC j) (24:Nat) qBW9,aa (aC j) (25:Nat) qBW9,aa (aC j) (26:Nat) qBW9,aa (aC j) (27:Nat) qBW9,aa (aC j) (28:Nat) qBW9,aa (aC j) (29:Nat) qBW9,aa (aC j) (30:Nat) qBW9,aa (aC j) (31:Nat) qBW9] []])
abbrev qBWa(j:List Ins):=(↑(ab j):Int)
abbrev qBWc(j:DX):=(↑(dx j):Int)
theorem Zwi(c:List Ins) (z:List Int):Zk E2 Zwg (vc E2 Zwg 400) 71 [.psl iC c ae] hp0 0 (λr=>ret E2 (patch hp0 0 r) r.v (Zm z))=(
 ∃(R:DX->Prop),(∃(x:DX),R x/\af=af/\(qBWb=qBWb/\(c=c/\(ae=af->ae=af))/\(qBWa c)=(qBWa c)/\qBW9=(qBWc x)/\True)/\(qBW9=aa (aC x) qBWb qBW9/\qBW9=aa (aC x) qBWd qBW9/\qBW9=aa (aC x) 2 qBW9/\qBW9=aa (aC x) 3 qBW9/\qBW9=aa (aC x) 4 qBW9/\qBW9=aa (aC x) 5 qBW9/\qBW9=aa (aC x) 6 qBW9/\qBW9=aa (aC x) 7 qBW9/\qBW9=aa (aC x) 8 qBW9/\qBW9=aa (aC x) 9 qBW9/\qBW9=aa (aC x) 10 qBW9/\qBW9=aa (aC x) 11 qBW9/\qBW9=aa (aC x) 12 qBW9/\qBW9=aa (aC x) 13 qBW9/\qBW9=aa (aC x) 14 qBW9/\qBW9=aa (aC x) 15 qBW9/\qBW9=aa (aC x) 16 qBW9/\qBW9=aa (aC x) 17 qBW9/\qBW9=aa (aC x) 18 qBW9/\qBW9=aa (aC x) 19 qBW9/\qBW9=aa (aC x) 20 qBW9/\qBW9=aa (aC x) 21 qBW9/\qBW9=aa (aC x) 22 qBW9/\qBW9=aa (aC x) 23 qBW9/\qBW9=aa (aC x) 24 qBW9/\qBW9=aa (aC x) 25 qBW9/\qBW9=aa (aC x) 26 qBW9/\qBW9=aa (aC x) 27 qBW9/\qBW9=aa (aC x) 28 qBW9/\qBW9=aa (aC x) 29 qBW9/\qBW9=aa (aC x) 30 qBW9/\qBW9=aa (aC x) 31 qBW9/\True)/\True)/\∀(x:DX),R x->(decide ((qBWc x)<(qBWa c))=af->qBW9<=(qBWc x)/\(qBWc x)+1<=(qBWa c)/\∀(t:Ins),c[ag (qBWc x)]? =ah t->(qBWb+qBWd+qBWd<=4/\OkV (qBW8 t x))/\∀(y:List Int),y=We (qBWb+qBWd) (qBW8 t x)->∃(j:DX),R j/\j.2+qBWd<=x.2/\af=af/\(qBWb=qBWb/\(c=c/\(ae=af->ae=af))/\(qBWa c)=(qBWa c)/\wr ac ((qBWc x)+1)=(qBWc j)/\True)/\(aa y qBWb qBW9=aa (aC j) qBWb qBW9/\aa y qBWd qBW9=aa (aC j) qBWd qBW9/\aa y 2 qBW9=aa (aC j) 2 qBW9/\aa y 3 qBW9=aa (aC j) 3 qBW9/\aa y 4 qBW9=aa (aC j) 4 qBW9/\aa y 5 qBW9=aa (aC j) 5 qBW9/\aa y 6 qBW9=aa (aC j) 6 qBW9/\aa y 7 qBW9=aa (aC j) 7 qBW9/\aa y 8 qBW9=aa (aC j) 8 qBW9/\aa y 9 qBW9=aa (aC j) 9 qBW9/\aa y 10 qBW9=aa (aC j) 10 qBW9/\aa y 11 qBW9=aa (aC j) 11 qBW9/\aa y 12 qBW9=aa (aC j) 12 qBW9/\aa y 13 qBW9=aa (aC j) 13 qBW9/\aa y 14 qBW9=aa (aC j) 14 qBW9/\aa y 15 qBW9=aa (aC j) 15 qBW9/\aa y 16 qBW9=aa (aC j) 16 qBW9/\aa y 17 qBW9=aa (aC j) 17 qBW9/\aa y 18 qBW9=aa (aC j) 18 qBW9/\aa y 19 qBW9=aa (aC j) 19 qBW9/\aa y 20 qBW9=aa (aC j) 20 qBW9/\aa y 21 qBW9=aa (aC j) 21 qBW9/\aa y 22 qBW9=aa (aC j) 22 qBW9/\aa y 23 qBW9=aa (aC j) 23 qBW9/\aa y 24 qBW9=aa (aC j) 24 qBW9/\aa y 25 qBW9=aa (aC j) 25 qBW9/\aa y 26 qBW9=aa (aC j) 26 qBW9/\aa y 27 qBW9=aa (aC j) 27 qBW9/\aa y 28 qBW9=aa (aC j) 28 qBW9/\aa y 29 qBW9=aa
(aC j) 29 qBW9/\aa y 30 qBW9=aa (aC j) 30 qBW9/\aa y 31 qBW9=aa (aC j) 31 qBW9/\True)/\True)/\(decide ((qBWc x)<(qBWa c))=ae->aa (aC x) qBWb qBW9=aa z qBWb qBW9/\aa (aC x) qBWd qBW9=aa z qBWd qBW9/\aa (aC x) 2 qBW9=aa z 2 qBW9/\aa (aC x) 3 qBW9=aa z 3 qBW9/\aa (aC x) 4 qBW9=aa z 4 qBW9/\aa (aC x) 5 qBW9=aa z 5 qBW9/\aa (aC x) 6 qBW9=aa z 6 qBW9/\aa (aC x) 7 qBW9=aa z 7 qBW9/\aa (aC x) 8 qBW9=aa z 8 qBW9/\aa (aC x) 9 qBW9=aa z 9 qBW9/\aa (aC x) 10 qBW9=aa z 10 qBW9/\aa (aC x) 11 qBW9=aa z 11 qBW9/\aa (aC x) 12 qBW9=aa z 12 qBW9/\aa (aC x) 13 qBW9=aa z 13 qBW9/\aa (aC x) 14 qBW9=aa z 14 qBW9/\aa (aC x) 15 qBW9=aa z 15 qBW9/\aa (aC x) 16 qBW9=aa z 16 qBW9/\aa (aC x) 17 qBW9=aa z 17 qBW9/\aa (aC x) 18 qBW9=aa z 18 qBW9/\aa (aC x) 19 qBW9=aa z 19 qBW9/\aa (aC x) 20 qBW9=aa z 20 qBW9/\aa (aC x) 21 qBW9=aa z 21 qBW9/\aa (aC x) 22 qBW9=aa z 22 qBW9/\aa (aC x) 23 qBW9=aa z 23 qBW9/\aa (aC x) 24 qBW9=aa z 24 qBW9/\aa (aC x) 25 qBW9=aa z 25 qBW9/\aa (aC x) 26 qBW9=aa z 26 qBW9/\aa (aC x) 27 qBW9=aa z 27 qBW9/\aa (aC x) 28 qBW9=aa z 28 qBW9/\aa (aC x) 29 qBW9=aa z 29 qBW9/\aa (aC x) 30 qBW9=aa z 30 qBW9/\aa (aC x) 31 qBW9=aa z 31 qBW9/\True)):=by kernel_rfl
theorem Zkk(n:Int) (d:List Int):OkV (Zkj n d):=⟨by simp[Zkj,lisV,numV,bytV,n32,kz,szL]⟩
theorem Zp5(x:Ins) (d:List Int):OkV (Zwf x d):=⟨by simp[Zwf,lisV,numV,bytV,n32,kz,szL]⟩
theorem Zwj(d l:List Int) (R:l.length<=1000000):PureC E2 74 [Zm d,.psl gG l ae] (Zm (Zav d l)):=by
 refine Za Zd (Zb Zd Zp4 400) ?_;rw[Zwh];delta qBW6 qBW2 qBW1 qBW3 qBW4 qBW5 qBW7;refine⟨λx=>∃q,q<=l.length/\x.k=q/\x.D=Zav d (l.take q)/\x.r=l.length-q,⟨⟨0,l.length,d,[],0,0,0,0⟩,⟨0,bg _,rfl,rfl,rfl⟩,rfl,⟨rfl,rfl,⟨rfl,id⟩,rfl,rfl,js⟩,⟨rfl,rfl,rfl,rfl,rfl,rfl,rfl,rfl,rfl,rfl,rfl,rfl,rfl,rfl,rfl,rfl,rfl,rfl,rfl,rfl,rfl,rfl,rfl,rfl,rfl,rfl,rfl,rfl,rfl,rfl,rfl,rfl,js⟩,⟨rfl,rfl,rfl,rfl,rfl,rfl,rfl,rfl,rfl,rfl,rfl,rfl,rfl,rfl,rfl,rfl,rfl,rfl,rfl,rfl,rfl,rfl,rfl,rfl,rfl,rfl,rfl,rfl,rfl,rfl,rfl,rfl,js⟩,js⟩,?_⟩;rintro x ⟨q,U,J,t,a0⟩
 refine aK (λh=> ?_) (λh=> ?_)
 ·have h:=iK h
  refine⟨by omega,by omega,λn j=>⟨⟨by omega,Zkk n x.D⟩,λy I=>⟨⟨q+1,l.length-(q+1),y,[],0,0,0,0⟩,⟨q+1,by omega,rfl,?_,rfl⟩,by show l.length-(q+1)+1<=x.r;omega,rfl,⟨rfl,rfl,⟨rfl,id⟩,rfl,?_,js⟩,⟨rfl,rfl,rfl,rfl,rfl,rfl,rfl,rfl,rfl,rfl,rfl,rfl,rfl,rfl,rfl,rfl,rfl,rfl,rfl,rfl,rfl,rfl,rfl,rfl,rfl,rfl,rfl,rfl,rfl,rfl,rfl,rfl,js⟩,⟨rfl,rfl,rfl,rfl,rfl,rfl,rfl,rfl,rfl,rfl,rfl,rfl,rfl,rfl,rfl,rfl,rfl,rfl,rfl,rfl,rfl,rfl,rfl,rfl,rfl,rfl,rfl,rfl,rfl,rfl,rfl,rfl,js⟩,js⟩⟩⟩
  ·have j:l[q]? =ah n:=by rw[<-J];exact j
   have I:y=We 0 (Zkj n x.D):=I;show y=_;rw[Ye j,Zav,dZ,I,t];rfl
  ·show wr .i64 ((x.k:Int)+1)=((q+1:Nat):Int)
   rw[J,wr64 (by omega) (by omega)];omega
 ·have h:=iT h
  obtain rfl:q=l.length:=by omega
  rw[aM] at t;rw[t];exact⟨rfl,rfl,rfl,rfl,rfl,rfl,rfl,rfl,rfl,rfl,rfl,rfl,rfl,rfl,rfl,rfl,rfl,rfl,rfl,rfl,rfl,rfl,rfl,rfl,rfl,rfl,rfl,rfl,rfl,rfl,rfl,rfl,js⟩
theorem Zwk(c:List Ins) (R:c.length<=1000000):PureC E2 71 [.psl iC c ae] (Zm (Zdx c)):=by
 refine Za Zd (Zb Zd Zp4 400) ?_;rw[Zwi];delta qBW9 qBWb qBWd qBW8 qBWa qBWc;refine⟨λx=>∃q,q<=c.length/\x.k=q/\x.D=Zdx (c.take q)/\x.r=c.length-q,⟨⟨0,c.length,Zgr,[],0,0,0,0⟩,⟨0,bg _,rfl,rfl,rfl⟩,rfl,⟨rfl,⟨rfl,id⟩,rfl,rfl,js⟩,⟨rfl,rfl,rfl,rfl,rfl,rfl,rfl,rfl,rfl,rfl,rfl,rfl,rfl,rfl,rfl,rfl,rfl,rfl,rfl,rfl,rfl,rfl,rfl,rfl,rfl,rfl,rfl,rfl,rfl,rfl,rfl,rfl,js⟩,js⟩,?_⟩;rintro x ⟨q,U,J,t,a0⟩;refine aK (λh=> ?_) (λh=> ?_)
 ·have h:=iK h
  refine⟨by omega,by omega,λn j=>⟨⟨by omega,Zp5 n x.D⟩,λy I=>⟨⟨q+1,c.length-(q+1),y,[],0,0,0,0⟩,⟨q+1,by omega,rfl,?_,rfl⟩,by show c.length-(q+1)+1<=x.r;omega,rfl,⟨rfl,⟨rfl,id⟩,rfl,?_,js⟩,⟨rfl,rfl,rfl,rfl,rfl,rfl,rfl,rfl,rfl,rfl,rfl,rfl,rfl,rfl,rfl,rfl,rfl,rfl,rfl,rfl,rfl,rfl,rfl,rfl,rfl,rfl,rfl,rfl,rfl,rfl,rfl,rfl,js⟩,js⟩⟩⟩
  ·have j:c[q]? =ah n:=by rw[<-J];exact j
   have I:y=We 1 (Zwf n x.D):=I;show y=_;rw[Ye j,Zdx,dZ,I,t];rfl
  ·show wr .i64 ((x.k:Int)+1)=((q+1:Nat):Int)
   rw[J,wr64 (by omega) (by omega)];omega
 ·have h:=iT h
  obtain rfl:q=c.length:=by omega
  rw[aM] at t;rw[t];exact⟨rfl,rfl,rfl,rfl,rfl,rfl,rfl,rfl,rfl,rfl,rfl,rfl,rfl,rfl,rfl,rfl,rfl,rfl,rfl,rfl,rfl,rfl,rfl,rfl,rfl,rfl,rfl,rfl,rfl,rfl,rfl,rfl,js⟩
end
section
open Go
def Zpf(E:Eng thy):Dc E (List Int):=(Zlr (E:=E) gG:Dc E (List (thy.dom gG)))
def Zbv(E:Eng thy):Dc E (List Ins):=(Zlr (E:=E) iC:Dc E (List (thy.dom iC)))
def dDig(E:Eng thy):Dc E (List Int) where
 dec v:=match v with| .agg cs=>(match Zfn .u8 cs with|some l=>(match bf l.length 32 with|true=>ah l|false=>aD)|none=>aD)|_=>aD
 enc d:=Zm d
 ok v l h:=by
  split at h
  ·rename_i cs
   split at h
   ·rename_i l' t
    split at h
    ·rename_i j
     cases h
     have j:=Nat.eq_of_beq_eq_true j
     have e:Zm l=rowV .u8 l:=by
      match l,j with
      | [I,J,a2,a3,a4,a5,a6,a7,a8,a9,R,U,a0,a1,b0,b3,b4,b5,b6,b7,b8,b9,c0,c1,c2,c3,c4,c5,c6,c7,c8,c9],_=>rfl
     rw[e]
     exact(Z8k E .u8).ok (.agg cs) l t
    ·cases h
   ·cases h
  ·cases h
noncomputable def Z5h:Sum thy:=Yh E2 gthV 4 (.cons (dDig E2) (.cons (Zpf E2) .nil)) (λx=>x.2.1.length<=1000000) (λx=>Zav x.1 x.2.1) Zm
theorem Zpg:SumOk E2 74 Z5h:=Zl Zd (Ze (f:=74) rfl) λx h=>Zwj x.1 x.2.1 h
noncomputable def Fstk:Fns thy:=addS F0 74 Z5h
theorem Z5i:FnsOk E2 Fstk:=Zc Z7 Zpg
abbrev qBX1:=(0:Int)
theorem Zro(l:List Int) (z:List Int):Zk E2 Fstk (vc E2 Fstk 400) 75 [.psl gG l ae] hp0 0 (λr=>ret E2 (patch hp0 0 r) r.v (Zm z))=(
 ab l<=1000000/\∀(y:List Int),y=Zav [qBX1,qBX1,qBX1,qBX1,qBX1,qBX1,qBX1,qBX1,qBX1,qBX1,qBX1,qBX1,qBX1,qBX1,qBX1,qBX1,qBX1,qBX1,qBX1,qBX1,qBX1,qBX1,qBX1,qBX1,qBX1,qBX1,qBX1,qBX1,qBX1,qBX1,qBX1,qBX1] l->aa y 0 qBX1=aa z 0 qBX1/\aa y 1 qBX1=aa z 1 qBX1/\aa y 2 qBX1=aa z 2 qBX1/\aa y 3 qBX1=aa z 3 qBX1/\aa y 4 qBX1=aa z 4 qBX1/\aa y 5 qBX1=aa z 5 qBX1/\aa y 6 qBX1=aa z 6 qBX1/\aa y 7 qBX1=aa z 7 qBX1/\aa y 8 qBX1=aa z 8 qBX1/\aa y 9 qBX1=aa z 9 qBX1/\aa y 10 qBX1=aa z 10 qBX1/\aa y 11 qBX1=aa z 11 qBX1/\aa y 12 qBX1=aa z 12 qBX1/\aa y 13 qBX1=aa z 13 qBX1/\aa y 14 qBX1=aa z 14 qBX1/\aa y 15 qBX1=aa z 15 qBX1/\aa y 16 qBX1=aa z 16 qBX1/\aa y 17 qBX1=aa z 17 qBX1/\aa y 18 qBX1=aa z 18 qBX1/\aa y 19 qBX1=aa z 19 qBX1/\aa y 20 qBX1=aa z 20 qBX1/\aa y 21 qBX1=aa z 21 qBX1/\aa y 22 qBX1=aa z 22 qBX1/\aa y 23 qBX1=aa z 23 qBX1/\aa y 24 qBX1=aa z 24 qBX1/\aa y 25 qBX1=aa z 25 qBX1/\aa y 26 qBX1=aa z 26 qBX1/\aa y 27 qBX1=aa z 27 qBX1/\aa y 28 qBX1=aa z 28 qBX1/\aa y 29 qBX1=aa z 29 qBX1/\aa y 30 qBX1=aa z 30 qBX1/\aa y 31 qBX1=aa z 31 qBX1/\True):=by kernel_rfl
theorem Zrp(l:List Int) (j:l.length<=1000000):PureC E2 75 [.psl gG l ae] (Zm (Ze7 l)):=by
 refine Za Zd (Zb Zd Z5i 400) ?_;rw[Zro];delta qBX1;refine⟨j,λy t=> ?_⟩;rw[t];exact⟨rfl,rfl,rfl,rfl,rfl,rfl,rfl,rfl,rfl,rfl,rfl,rfl,rfl,rfl,rfl,rfl,rfl,rfl,rfl,rfl,rfl,rfl,rfl,rfl,rfl,rfl,rfl,rfl,rfl,rfl,rfl,rfl,js⟩
noncomputable def Sstk:Sum thy:=Yh E2 gthV 4 (.cons (Zpf E2) .nil) (λx=>x.1.length<=1000000) (λx=>Ze7 x.1) Zm
theorem Z5j:SumOk E2 75 Sstk:=Zl Zd (Ze (f:=75) rfl) λx h=>Zrp x.1 h
noncomputable def Sprg:Sum thy:=Yh E2 gthV 4 (.cons (Zbv E2) .nil) (λx=>x.1.length<=1000000) (λx=>Zdx x.1) Zm
theorem Z5k:SumOk E2 71 Sprg:=Zl Zd (Ze (f:=71) rfl) λx h=>Zwk x.1 h
end
section
open Go.ChangeShapes Go.WideShapes Go.ChangeAt Go.RowKit
theorem Z21{H:Type} {enc:TypeId×Value->H} {P:Program} {w:World} {spare:Nat->Bool} {held:Bool} {fuel:Nat} {t:TypeId} {cs:List Value} {k j:IntKind} {n:Int} {p:List MemPlace} (ht:P.underlying t=ah (.int k))
 (h:DataW.trod enc P w 0 spare held fuel t cs=ah (.lit (.int j n),p)):cs= [.int j n]:=by
 cases fuel with
 |zero=>simp[DataW.trod] at h
 |succ m=>
  unfold DataW.trod at h
  rw[ht] at h
  split at h<;>simp_all
theorem gDig:Tryz.prog.globalNamed "wagonpool/digest.k" =ah 3:=by kernel_rfl
theorem tDig:(Tryz.prog.globals[3]?).map (·.type)=ah 257:=by kernel_rfl
theorem Z22:Tryz.prog.cellsOf 156=1:=by kernel_rfl
abbrev Zla:List (String×DataW Unit):= [("wagonpool/digest.k",Rows.laid_wagonpool_digest_k),("wagonpool/tvm.binaries",Rows.laid_wagonpool_tvm_binaries)]
theorem Zs8{W:World} (h:laidMetH Tryz.prog Zla W):laidMetH Tryz.prog Z9w W:=gZ (λx=>x.1== "wagonpool/tvm.binaries") h
theorem Z23{W:World} (h:laidMetH Tryz.prog Zla W):laidMetH Tryz.prog [("wagonpool/digest.k",Rows.laid_wagonpool_digest_k)] W:=gZ (λx=>x.1== "wagonpool/digest.k") h
set_option maxRecDepth 100000 in
theorem Yay:(Rows.laid_wagonpool_digest_k:DataW Unit)= .agg (kNums.map λn=> .lit (.int .u32 n)):=rfl
set_option maxRecDepth 100000 in
theorem k_sv:kSV= .agg (kNums.map λn=> .int af .u32 n):=rfl
theorem Z24{W:World} (h:laidMetH Tryz.prog Zla W) (j:Nat) (s:SV thy) (I:kSV.cells[j]? =ah s):∃v,W.cell? ⟨3,j,aD⟩=ah v/\Den E2 (λ_=>aD) (gTop W) s v:=by
 have h0:laidMet Tryz.prog [("wagonpool/digest.k",Rows.laid_wagonpool_digest_k)] W:=Z23 h;obtain⟨ps,⟨g,t,cs,fuel,p,q,a1,ht,hv,a0,_,_⟩,_⟩:=h0;obtain rfl:=aU (gDig.symm.trans a1);obtain rfl:=aU (tDig.symm.trans ht);rw[Yay] at a0;obtain⟨xs,m,rfl,hx,hl,a5,hf⟩:=DataW.trod_array Tryz.underlying257 a0;simp only[Prod.mk.injEq,DataW.agg.injEq] at hx;rw[k_sv] at I;have I:(kNums.map λn=>(SV.int af .u32 n:SV thy))[j]? =ah s:=I;rw[cw] at I;obtain⟨n,hn,rfl⟩:=ck.1 I;have a2:j<64:=(List.getElem?_eq_some_iff.1 hn).1;have J:=hf j a2
 have R:(xs.map (·.1))[j]? =ah (.lit (.int .u32 n)):=by rw[<-hx.1,cw,hn];rfl
 rw[cw] at R;obtain⟨x,a3,a4⟩:=ck.1 R;rw[a3,Z22,Nat.mul_one] at J;obtain⟨d,p'⟩:=x;obtain rfl:d=_:=a4;have h3:=Z21 Tryz.underlying156 J;refine⟨.int .u32 n,?_,.int _ _ _⟩;rw[World.var?_cell a1 hv j];have U:((cs.toList.drop j).take 1)[0]? =ah (.int .u32 n):=by rw[h3];rfl
 rw[List.getElem?_take,jh (by decide),List.getElem?_drop] at U
 simpa using U
set_option maxRecDepth 100000 in
theorem Zs9{f:FuncId} {args:List (SV thy)} (hp:PureC E2 f args (.bool ae af)) {W:World} (U:laidMetH Tryz.prog Zla W) {vals:Array Value} (a0:DenL E σ0 (gTop W) args vals.toList):Calls Tryz.prog f vals W λen W'=>en= .returned (.bool af)/\Ext W W':=by
 have hI:Inv E2 W.heap.size σ0 hp0 (gTop W) W:=Z5n λn sv t j s I=>by
  match n,t with
  |3,t=>
   cases t;exact Z24 U j s I
  |1,t=>
   cases t
   match j,I with
   |0,I=>cases I;obtain⟨v,J,R⟩:=Z51 (Zs8 U);exact⟨v,J,R.like (Vs E Zei).1⟩
 refine(hp _ W vals hI ⟨a0.1,λj sv u J R=>(a0.2 j sv u J R).like (Vs E Zei).1⟩).mono ?_;rintro en w' ⟨u,rfl,g',hS,_,hv⟩;cases hv;exact⟨rfl,Zs2 hS⟩
section
variable {H:Type} {enc:TypeId × Value->H} {w:World} {spare:Nat->Bool} {held:Bool}
end
end
section
open Go.ChangeShapes Go.WideShapes Go.ChangeAt Go.RowKit
abbrev Zrs:List (String×DataW Unit):= [("math/bits.deBruijn32tab",Rows.laid_math_bits_deBruijn32tab),("math/bits.deBruijn64tab",Rows.laid_math_bits_deBruijn64tab),("wagonpool/digest.k",Rows.laid_wagonpool_digest_k),("wagonpool/tvm.binaries",Rows.laid_wagonpool_tvm_binaries)]
theorem Z0p{W:World} (h:laidMetH Tryz.prog Zrs W):laidMetH Tryz.prog Zla W:=gZ (λx=>x.1== "wagonpool/digest.k" ||x.1== "wagonpool/tvm.binaries") h
theorem Zrt{f:FuncId} {args:List (SV thy)} (I:PureC E2 f args (.bool ae af)) {W:World} (j:laidMetH Tryz.prog Zrs W) {vals:Array Value} (t:DenL E σ0 (gTop W) args vals.toList):Calls Tryz.prog f vals W λen W'=>en= .returned (.bool af)/\Ext W W':=Zs9 I (Z0p j) t
theorem Zu3(os:Os) (args:Array Value):laidMetH Tryz.prog Zrs ((World.doorLaid Tryz.prog 600 os).forCall (λ_ _=>0) ⟨#[],args,[]⟩).memory:=
 laidMetH_of_parts3 (fuel:=8) (laidMet_of_run' 8 (by kernel_rfl) (by kernel_rfl)) (by kernel_rfl) (by kernel_rfl)
theorem Z39{W W':World} (h:Ext W W'):Ext W {W' with os:=W.os}/\Go.Clock.Later W.os W'.os:=by
 have j:Below W.heap.size W W':=h;exact⟨(⟨rfl,j.tape,j.output,j.size,j.block⟩:Below W.heap.size W {W' with os:=W.os}),by rw[j.os];exact Go.Clock.Later.refl _⟩
end
section
open Go.ChangeShapes Go.WideShapes Go.ChangeAt Go.RowKit
section
variable {H:Type} {enc:TypeId × Value->H} {w:World} {spare:Nat->Bool} {held:Bool}
theorem Zph:Tryz.prog.cellsOf 36=32:=by kernel_rfl
theorem Z5l:Tryz.prog.cellsOf 5=1:=by kernel_rfl
end
end
section
open Go
noncomputable def Zcq(s:St) (n:Int):Opn:=⟨s.pc,s.fuel,s.status,s.clause,s.stack.drop (s.stack.length-(min (max n 0) s.stack.length).toNat),((s.stack.length-(min (max n 0) s.stack.length).toNat:Nat):Int),Ze7 (s.stack.take (s.stack.length-(min (max n 0) s.stack.length).toNat))⟩
def opnV(o:Opn):SV thy:= .agg (encF ae .opns o)
noncomputable def Fopn:Fns thy:=addS F0 75 Sstk
theorem Z89:FnsOk E2 Fopn:=Zc Z7 Z5j
abbrev qCB2:=(0:Int)
abbrev qCB4(j:St):=(↑(ab (St.stack j)):Int)
abbrev qCB1(j:St) (t:Int):=((qCB4 j)-mm2 ae (mm2 af t qCB2) (qCB4 j))
abbrev qCB3(j:Opn):=(cP j)
theorem Zzq(s:St) (n:Int) (z:Opn):Zk E2 Fopn (vc E2 Fopn 400) 46 [stV s,.int ae .i64 n] hp0 0 (λr=>ret E2 (patch hp0 0 r) r.v (opnV z))=(
 (qCB2<=wr ac (qCB1 s n)/\wr ac (qCB1 s n)<=(qCB4 s))/\(qCB2<=wr ac (qCB1 s n)/\wr ac (qCB1 s n)<=(qCB4 s))/\ab (aj (ag (wr ac (qCB1 s n))) (St.stack s))<=1000000/\∀(y:List Int),y=Ze7 (aj (ag (wr ac (qCB1 s n))) (St.stack s))->St.pc s=jK z/\St.fuel s=iE z/\St.status s=gn z/\St.clause s=gp z/\(aV (ag (wr ac (qCB1 s n))) (St.stack s)=fe z/\(ae=af->ae=af))/\wr ac (qCB1 s n)=gR z/\aa y 0 qCB2=aa (qCB3 z) 0 qCB2/\aa y 1 qCB2=aa (qCB3 z) 1 qCB2/\aa y 2 qCB2=aa (qCB3 z) 2 qCB2/\aa y 3 qCB2=aa (qCB3 z) 3 qCB2/\aa y 4 qCB2=aa (qCB3 z) 4 qCB2/\aa y 5 qCB2=aa (qCB3 z) 5 qCB2/\aa y 6 qCB2=aa (qCB3 z) 6 qCB2/\aa y 7 qCB2=aa (qCB3 z) 7 qCB2/\aa y 8 qCB2=aa (qCB3 z) 8 qCB2/\aa y 9 qCB2=aa (qCB3 z) 9 qCB2/\aa y 10 qCB2=aa (qCB3 z) 10 qCB2/\aa y 11 qCB2=aa (qCB3 z) 11 qCB2/\aa y 12 qCB2=aa (qCB3 z) 12 qCB2/\aa y 13 qCB2=aa (qCB3 z) 13 qCB2/\aa y 14 qCB2=aa (qCB3 z) 14 qCB2/\aa y 15 qCB2=aa (qCB3 z) 15 qCB2/\aa y 16 qCB2=aa (qCB3 z) 16 qCB2/\aa y 17 qCB2=aa (qCB3 z) 17 qCB2/\aa y 18 qCB2=aa (qCB3 z) 18 qCB2/\aa y 19 qCB2=aa (qCB3 z) 19 qCB2/\aa y 20 qCB2=aa (qCB3 z) 20 qCB2/\aa y 21 qCB2=aa (qCB3 z) 21 qCB2/\aa y 22 qCB2=aa (qCB3 z) 22 qCB2/\aa y 23 qCB2=aa (qCB3 z) 23 qCB2/\aa y 24 qCB2=aa (qCB3 z) 24 qCB2/\aa y 25 qCB2=aa (qCB3 z) 25 qCB2/\aa y 26 qCB2=aa (qCB3 z) 26 qCB2/\aa y 27 qCB2=aa (qCB3 z) 27 qCB2/\aa y 28 qCB2=aa (qCB3 z) 28 qCB2/\aa y 29 qCB2=aa (qCB3 z) 29 qCB2/\aa y 30 qCB2=aa (qCB3 z) 30 qCB2/\aa y 31 qCB2=aa (qCB3 z) 31 qCB2/\True):=by kernel_rfl
theorem Zzr(s:St) (n:Int) (t:s.stack.length<=1000000):PureC E2 46 [stV s,.int ae .i64 n] (opnV (Zcq s n)):=by
 refine Za Zd (Zb Zd Z89 400) ?_;rw[Zzq];delta qCB2 qCB4 qCB1 qCB3;simp only[Zx,Z4];have e:wr .i64 ((s.stack.length:Int)-min (max n 0) (s.stack.length:Int))=((s.stack.length-(min (max n 0) s.stack.length).toNat:Nat):Int):=by
  rw[wr64 (by omega) (by omega)];omega
 rw[e,bB];refine⟨⟨by omega,by omega⟩,⟨by omega,by omega⟩,by rw[aW];omega,λy j=> ?_⟩;rw[j];exact⟨rfl,rfl,rfl,rfl,⟨rfl,id⟩,rfl,rfl,rfl,rfl,rfl,rfl,rfl,rfl,rfl,rfl,rfl,rfl,rfl,rfl,rfl,rfl,rfl,rfl,rfl,rfl,rfl,rfl,rfl,rfl,rfl,rfl,rfl,rfl,rfl,rfl,rfl,rfl,rfl,js⟩
end
section
open Go
def kOf(s:St) (n:Int):Nat:=s.stack.length-(min (max n 0) s.stack.length).toNat
theorem Zru(s:St) (n:Int):(Zcq s n).depth=(kOf s n:Int)/\(Zcq s n).top.length=(min (max n 0) s.stack.length).toNat/\(s.stack.take (kOf s n)).length=kOf s n/\kOf s n+(Zcq s n).top.length=s.stack.length:=by
 refine⟨rfl,?_,?_,?_⟩
 ·show(s.stack.drop _).length=_
  rw[fh];omega
 ·rw[aW];unfold kOf;omega
 ·show kOf s n+(s.stack.drop _).length=_
  rw[fh];unfold kOf;omega
end
section
open Go
noncomputable def Z6n(th:Th):Dc E2 (domT th):=dRow Zd th λ_ _ h=>Zex h
noncomputable def Zku:Dc E2 Env:=Z6n .envs
noncomputable def dSt2:Dc E2 St:=Z6n .sts
noncomputable def Yac:Dc E2 Opn:=Z6n .opns
noncomputable def Z4l:Sum thy:=Ub (.cons dSt2 (.cons (dInt (E:=E2) .i64) .nil)) (λx=>x.1.stack.length<=1000000) (λx=>Zcq x.1 x.2.1) opnV
theorem Zwt:SumOk E2 46 Z4l:=Yn Zd (Ze (f:=46) rfl) λx h=>Zzr x.1 x.2.1 h
noncomputable def Z4m:Sum thy:=Ub (.cons (Zbv E2) (.cons Zku (.cons dSt2 .nil))) (λ_=>True) (λx=>Uq x.1 x.2.1 x.2.2.1) λy=> .tup [stV y.1,.int ae .i64 y.2]
theorem Zwu:SumOk E2 44 Z4m:=Yn Zd (Ze (f:=44) rfl) λx _=>up2 (Zyq x.1 x.2.1 x.2.2.1)
theorem Z4n{d:List Int} (h:d.length=32):n32 d=d:=by
 match d,h with
 | [j,t,a2,a3,a4,a5,a6,a7,a8,a9,I,J,R,U,a0,a1,b0,b3,b4,b5,b6,b7,b8,b9,c0,c1,c2,c3,c4,c5,c6,c7],_=>rfl
end
section
open Go
noncomputable def Finp:Fns thy:=addS F0 68 Z1x
theorem Z8r:FnsOk E2 Finp:=Zc Z7 Zic
abbrev qCEh:=(1:Int)
abbrev qCE2:=(1:Nat)
abbrev qCEq:=(qCE2+qCE2+qCE2+qCE2+qCE2+qCE2+qCE2+qCE2)
abbrev qCEn:=(qCE2+qCE2+qCE2+qCE2+qCE2+qCE2)
abbrev qCEp(j:Env):=(aj qCE2 [bd qCEh (Env.v0 j) [] []]++ [bd qCEh (Env.v1 j) [] []])
abbrev qCE7(j:Env):=(aj (qCE2+qCE2) (qCEp j)++ [bd qCEh (Env.v2 j) [] []])
abbrev qCEr(j:Env):=(aj (qCE2+qCE2+qCE2) (qCE7 j)++ [bd qCEh (Env.v3 j) [] []])
abbrev qCEg(j:Env):=(aj (qCE2+qCE2+qCE2+qCE2) (qCEr j)++ [bd qCEh (Env.v4 j) [] []])
abbrev qCE3(j:Env):=(aj (qCE2+qCE2+qCE2+qCE2+qCE2) (qCEg j)++ [bd qCEh (Env.v5 j) [] []])
abbrev qCEs:=(qCE2+qCE2+qCE2+qCE2+qCE2+qCE2+qCE2)
abbrev qCEd(j:Env):=(aj qCEs (aj qCEn (qCE3 j)++ [bd qCEh (Env.v6 j) [] []])++ [bd qCEh (Env.v7 j) [] []])
abbrev qCE5(j:Env):=(aj qCEq (qCEd j)++ [bd qCEh (Env.v8 j) [] []])
abbrev qCEi:=(qCE2+qCE2+qCE2+qCE2+qCE2+qCE2+qCE2+qCE2+qCE2)
abbrev qCEo:=(qCE2+qCE2+qCE2+qCE2+qCE2+qCE2+qCE2+qCE2+qCE2+qCE2)
abbrev qCE1(j:Env):=(aj qCEo (aj qCEi (qCE5 j)++ [bd qCEh (Env.v9 j) [] []])++ [bd qCEh (Env.v10 j) [] []])
abbrev qCEk:=(qCE2+qCE2+qCE2+qCE2+qCE2+qCE2+qCE2+qCE2+qCE2+qCE2+qCE2+qCE2+qCE2+qCE2)
abbrev qCEf:=(qCE2+qCE2+qCE2+qCE2+qCE2+qCE2+qCE2+qCE2+qCE2+qCE2+qCE2)
abbrev qCEm:=(qCE2+qCE2+qCE2+qCE2+qCE2+qCE2+qCE2+qCE2+qCE2+qCE2+qCE2+qCE2)
abbrev qCE6(j:Env):=(aj qCEm (aj qCEf (qCE1 j)++ [bd qCEh (Env.v11 j) [] []])++ [bd qCEh (Env.v12 j) [] []])
abbrev qCEe:=(qCE2+qCE2+qCE2+qCE2+qCE2+qCE2+qCE2+qCE2+qCE2+qCE2+qCE2+qCE2+qCE2)
abbrev qCE4(j:Env):=(aj qCEk (aj qCEe (qCE6 j)++ [bd qCEh (Env.v13 j) [] []])++ [bd qCEh (Env.v14 j) [] []])
abbrev qCEc:=(qCE2+qCE2+qCE2+qCE2+qCE2+qCE2+qCE2+qCE2+qCE2+qCE2+qCE2+qCE2+qCE2+qCE2+qCE2)
abbrev qCE9:=(0:Int)
abbrev qCEb:=(qCE2+qCE2+qCE2+qCE2+qCE2+qCE2+qCE2+qCE2+qCE2+qCE2+qCE2+qCE2+qCE2+qCE2+qCE2+qCE2)
abbrev qCEj:=(0:Nat)
abbrev qCE8(j:Env):=(bd (3:Int) qCE9 [] [bd qCEh (Env.has j) [] [],bd (3:Int) qCE9 [] (aj qCEb (aV qCEj (aj qCEc (qCE4 j)++ [bd qCEh (Env.v15 j) [] []])))])
abbrev qCEa:=(140737488355328:Nat)
abbrev qCEl:=(64:Nat)
theorem Zot(v:Env) (z:List Int):Zk E2 Finp (vc E2 Finp 400) 72 [envV v] hp0 0 (λr=>ret E2 (patch hp0 0 r) r.v (Zm z))=(
 (qCE2<=qCE2/\qCEj<=qCE2/\(qCE2+qCE2)*qCEl<=qCEa)/\(qCE2+qCE2<=ab (qCEp v)/\qCEj<=qCE2+qCE2/\(qCE2+qCE2+qCE2)*qCEl<=qCEa)/\(qCE2+qCE2+qCE2<=ab (qCE7 v)/\qCEj<=qCE2+qCE2+qCE2/\(qCE2+qCE2+qCE2+qCE2)*qCEl<=qCEa)/\(qCE2+qCE2+qCE2+qCE2<=ab (qCEr v)/\qCEj<=qCE2+qCE2+qCE2+qCE2/\(qCE2+qCE2+qCE2+qCE2+qCE2)*qCEl<=qCEa)/\(qCE2+qCE2+qCE2+qCE2+qCE2<=ab (qCEg v)/\qCEj<=qCE2+qCE2+qCE2+qCE2+qCE2/\qCEn*qCEl<=qCEa)/\(qCE2+qCE2+qCE2+qCE2+qCE2+qCE2<=ab (qCE3 v)/\qCEj<=qCE2+qCE2+qCE2+qCE2+qCE2+qCE2/\qCEs*qCEl<=qCEa)/\(qCE2+qCE2+qCE2+qCE2+qCE2+qCE2+qCE2<=ab (aj qCEn (qCE3 v)++ [bd qCEh (Env.v6 v) [] []])/\qCEj<=qCE2+qCE2+qCE2+qCE2+qCE2+qCE2+qCE2/\qCEq*qCEl<=qCEa)/\(qCE2+qCE2+qCE2+qCE2+qCE2+qCE2+qCE2+qCE2<=ab (qCEd v)/\qCEj<=qCE2+qCE2+qCE2+qCE2+qCE2+qCE2+qCE2+qCE2/\qCEi*qCEl<=qCEa)/\(qCE2+qCE2+qCE2+qCE2+qCE2+qCE2+qCE2+qCE2+qCE2<=ab (qCE5 v)/\qCEj<=qCE2+qCE2+qCE2+qCE2+qCE2+qCE2+qCE2+qCE2+qCE2/\qCEo*qCEl<=qCEa)/\(qCE2+qCE2+qCE2+qCE2+qCE2+qCE2+qCE2+qCE2+qCE2+qCE2<=ab (aj qCEi (qCE5 v)++ [bd qCEh (Env.v9 v) [] []])/\qCEj<=qCE2+qCE2+qCE2+qCE2+qCE2+qCE2+qCE2+qCE2+qCE2+qCE2/\qCEf*qCEl<=qCEa)/\(qCE2+qCE2+qCE2+qCE2+qCE2+qCE2+qCE2+qCE2+qCE2+qCE2+qCE2<=ab (qCE1 v)/\qCEj<=qCE2+qCE2+qCE2+qCE2+qCE2+qCE2+qCE2+qCE2+qCE2+qCE2+qCE2/\qCEm*qCEl<=qCEa)/\(qCE2+qCE2+qCE2+qCE2+qCE2+qCE2+qCE2+qCE2+qCE2+qCE2+qCE2+qCE2<=ab (aj qCEf (qCE1 v)++ [bd qCEh (Env.v11 v) [] []])/\qCEj<=qCE2+qCE2+qCE2+qCE2+qCE2+qCE2+qCE2+qCE2+qCE2+qCE2+qCE2+qCE2/\qCEe*qCEl<=qCEa)/\(qCE2+qCE2+qCE2+qCE2+qCE2+qCE2+qCE2+qCE2+qCE2+qCE2+qCE2+qCE2+qCE2<=ab (qCE6 v)/\qCEj<=qCE2+qCE2+qCE2+qCE2+qCE2+qCE2+qCE2+qCE2+qCE2+qCE2+qCE2+qCE2+qCE2/\qCEk*qCEl<=qCEa)/\(qCE2+qCE2+qCE2+qCE2+qCE2+qCE2+qCE2+qCE2+qCE2+qCE2+qCE2+qCE2+qCE2+qCE2<=ab (aj qCEe (qCE6 v)++ [bd qCEh (Env.v13 v) [] []])/\qCEj<=qCE2+qCE2+qCE2+qCE2+qCE2+qCE2+qCE2+qCE2+qCE2+qCE2+qCE2+qCE2+qCE2+qCE2/\qCEc*qCEl<=qCEa)/\(qCE2+qCE2+qCE2+qCE2+qCE2+qCE2+qCE2+qCE2+qCE2+qCE2+qCE2+qCE2+qCE2+qCE2+qCE2<=ab (qCE4 v)/\qCEj<=qCE2+qCE2+qCE2+qCE2+qCE2+qCE2+qCE2+qCE2+qCE2+qCE2+qCE2+qCE2+qCE2+qCE2+qCE2/\qCEb*qCEl<=qCEa)/\qCEj+qCEb<=ab (aj qCEc (qCE4 v)++ [bd qCEh (Env.v15 v) [] []])/\(qCEj+qCE2+qCE2+qCE2<=4/\OkV (qCE8 v))/\∀(y:List Int),y=We (qCEj+qCE2+qCE2) (qCE8 v)->aa y qCEj qCE9=aa z qCEj qCE9/\aa y qCE2 qCE9=aa z qCE2 qCE9/\aa y 2 qCE9=aa z 2 qCE9/\aa y 3 qCE9=aa z 3 qCE9/\aa y 4 qCE9=aa z 4 qCE9/\aa y 5 qCE9=aa z 5 qCE9/\aa y 6 qCE9=aa z 6 qCE9/\aa y 7 qCE9=aa z 7 qCE9/\aa y 8 qCE9=aa z 8 qCE9/\aa y 9 qCE9=aa z 9 qCE9/\aa y 10 qCE9=aa z 10 qCE9/\aa y 11 qCE9=aa z 11 qCE9/\aa y 12 qCE9=aa z 12 qCE9/\aa y 13 qCE9=aa z 13 qCE9/\aa y 14 qCE9=aa z 14 qCE9/\aa y 15 qCE9=aa z 15 qCE9/\aa y 16 qCE9=aa z 16 qCE9/\aa y 17 qCE9=aa z 17 qCE9/\aa
y 18 qCE9=aa z 18 qCE9/\aa y 19 qCE9=aa z 19 qCE9/\aa y 20 qCE9=aa z 20 qCE9/\aa y 21 qCE9=aa z 21 qCE9/\aa y 22 qCE9=aa z 22 qCE9/\aa y 23 qCE9=aa z 23 qCE9/\aa y 24 qCE9=aa z 24 qCE9/\aa y 25 qCE9=aa z 25 qCE9/\aa y 26 qCE9=aa z 26 qCE9/\aa y 27 qCE9=aa z 27 qCE9/\aa y 28 qCE9=aa z 28 qCE9/\aa y 29 qCE9=aa z 29 qCE9/\aa y 30 qCE9=aa z 30 qCE9/\aa y 31 qCE9=aa z 31 qCE9/\True):=by kernel_rfl
def Zou(v:Env):Val:=lisV [numV v.has,lisV (v.v.map numV)]
noncomputable def Vh(v:Env):List Int:=We 2 (Zou v)
theorem Zhd(v:Env):OkV (Zou v):=⟨by simp[Zou,lisV,numV,Env.v,kz,szL]⟩
theorem Zov(v:Env):PureC E2 72 [envV v] (Zm (Vh v)):=by
 refine Za Zd (Zb Zd Z8r 400) ?_;rw[Zot];delta qCEh qCE2 qCEq qCEn qCEp qCE7 qCEr qCEg qCE3 qCEs qCEd qCE5 qCEi qCEo qCE1 qCEk qCEf qCEm qCE6 qCEe qCE4 qCEc qCE9 qCEb qCEj qCE8 qCEa qCEl
 refine⟨iK (by kernel_rfl),iK (by kernel_rfl),iK (by kernel_rfl),iK (by kernel_rfl),iK (by kernel_rfl),iK (by kernel_rfl),iK (by kernel_rfl),iK (by kernel_rfl),iK (by kernel_rfl),iK (by kernel_rfl),iK (by kernel_rfl),iK (by kernel_rfl),iK (by kernel_rfl),iK (by kernel_rfl),iK (by kernel_rfl),iK (by kernel_rfl),⟨by omega,Zhd v⟩,λy j=> ?_⟩
 have e:y=Vh v:=j.trans (by kernel_rfl);rw[e];exact⟨rfl,rfl,rfl,rfl,rfl,rfl,rfl,rfl,rfl,rfl,rfl,rfl,rfl,rfl,rfl,rfl,rfl,rfl,rfl,rfl,rfl,rfl,rfl,rfl,rfl,rfl,rfl,rfl,rfl,rfl,rfl,rfl,js⟩
noncomputable def Sinp:Sum thy:=Ub (.cons Zku .nil) (λ_=>True) (λx=>Vh x.1) Zm
theorem Z8s:SumOk E2 72 Sinp:=Yn Zd (Ze (f:=72) rfl) λx _=>Zov x.1
noncomputable def Fwho:Fns thy:=addS (addS (addS (addS F0 68 Z1x) 71 Sprg) 72 Sinp) 74 Z5h
theorem Z8t:FnsOk E2 Fwho:=Zc (Zc (Zc (Zc Z7 Zic) Z5k) Z8s) Zpg
abbrev qCEu:=(0:Int)
abbrev qCEw:=(1:Nat)
abbrev qCEt(j:List Int) (t:List Int) (J:Opn) (I:List Int):=(bd (3:Int) qCEu [] [bd (2:Int) qCEu [aa j (0:Nat) qCEu,aa j qCEw qCEu,aa j (2:Nat) qCEu,aa j (3:Nat) qCEu,aa j (4:Nat) qCEu,aa j (5:Nat) qCEu,aa j (6:Nat) qCEu,aa j (7:Nat) qCEu,aa j (8:Nat) qCEu,aa j (9:Nat) qCEu,aa j (10:Nat) qCEu,aa j (11:Nat) qCEu,aa j (12:Nat) qCEu,aa j (13:Nat) qCEu,aa j (14:Nat) qCEu,aa j (15:Nat) qCEu,aa j (16:Nat) qCEu,aa j (17:Nat) qCEu,aa j (18:Nat) qCEu,aa j (19:Nat) qCEu,aa j (20:Nat) qCEu,aa j (21:Nat) qCEu,aa j (22:Nat) qCEu,aa j (23:Nat) qCEu,aa j (24:Nat) qCEu,aa j (25:Nat) qCEu,aa j (26:Nat) qCEu,aa j (27:Nat) qCEu,aa j (28:Nat) qCEu,aa j (29:Nat) qCEu,aa j (30:Nat) qCEu,aa j (31:Nat) qCEu] [],bd (2:Int) qCEu [aa t (0:Nat) qCEu,aa t qCEw qCEu,aa t (2:Nat) qCEu,aa t (3:Nat) qCEu,aa t (4:Nat) qCEu,aa t (5:Nat) qCEu,aa t (6:Nat) qCEu,aa t (7:Nat) qCEu,aa t (8:Nat) qCEu,aa t (9:Nat) qCEu,aa t (10:Nat) qCEu,aa t (11:Nat) qCEu,aa t (12:Nat) qCEu,aa t (13:Nat) qCEu,aa t (14:Nat) qCEu,aa t (15:Nat) qCEu,aa t (16:Nat) qCEu,aa t (17:Nat) qCEu,aa t (18:Nat) qCEu,aa t (19:Nat) qCEu,aa t (20:Nat) qCEu,aa t (21:Nat) qCEu,aa t (22:Nat) qCEu,aa t (23:Nat) qCEu,aa t (24:Nat) qCEu,aa t (25:Nat) qCEu,aa t (26:Nat) qCEu,aa t (27:Nat) qCEu,aa t (28:Nat) qCEu,aa t (29:Nat) qCEu,aa t (30:Nat) qCEu,aa t (31:Nat) qCEu] [],bd (1:Int) (jK J) [] [],bd (1:Int) (iE J) [] [],bd (1:Int) (gn J) [] [],bd (1:Int) (gp J) [] [],bd (1:Int) (wr ac (gR J+(↑(ab (fe J)):Int))) [] [],bd (2:Int) qCEu [aa I (0:Nat) qCEu,aa I qCEw qCEu,aa I (2:Nat) qCEu,aa I (3:Nat) qCEu,aa I (4:Nat) qCEu,aa I (5:Nat) qCEu,aa I (6:Nat) qCEu,aa I (7:Nat) qCEu,aa I (8:Nat) qCEu,aa I (9:Nat) qCEu,aa I (10:Nat) qCEu,aa I (11:Nat) qCEu,aa I (12:Nat) qCEu,aa I (13:Nat) qCEu,aa I (14:Nat) qCEu,aa I (15:Nat) qCEu,aa I (16:Nat) qCEu,aa I (17:Nat) qCEu,aa I (18:Nat) qCEu,aa I (19:Nat) qCEu,aa I (20:Nat) qCEu,aa I (21:Nat) qCEu,aa I (22:Nat) qCEu,aa I (23:Nat) qCEu,aa I (24:Nat) qCEu,aa I (25:Nat) qCEu,aa I (26:Nat) qCEu,aa I (27:Nat) qCEu,aa I (28:Nat) qCEu,aa I (29:Nat) qCEu,aa I (30:Nat) qCEu,aa I (31:Nat) qCEu] []])
abbrev qCEv(j:Opn):=(cP j)
theorem Ztp(c:List Ins) (v:Env) (o:Opn) (z:List Int):Zk E2 Fwho (vc E2 Fwho 400) 45 [.psl iC c ae,envV v,opnV o] hp0 0 (λr=>ret E2 (patch hp0 0 r) r.v (Zm z))=(
 ab c<=1000000/\∀(y:List Int),y=Zdx c->True/\∀(t:List Int),t=Vh v->ab (fe o)<=1000000/\∀(I:List Int),I=Zav [aa (qCEv o) 0 qCEu,aa (qCEv o) qCEw qCEu,aa (qCEv o) 2 qCEu,aa (qCEv o) 3 qCEu,aa (qCEv o) 4 qCEu,aa (qCEv o) 5 qCEu,aa (qCEv o) 6 qCEu,aa (qCEv o) 7 qCEu,aa (qCEv o) 8 qCEu,aa (qCEv o) 9 qCEu,aa (qCEv o) 10 qCEu,aa (qCEv o) 11 qCEu,aa (qCEv o) 12 qCEu,aa (qCEv o) 13 qCEu,aa (qCEv o) 14 qCEu,aa (qCEv o) 15 qCEu,aa (qCEv o) 16 qCEu,aa (qCEv o) 17 qCEu,aa (qCEv o) 18 qCEu,aa (qCEv o) 19 qCEu,aa (qCEv o) 20 qCEu,aa (qCEv o) 21 qCEu,aa (qCEv o) 22 qCEu,aa (qCEv o) 23 qCEu,aa (qCEv o) 24 qCEu,aa (qCEv o) 25 qCEu,aa (qCEv o) 26 qCEu,aa (qCEv o) 27 qCEu,aa (qCEv o) 28 qCEu,aa (qCEv o) 29 qCEu,aa (qCEv o) 30 qCEu,aa (qCEv o) 31 qCEu] (fe o)->(0+qCEw+qCEw+qCEw+qCEw<=4/\OkV (qCEt y t o I))/\∀(j:List Int),j=We (0+qCEw+qCEw+qCEw) (qCEt y t o I)->aa j 0 qCEu=aa z 0 qCEu/\aa j qCEw qCEu=aa z qCEw qCEu/\aa j 2 qCEu=aa z 2 qCEu/\aa j 3 qCEu=aa z 3 qCEu/\aa j 4 qCEu=aa z 4 qCEu/\aa j 5 qCEu=aa z 5 qCEu/\aa j 6 qCEu=aa z 6 qCEu/\aa j 7 qCEu=aa z 7 qCEu/\aa j 8 qCEu=aa z 8 qCEu/\aa j 9 qCEu=aa z 9 qCEu/\aa j 10 qCEu=aa z 10 qCEu/\aa j 11 qCEu=aa z 11 qCEu/\aa j 12 qCEu=aa z 12 qCEu/\aa j 13 qCEu=aa z 13 qCEu/\aa j 14 qCEu=aa z 14 qCEu/\aa j 15 qCEu=aa z 15 qCEu/\aa j 16 qCEu=aa z 16 qCEu/\aa j 17 qCEu=aa z 17 qCEu/\aa j 18 qCEu=aa z 18 qCEu/\aa j 19 qCEu=aa z 19 qCEu/\aa j 20 qCEu=aa z 20 qCEu/\aa j 21 qCEu=aa z 21 qCEu/\aa j 22 qCEu=aa z 22 qCEu/\aa j 23 qCEu=aa z 23 qCEu/\aa j 24 qCEu=aa z 24 qCEu/\aa j 25 qCEu=aa z 25 qCEu/\aa j 26 qCEu=aa z 26 qCEu/\aa j 27 qCEu=aa z 27 qCEu/\aa j 28 qCEu=aa z 28 qCEu/\aa j 29 qCEu=aa z 29 qCEu/\aa j 30 qCEu=aa z 30 qCEu/\aa j 31 qCEu=aa z 31 qCEu/\True):=by kernel_rfl
def Zfs(p i:List Int) (o:Opn) (t:List Int):Val:=lisV [bytV p,bytV i,numV o.pc,numV o.fuel,numV o.status,numV o.clause,numV (wr .i64 (o.depth+(o.top.length:Int))),bytV t]
theorem Zlq(p i:List Int) (o:Opn) (t:List Int):OkV (Zfs p i o t):=⟨by simp[Zfs,lisV,numV,bytV,n32,kz,szL]⟩
noncomputable def Zdm(c:List Ins) (v:Env) (o:Opn):List Int:=We 3 (Zfs (Zdx c) (Vh v) o (Zav (n32 o.rest) o.top))
theorem Ztq(c:List Ins) (v:Env) (o:Opn) (I:c.length<=1000000) (J:o.top.length<=1000000):PureC E2 45 [.psl iC c ae,envV v,opnV o] (Zm (Zdm c v o)):=by
 refine Za Zd (Zb Zd Z8t 400) ?_;rw[Ztp];delta qCEu qCEw qCEt qCEv;refine⟨I,λy R=>⟨js,λj U=>⟨J,λt a0=>⟨⟨by omega,Zlq y j o t⟩,λy3 a1=> ?_⟩⟩⟩⟩;have e:y3=Zdm c v o:=by
  rw[a1];show We 3 (Zfs y j o t)=_;rw[R,U,a0];rfl
 rw[e];exact⟨rfl,rfl,rfl,rfl,rfl,rfl,rfl,rfl,rfl,rfl,rfl,rfl,rfl,rfl,rfl,rfl,rfl,rfl,rfl,rfl,rfl,rfl,rfl,rfl,rfl,rfl,rfl,rfl,rfl,rfl,rfl,rfl,js⟩
noncomputable def Swho:Sum thy:=Ub (.cons (Zbv E2) (.cons Zku (.cons Yac .nil))) (λx=>x.1.length<=1000000/\x.2.2.1.top.length<=1000000) (λx=>Zdm x.1 x.2.1 x.2.2.1) Zm
theorem Z8u:SumOk E2 45 Swho:=Yn Zd (Ze (f:=45) rfl) λx h=>Ztq x.1 x.2.1 x.2.2.1 h.1 h.2
noncomputable def Fdgs:Fns thy:=addS (addS F0 45 Swho) 46 Z4l
theorem Z8v:FnsOk E2 Fdgs:=Zc (Zc Z7 Z8u) Zwt
abbrev qCEx:=(0:Int)
abbrev qCEy(j:Opn):=(cP j)
theorem Zow(c:List Ins) (v:Env) (s:St) (z:List Int):Zk E2 Fdgs (vc E2 Fdgs 400) 22 [.psl iC c ae,envV v,stV s] hp0 0 (λr=>ret E2 (patch hp0 0 r) r.v (Zm z))=(
 ab (St.stack s)<=1000000/\∀(y:Opn),y=Zcq s (↑(ab (St.stack s)):Int)->(ab c<=1000000/\ab (fe y)<=1000000)/\∀(j:List Int),j=Zdm c v (Opn.mk (jK y) (iE y) (gn y) (gp y) (fe y) (gR y) [aa (qCEy y) 0 qCEx,aa (qCEy y) 1 qCEx,aa (qCEy y) 2 qCEx,aa (qCEy y) 3 qCEx,aa (qCEy y) 4 qCEx,aa (qCEy y) 5 qCEx,aa (qCEy y) 6 qCEx,aa (qCEy y) 7 qCEx,aa (qCEy y) 8 qCEx,aa (qCEy y) 9 qCEx,aa (qCEy y) 10 qCEx,aa (qCEy y) 11 qCEx,aa (qCEy y) 12 qCEx,aa (qCEy y) 13 qCEx,aa (qCEy y) 14 qCEx,aa (qCEy y) 15 qCEx,aa (qCEy y) 16 qCEx,aa (qCEy y) 17 qCEx,aa (qCEy y) 18 qCEx,aa (qCEy y) 19 qCEx,aa (qCEy y) 20 qCEx,aa (qCEy y) 21 qCEx,aa (qCEy y) 22 qCEx,aa (qCEy y) 23 qCEx,aa (qCEy y) 24 qCEx,aa (qCEy y) 25 qCEx,aa (qCEy y) 26 qCEx,aa (qCEy y) 27 qCEx,aa (qCEy y) 28 qCEx,aa (qCEy y) 29 qCEx,aa (qCEy y) 30 qCEx,aa (qCEy y) 31 qCEx])->aa j 0 qCEx=aa z 0 qCEx/\aa j 1 qCEx=aa z 1 qCEx/\aa j 2 qCEx=aa z 2 qCEx/\aa j 3 qCEx=aa z 3 qCEx/\aa j 4 qCEx=aa z 4 qCEx/\aa j 5 qCEx=aa z 5 qCEx/\aa j 6 qCEx=aa z 6 qCEx/\aa j 7 qCEx=aa z 7 qCEx/\aa j 8 qCEx=aa z 8 qCEx/\aa j 9 qCEx=aa z 9 qCEx/\aa j 10 qCEx=aa z 10 qCEx/\aa j 11 qCEx=aa z 11 qCEx/\aa j 12 qCEx=aa z 12 qCEx/\aa j 13 qCEx=aa z 13 qCEx/\aa j 14 qCEx=aa z 14 qCEx/\aa j 15 qCEx=aa z 15 qCEx/\aa j 16 qCEx=aa z 16 qCEx/\aa j 17 qCEx=aa z 17 qCEx/\aa j 18 qCEx=aa z 18 qCEx/\aa j 19 qCEx=aa z 19 qCEx/\aa j 20 qCEx=aa z 20 qCEx/\aa j 21 qCEx=aa z 21 qCEx/\aa j 22 qCEx=aa z 22 qCEx/\aa j 23 qCEx=aa z 23 qCEx/\aa j 24 qCEx=aa z 24 qCEx/\aa j 25 qCEx=aa z 25 qCEx/\aa j 26 qCEx=aa z 26 qCEx/\aa j 27 qCEx=aa z 27 qCEx/\aa j 28 qCEx=aa z 28 qCEx/\aa j 29 qCEx=aa z 29 qCEx/\aa j 30 qCEx=aa z 30 qCEx/\aa j 31 qCEx=aa z 31 qCEx/\True):=by kernel_rfl
noncomputable def Uc(c:List Ins) (v:Env) (s:St):List Int:=Zdm c v (Zcq s s.stack.length)
theorem Zox(c:List Ins) (v:Env) (o:Opn):Zdm c v ⟨o.pc,o.fuel,o.status,o.clause,o.top,o.depth,n32 o.rest⟩=Zdm c v o:=by
 unfold Zdm;show We 3 (Zfs (Zdx c) (Vh v) o (Zav (n32 (n32 o.rest)) o.top))=_;rw[Z4n (d:=n32 o.rest) (by simp[n32])]
theorem Zoy(c:List Ins) (v:Env) (s:St) (t:c.length<=1000000) (I:s.stack.length<=1000000):PureC E2 22 [.psl iC c ae,envV v,stV s] (Zm (Uc c v s)):=by
 refine Za Zd (Zb Zd Z8v 400) ?_;rw[Zow];delta qCEx qCEy;refine⟨I,λy j=>⟨⟨t,?_⟩,λR J=> ?_⟩⟩
 ·have:=(Zru s (s.stack.length:Int)).2.1
  rw[j,this];omega
 ·have e:R=Uc c v s:=by
   rw[J,j];exact Zox c v (Zcq s s.stack.length)
  rw[e];exact⟨rfl,rfl,rfl,rfl,rfl,rfl,rfl,rfl,rfl,rfl,rfl,rfl,rfl,rfl,rfl,rfl,rfl,rfl,rfl,rfl,rfl,rfl,rfl,rfl,rfl,rfl,rfl,rfl,rfl,rfl,rfl,rfl,js⟩
noncomputable def Sdgs:Sum thy:=Ub (.cons (Zbv E2) (.cons Zku (.cons dSt2 .nil))) (λx=>x.1.length<=1000000/\x.2.2.1.stack.length<=1000000) (λx=>Uc x.1 x.2.1 x.2.2.1) Zm
theorem Z8w:SumOk E2 22 Sdgs:=Yn Zd (Ze (f:=22) rfl) λx h=>Zoy x.1 x.2.1 x.2.2.1 h.1 h.2
end
section
open Go
theorem Z1p(x:Ins) (v:Env) (s:St) (b:Int):(Zi x v s b).1.stack.length<=s.stack.length+1:=by
 unfold Zi;dsimp only[St.pops]
 repeat' split
 all_goals simp
 all_goals omega
theorem Z6b(c:List Ins) (v:Env) (s:St) (b:Int):(advF c v s b).stack.length<=s.stack.length+1:=by
 unfold advF;split
 ·show s.stack.length<=_;omega
 ·split
  ·omega
  ·rename_i x j
   split
   ·exact Z1p x v {s with fuel:=s.fuel-1} b
   ·show s.stack.length<=_;omega
end
section
open Go
def dmF(c:List Ins) (v:Env):Nat->St->Nat
 |0,_=>0
 |n+1,s=>if s.status=0 then dmF c v n (advF c v s 0)+1 else 0
def dM(c:List Ins) (v:Env):Nat:=dmF c v c.length (St.start ((c.length:Int)+1))
def dsk(c:List Ins) (v:Env) (k:Nat):St:=itF c v k (St.start ((c.length:Int)+1))
theorem Zul{c:List Ins} {D:List Int} {v:Env} (R:Safe c D) (U:(verF c).2=0):∀(n:Nat) (s:St),(s.status=0->Good c D s/\(c.length:Int)-s.pc<=n/\(n:Int)<s.fuel/\s.fuel<=32768)->
 dmF c v n s<=n/\(itF c v (dmF c v n s) s).status≠0/\∀k,k<dmF c v n s->Good c D (itF c v k s)/\Uq c v (itF c v k s)=(itF c v (k+1) s,0)
 |0,s,h=>by
  have j:s.status≠0:=λj=>by
   obtain⟨t,h2,_⟩:=h j
   have:=t.lt
   omega
  exact⟨aE _,j,λk J=>jv J (iU _)⟩
 |n+1,s,h=>by
  by_cases j:s.status=0
  ·obtain⟨t,h2,h3,h4⟩:=h j
   obtain⟨p1,p2,p3,p4⟩:=Zif (v:=v) R t (by omega)
   have e:dmF c v (n+1) s=dmF c v n (advF c v s 0)+1:=jh j
   have I:∀k,itF c v (k+1) s=itF c v k (advF c v s 0):=λk=>jh j
   obtain⟨q1,q2,q3⟩:=Zul (v:=v) R U n (advF c v s 0) λhz=>by
    obtain⟨g1,g2⟩:=p1 hz
    exact⟨g1,by omega,by omega,by omega⟩
   rw[e]
   refine⟨by omega,by rw[I];exact q2,λk J=> ?_⟩
   cases k with
   |zero=>
    refine⟨t,?_⟩
    show Uq c v s=(itF c v 1 s,0)
    rw[I]
    unfold Uq
    rw[Zc0 R U t h4]
    rfl
   |succ k=>
    rw[I,I]
    exact q3 k (by omega)
  ·have e:dmF c v (n+1) s=0:=jb j
   rw[e]
   exact⟨bg _,j,λk J=>jv J (iU _)⟩
theorem Zct{c:List Ins} {v:Env} (U:(verF c).2=0):dM c v<=c.length/\(dsk c v (dM c v)).status≠0/\(∀k,k<=dM c v->(dsk c v k).stack.length<=65)/\∀k,k<dM c v->(dsk c v k).status=0/\Uq c v (dsk c v k)=(dsk c v (k+1),0)/\0<=(dsk c v k).pc/\(dsk c v k).pc<c.length/\(dsk c v k).stack.length<=64/\Wy c (dsk c v k) 0=0/\0<(dsk c v k).fuel/\(dsk c v (k+1))=advF c v (dsk c v k) 0:=by
 obtain⟨D,I⟩:=Wf U;have h4:=I.short;obtain⟨q1,q2,q3⟩:=Zul (v:=v) I U c.length (St.start ((c.length:Int)+1)) λ_=>⟨Zg3 I (by omega),(by show(c.length:Int)-0<=_;omega),(by show(c.length:Int)<(c.length:Int)+1;omega),(by show(c.length:Int)+1<=32768;omega)⟩;have q0:dM c v<=c.length:=q1;have fu:∀k,k<=dM c v->(dsk c v k).fuel=(c.length:Int)+1-k:=by
  intro k
  induction k with
  |zero=>intro _;show(c.length:Int)+1=_;omega
  |succ k ih=>
   intro J;have J:k+1<=dM c v:=J;obtain⟨t,j⟩:=q3 k (by show k<dM c v;omega);have ih:=ih (by omega);have R:Wy c (itF c v k (St.start ((c.length:Int)+1))) 0=0:=Zc0 I U t (by show(dsk c v k).fuel<=_;omega);have e:dsk c v (k+1)=advF c v (dsk c v k) 0:=by
    have j:=jy ay j;unfold Uq at j;rw[R] at j;exact j.symm
   have p:=(Zif (v:=v) I t (by show 0<(dsk c v k).fuel;omega)).2.1;have p:(advF c v (dsk c v k) 0).fuel=(dsk c v k).fuel-1:=p;rw[e,p];omega
 have body:∀k,k<dM c v->(dsk c v k).status=0/\Uq c v (dsk c v k)=(dsk c v (k+1),0)/\0<=(dsk c v k).pc/\(dsk c v k).pc<c.length/\(dsk c v k).stack.length<=64/\Wy c (dsk c v k) 0=0/\0<(dsk c v k).fuel/\(dsk c v (k+1))=advF c v (dsk c v k) 0:=by
  intro k J;obtain⟨t,j⟩:=q3 k J;have q1:dM c v<=c.length:=q1;have f:=fu k (by omega);have R:Wy c (dsk c v k) 0=0:=Zc0 I U t (by omega);refine⟨t.status,j,t.pc,t.lt,t.small I,R,by omega,?_⟩;have j:=jy ay j;unfold Uq at j;have a0:Wy c (itF c v k (St.start ((c.length:Int)+1))) 0=0:=R;rw[a0] at j;exact j.symm
 refine⟨q1,q2,λk J=> ?_,body⟩;cases k with
 |zero=>show([]:List Int).length<=65;simp
 |succ k=>
  obtain⟨_,_,_,_,b5,_,_,b8⟩:=body k (by omega);rw[b8];have:=Z6b c v (dsk c v k) 0;omega
end
section
open Go.RowKit
def Z0l:List Oper->Bool
 | []=>af
 |o::r=>(match o.op with| .defer _=>ae|_=>af)&&Z0l r
theorem Zpj:∀{l:List Oper},Z0l l=af->∀o∈l,∀c,o.op≠ .defer c
 | [],_,o,j=>by simp at j
 |x::r,h,o,j=>by
  simp only[Z0l,az] at h
  rcases bE.1 j with rfl|j
  ·intro c t
   have h:=h.1
   rw[t] at h
   cases h
  ·exact Zpj h.2 o j
section
variable {P:Program} {l n:Nat}
theorem Zuz{row:String} {args:Array Value} {w:World} {R:Value->World->Prop} (h:Rows P row args w R):RowsIn cr n P row args w R:=
 λc cs _=>let⟨v,j,r,s⟩:=h c cs;⟨v,j,r,stepsIn_wide.2 s⟩
theorem Zu0{o:Oper} {a:Act} {w:World} {K:Act->World->Prop} {Q:Exit->Act->World->Prop} (j:∀c,o.op≠ .defer c) (h:o.wp P a w K Q):o.wpIn (cr.inRound l) n P a w K Q:=by
 refine⟨λ_ _=>js,?_⟩;rw[Fence.inRound_round,Oper.semAt_some l _ _ j];unfold Oper.wp at h;generalize (execOp a.eval o).run P w=r at h⊢;cases r with
 |ok t I=>
  cases t with
  |value v=>exact h
  |skip=>exact h
  |defer d=>exact h
  |enter f args=>exact⟨λh=>(by cases h),callsIn_wide.2 h⟩
  |row r args=>exact⟨λh=>(by cases h),Zuz h⟩
  |_=>exact h.elim
 |halt s I=>
  cases s with
  |panic v=>exact h
  |_=>exact h.elim
theorem Zmo{ops:Array Oper} {Q:Exit->Act->World->Prop} (j:¬LetsOut Q):∀{r:List Oper} {a:Act} {w:World},(∀o∈r,∀c,o.op≠ .defer c)->wpList P ops Q r a w->wpListIn (cr.inRound l) n P ops Q r a w
 | [],a,w,_,h=>h
 |o::r,a,w,t,h=>by
  unfold wpList at h
  unfold wpListIn
  split at h
  ·rename_i J
   rw[jh J]
   rcases h with h|⟨_,h⟩
   ·exact Zu0 (t o (by simp)) (iY (λa w U=>Zmo j (λR I=>t R (cx _ I)) U) h)
   ·exact jv h j
  ·rename_i J
   rw[jb J]
   exact⟨λ_ _=>js,Zmo j (λR I=>t R (cx _ I)) h⟩
theorem Zpk{ops:Array Oper} {md:Region.Mode} {Q:Exit->Act->World->Prop} (j:¬LetsOut Q) (t:∀o∈ops.toList,∀c,o.op≠ .defer c):∀{m:Nat} {listed:Array Bool} {a:Act} {w:World},wpAny P md ops Q m listed a w->wpAnyIn (cr.inRound l) n P md ops Q m listed a w
 |0,listed,a,w,h=>h
 |m+1,listed,a,w,h=>by
  refine⟨h.1,λi hi=> ?_⟩
  have h:=h.2 i hi
  unfold wpOp at h
  unfold wpOpIn
  cases I:ops[i]? with
  |none=>
   rw[I] at h
   exact Zpk j t h
  |some o=>
   rw[I] at h
   simp only[] at h⊢
   have R:=t o (by rw[<-Array.getElem?_toList] at I;exact cp I)
   split at h
   ·rename_i J
    rw[jh J]
    rcases h with h|⟨_,h⟩
    ·exact Zu0 R (iY (λa w U=>Zpk j t U) h)
    ·exact jv h j
   ·rename_i J
    rw[jb J]
    exact⟨λ_ _=>js,Zpk j t h⟩
end
section
variable {Y:Thy} {E:Eng Y} {F:Fns Y}
noncomputable def vcR(E:Eng Y) (N:Nat) (call:Nat->List (SV Y)->Hp Y->Nat->(Res Y->Prop)->Prop):Code->Fr Y->Hp Y->Nat->List Nat->Kont Y->Prop
 | .skip,T,h,i,ms,K=>K .normal T h i ms
 | .exit id,T,h,i,ms,K=>K (.exit id) T h i ms
 | .ret,T,h,i,ms,K=>K .ret T h i ms
 | .region _ ops t,T,h,i,ms,K=>(match Z0l ops.toList with
  |true=>(match t with
   |false=>rgn E N call ops.toList ops.toList T h i ms K
   |true=>(match Zco ops.toList (Y4 ops.toList []) ops.toList 0 with|true=>rgnD E N call ops.toList (Y4 ops.toList []) ops.toList 0 T h i ms [] (λe T h i ms=>match e with| .normal=>K .normal T h i ms|_=>False)|false=>False))
  |false=>False)
 | .seq x y,T,h,i,ms,K=>vcR E N call x T h i ms λe T h i ms=>(match e with| .normal=>vcR E N call y T h i ms K|e=>K e T h i ms)
 | .cond x y z,T,h,i,ms,K=>(match ev T x with| .bool b v=>split b v (λv=>match v with|true=>vcR E N call y T h i ms K|false=>vcR E N call z T h i ms K)|_=>False)
 | .block id b,T,h,i,ms,K=>vcR E N call b T h i ms λe T h i ms=>(match e with| .exit j=>(match bf j id with|true=>K .normal T h i ms|false=>K (.exit j) T h i ms)|e=>K e T h i ms)
 |_,_,_,_,_,_=>False
def Z0m(E:Eng Y) (l n N:Nat) (c:Code) (T:Fr Y) (h:Hp Y) (i:Nat) (e:Exit) (J:Fr Y) (R:Hp Y) (t:Nat) (U:List Nat):Prop:=
 ∀(B:Nat) (σ:Pl) (g:GH) (w:World) (a:Act) (Q:Exit->Act->World->Prop),¬LetsOut Q->Inv E B σ h g w->B<=w.heap.size->(∀b,i<=b->b<t->σ b=aD)->FrOk E σ g T a->a.tmps.size=N->
  (∀j I,Aft E B N i t U σ g w a.defers J R j I->Q e j I)->c.wpIn (cr.inRound l) n E.P Q a w
theorem Zeo{id:Nat} {Q:Exit->Act->World->Prop} (h:¬LetsOut Q):¬LetsOut (Exit.inBlock id Q):=λ⟨a,w,j⟩=>h ⟨a,w,j⟩
theorem Zpl{R:Act->World->Prop} {Q:Exit->Act->World->Prop} (h:¬LetsOut Q):¬LetsOut (Exit.then R Q):=λ⟨a,w,j⟩=>h ⟨a,w,j⟩
theorem Z38(hE:EngOk E) {N:Nat} {call:Nat->List (SV Y)->Hp Y->Nat->(Res Y->Prop)->Prop} (b3:∀(o:Oper) T h i k,DomLt h i->step E call o.op T h i k->∃r,k r/\OpTri2 E o T h i r) (l n:Nat):
 ∀(c:Code) (T:Fr Y) (h:Hp Y) (i:Nat) (ms:List Nat) (K:Kont Y),DomLt h i->vcR E N call c T h i ms K->
  ∃e T' h' i' ms',K e T' h' i' ms'/\i<=i'/\Dom h i h' i'/\(∃m,ms'=m++ms/\Yr h i i' m)/\Z0m E l n N c T h i e T' h' i' ms':=by
 intro c
 induction c with
 |skip=>
  intro T h i ms K hD I
  exact⟨.normal,T,h,i,ms,I,aE _,⟨hD,λb hb=> .inl hb⟩,⟨[],rfl,λb hb=>by simp at hb⟩,λB σ g w a Q hO U hB a4 J a0 a3=>wpIn_skip (a3 a w ⟨rfl,a0,σ,g,by rw[dS];exact(Stp.refl i σ g w).weaken (by simp),U,J⟩)⟩
 |exit id=>
  intro T h i ms K hD I
  exact⟨.exit id,T,h,i,ms,I,aE _,⟨hD,λb hb=> .inl hb⟩,⟨[],rfl,λb hb=>by simp at hb⟩,λB σ g w a Q hO U hB a4 J a0 a3=>wpIn_exit (a3 a w ⟨rfl,a0,σ,g,by rw[dS];exact(Stp.refl i σ g w).weaken (by simp),U,J⟩)⟩
 |ret=>
  intro T h i ms K hD I
  exact⟨.ret,T,h,i,ms,I,aE _,⟨hD,λb hb=> .inl hb⟩,⟨[],rfl,λb hb=>by simp at hb⟩,λB σ g w a Q hO U hB a4 J a0 a3=>wpIn_ret (a3 a w ⟨rfl,a0,σ,g,by rw[dS];exact(Stp.refl i σ g w).weaken (by simp),U,J⟩)⟩
 |region id ops b5=>
  intro T h i ms K hD I
  unfold vcR at I
  split at I
  case h_2=>exact I.elim
  rename_i a6
  have a6:=Zpj a6
  cases b5 with
  |false=>
   obtain⟨e,T',h',i',ms',R,hi,a5,hm,t⟩:=Zdk hE b3 ops.toList ops.toList T h i ms _ hD I
   refine⟨e,T',h',i',ms',R,hi,a5,hm,λB σ g w a Q hO U hB a4 J a0 a3=>wpIn_region_list ?_⟩
   have:=t B σ g w a Q U hB a4 J a0 a3
   exact Zmo hO a6 (by simpa using this)
  |true=>
   simp only[] at I
   split at I
   case h_2=>exact I.elim
   rename_i c3
   rcases Zj4 b3 ops.toList (Y4 ops.toList []) ops.toList 0 T T h i ms [] _ T (λ_ h=>h) (λ_ _=>rfl) (.refl T) hD I with⟨ds,T2,c0,hp,R,c1⟩|⟨j0,ds,rp,p,_,c7,hG,_,hR,hq,R⟩
   case inr=>exact R.elim
   obtain⟨a5,c2⟩:=Zmq hD hp
   refine⟨.normal,_,_,_,_,R,(Zwx hp).1,a5,c2 ms,λB σ g w a Q hO U hB a4 J a0 a3=>wpIn_region_any hE.mix ?_⟩
   have:=Zpm c3 hp c1 B σ g w a Q U hB a4 J a0 λa' w' hA=>a3 a' w' (hA.frB c0)
   exact Zpk hO a6 (by simpa using this)
 |seq x y c4 a9=>
  intro T h i ms K hD I
  obtain⟨e,T1,h1,i1,ms1,R,hi,a5,⟨m,rfl,hM⟩,t1⟩:=c4 T h i ms _ hD I
  rcases Zju R with⟨rfl,R⟩|⟨he,R⟩
  ·obtain⟨e2,T2,h2,i2,c8,b8,b0,b7,⟨m',rfl,b9⟩,t2⟩:=a9 T1 h1 i1 _ _ a5.1 R
   refine⟨e2,T2,h2,i2,_,b8,by omega,a5.trans hi b7,⟨m'++m,by simp,Zas a5 hi b0 hM b9⟩,λB σ g w a Q hO U hB a4 J a0 a3=>wpIn_seq ?_⟩
   refine t1 B σ g w a _ (Zpl hO) U hB (λb h1 h2=>a4 b h1 (by omega)) J a0 λa1 w1 hA=> ?_
   show y.wpIn _ n E.P Q a1 w1
   obtain⟨c6,g1,k1,k2,k3,k4,k5⟩:=hA.trans hi b0 hB a4 ⟨m',rfl⟩
   exact t2 B c6 g1 w1 a1 Q hO k1 k2 k3 k4 hA.sz λa2 w2 b6=>a3 a2 w2 (k5 _ _ _ _ b6)
  ·refine⟨e,T1,h1,i1,_,R,hi,a5,⟨m,rfl,hM⟩,λB σ g w a Q hO U hB a4 J a0 a3=>wpIn_seq ?_⟩
   refine t1 B σ g w a _ (Zpl hO) U hB a4 J a0 λa1 w1 hA=> ?_
   have:=a3 a1 w1 hA
   cases e with
   |normal=>exact jv rfl he
   |_=>exact this
 |cond x y z a9 c5=>
  intro T h i ms K hD I
  unfold vcR at I
  split at I
  case h_2=>exact I.elim
  rename_i b v hx
  have I:=Yk I
  have b4:∀σ g a,FrOk E σ g T a->a.eval x= .bool v:=by
   intro σ g a J
   have:=J.ev x
   rw[hx] at this
   generalize a.eval x=u at this
   cases this;rfl
  cases v with
  |true=>
   obtain⟨e,T1,h1,i1,ms1,R,hi,a5,hm,t1⟩:=a9 T h i ms _ hD I
   exact⟨e,T1,h1,i1,ms1,R,hi,a5,hm,λB σ g w a Q hO U hB a4 J a0 a3=>wpIn_cond_true (b4 σ g a J) (t1 B σ g w a Q hO U hB a4 J a0 a3)⟩
  |false=>
   obtain⟨e,T1,h1,i1,ms1,R,hi,a5,hm,t1⟩:=c5 T h i ms _ hD I
   exact⟨e,T1,h1,i1,ms1,R,hi,a5,hm,λB σ g w a Q hO U hB a4 J a0 a3=>wpIn_cond_false (b4 σ g a J) (t1 B σ g w a Q hO U hB a4 J a0 a3)⟩
 |block id b ih=>
  intro T h i ms K hD I
  obtain⟨e,T1,h1,i1,ms1,R,hi,a5,hm,t1⟩:=ih T h i ms _ hD I
  by_cases a8:e= .exit id
  ·subst a8
   have a7:K .normal T1 h1 i1 ms1:=by
    simp only at R
    have:bf id id=true:=by simp
    rw[this] at R;exact R
   refine⟨.normal,T1,h1,i1,ms1,a7,hi,a5,hm,λB σ g w a Q hO U hB a4 J a0 a3=>wpIn_block (t1 B σ g w a _ (Zeo hO) U hB a4 J a0 λa1 w1 hA=> ?_)⟩
   show(if id=id then Q .normal a1 w1 else _)
   rw[jh rfl];exact a3 a1 w1 hA
  ·have a7:K e T1 h1 i1 ms1:=by
    cases e with
    |exit j=>
     simp only at R
     have:bf j id=false:=by rw[<-Bool.not_eq_true,Nat.beq_eq];rintro rfl;exact a8 rfl
     rw[this] at R;exact R
    |_=>exact R
   refine⟨e,T1,h1,i1,ms1,a7,hi,a5,hm,λB σ g w a Q hO U hB a4 J a0 a3=>wpIn_block (t1 B σ g w a _ (Zeo hO) U hB a4 J a0 λa1 w1 hA=> ?_)⟩
   have:=a3 a1 w1 hA
   cases e with
   |exit j=>
    show(if j=id then _ else Q (.exit j) a1 w1)
    rw[jb (by rintro rfl;exact a8 rfl)];exact this
   |_=>exact this
 |_=>intro T h i ms K hD I;exact I.elim
end
end
section
open Go.RowKit
section
variable {Y:Thy} {E:Eng Y} {F:Fns Y}
def Z9i(σ:Pl) (h:Hp Y) (g:GH) (r:Nat):Prop:=(∃o v,g.cell r o=ah v)\/(∃j,g.obj r=ah j)\/∃b z,h b≠aD/\σ b=ah (r,z)
theorem Inv.same{B:Nat} {σ:Pl} {h:Hp Y} {g:GH} {w w':World} (j:Inv E B σ h g w) (hs:w.heap.size<=w'.heap.size) (I:∀r,Z9i σ h g r->w'.heap[r]? =w.heap[r]?):Inv E B σ h g w':=by
 refine⟨λr o v t=> ?_,λr J t=> ?_,λb x hx=> ?_,j.inj,λb r z U=>⟨(j.base b r z U).1,cC (j.base b r z U).2 hs⟩,j.fz,j.fm,j.glob⟩
 ·exact(World.cell?_of_block (a:=⟨r,o,aD⟩) (I r (.inl ⟨o,v,t⟩))).trans (j.gc r o v t)
 ·obtain⟨c,hc⟩:=j.gm r J t
  exact⟨c,(I r (.inr (.inl ⟨J,t⟩))).trans hc⟩
 ·obtain⟨r,z,R,h2⟩:=j.blk b x hx
  exact⟨r,z,R,h2.mono (.refl _) (.refl _) (I r (.inr (.inr ⟨b,z,(by rw[hx];exactλe=>(by cases e)),R⟩)))⟩
theorem Zjw{B:Nat} {σ:Pl} {h:Hp Y} {g:GH} {w:World} (a0:Inv E B σ h g w) {l:Nat} {o:Obj} (U:w.heap[l]? =ah o) (ho:o.isCells=ae) (hm:∀R c,o≠ .map R c):¬Z9i σ h g l:=by
 rintro(⟨j,v,hv⟩|⟨R,hv⟩|⟨b,z,hb,hs⟩)
 ·obtain⟨o',t,I⟩:=cells_of_cell (a0.gc l j v hv)
  rw[U] at t;cases t;rw[ho] at I;cases I
 ·obtain⟨c,hc⟩:=a0.gm l R hv
  rw[U] at hc;cases hc;exact hm _ _ rfl
 ·obtain⟨x,hx⟩:=Option.ne_none_iff_exists'.1 hb
  obtain⟨r,z',t,I⟩:=a0.blk b x hx;rw[hs] at t;cases t;cases x with
  |map R=>
   obtain⟨ents,c,J,_⟩:=I;rw[U] at J;cases J;exact hm _ _ rfl
  |_=>
   obtain⟨arr,e,J,_⟩:=I;rw[U] at J;cases J;cases ho
theorem Zgl{B:Nat} {σ:Pl} {h:Hp Y} {g:GH} {w:World} (t:Inv E B σ h g w) (o:Obj):Inv E B σ h g (w.alloc o):=by
 refine t.same (by simp) λr a0=> ?_;have U:r<w.heap.size:=by
  rcases a0 with⟨j,v,I⟩|⟨J,I⟩|⟨b,z,hb,hs⟩
  ·exact World.block_lt_of_cell? _ _ (t.gc r j v I)
  ·obtain⟨c,R⟩:=t.gm r J I
   exact(cq.1 R).1
  ·exact(t.base b r z hs).2
 exact Below.heap_alloc w o r U
theorem Xz{B:Nat} {σ:Pl} {h:Hp Y} {g:GH} {w:World} (j:Inv E B σ h g w) {l:Nat} {o:Obj} (I:w.heap[l]? =ah o) (R:o.isCells=ae) (J:∀t c,o≠ .map t c) (o':Obj):Inv E B σ h g (w.putObj l o'):=
 j.same (by simp) λr U=>dm λe=>Zjw j I R J (e▸U)
noncomputable def Zuh(E:Eng Y) (N:Nat) (call:Nat->List (SV Y)->Hp Y->Nat->(Res Y->Prop)->Prop) (assign body:Code) (T:Fr Y) (h:Hp Y) (i M:Nat) (md:List Nat) (ih:Nat) (K:Exit->Hp Y->Prop):Prop:=
 vcR E N call assign T h ih [] λe j t J R=>(match e with
  | .normal=>vcR E N call body j t J R λe T2 I i2 U=>(match cn i2 M&&Xx i md U with|true=>K e I|false=>False)
  |_=>False)
def setT:List Tmp->List (SV Y)->Fr Y->Fr Y
 |p::ps,v::vs,T=>setT ps vs (upd T p v)
 |_,_,T=>T
def setV:List Tmp->List Value->Array Value->Array Value
 |p::ps,v::vs,t=>setV ps vs (t.setIfInBounds p v)
 |_,_,t=>t
theorem Z47:∀(ps:List Tmp) (vs:List Value) (t:Array Value),(ps.toArray.zip vs.toArray).foldl (λt (p,v)=>t.setIfInBounds p v) t=setV ps vs t:=by
 intro ps vs t;rw[<-Array.foldl_toList,Array.toList_zip];show List.foldl _ t (List.zip ps vs)=_
 induction ps generalizing vs t with
 |nil=>rfl
 |cons p ps ih=>
  cases vs with
  |nil=>rfl
  |cons v vs=>
   rw[List.zip_cons_cons,kc];exact ih vs _
theorem Zjx:∀(ps:List Tmp) (vs:List Value) (t:Array Value),(setV ps vs t).size=t.size
 | [],_,t=>by unfold setV;rfl
 |p::ps,[],t=>rfl
 |p::ps,v::vs,t=>by unfold setV;rw[Zjx ps vs];simp
theorem Zui{σ:Pl} {g:GH} {N:Nat}:∀{ps:List Tmp} {J:List (SV Y)} {vs:List Value} {T:Fr Y} {t:Array Value},(∀p∈ps,p<N)->t.size=N->DenL E σ g J vs->FrOk E σ g T {tmps:=t,defers:= []}->FrOk E σ g (setT ps J T) {tmps:=setV ps vs t,defers:= []}
 | [],J,vs,T,t,_,_,_,h=>by
  have a0:setT [] J T=T:=by unfold setT;rfl
  have e2:setV [] vs t=t:=by unfold setV;rfl
  rw[a0,e2];exact h
 |p::ps,[],[],T,t,_,_,_,h=>h
 |p::ps,[],v::vs,T,t,_,_,I,h=>by have:=I.1;simp at this
 |p::ps,s::ss,[],T,t,_,_,I,h=>by have:=I.1;simp at this
 |p::ps,s::ss,v::vs,T,t,U,R,I,h=>by
  have a1:(t.setIfInBounds p v).size=N:=by simpa using R
  have hs:Den E σ g s v:=I.2 0 s v rfl rfl
  refine Zui (ps:=ps) (λq hq=>U q (cx _ hq)) a1 ⟨by have:=I.1;simpa using this,λj sv u h1 h2=>I.2 (j+1) sv u h1 h2⟩ ?_
  have:=h.put (d:=p) (sv:=s) (u:=v) (by show p<t.size;rw[R];exact U p (by simp)) hs
  exact this
def rdy(fn:FuncId) (tmps:Array Value) (ps:List Tmp) (assign body:Code) (D:Nat):Loop:={state:= .ready,pending:=none,fn:=fn,tmps:=tmps,params:=ps.toArray,assign:=assign,body:=body,defers:=D}
theorem Zhq{P:Program} {l:Nat} {R:Ending->World->Prop}:¬LetsOut (roundPost P l R):=λ⟨_,_,h⟩=>h
theorem StpL.turn{i M:Nat} {md:List Nat} {σ σ':Pl} {g I:GH} {w w1 w':World} {l:Nat} {o o1:Obj} (h:StpL i M md σ g w1 σ' I w') (J:w.heap[l]? =ah o) (he:w1=w.putObj l o1) (a1:¬Own i M md σ l):StpL i M md σ g w σ' I (w'.putObj l o):=by
 subst he;have a0:l<w.heap.size:=(cq.1 J).1;have j:(w.putObj l o1).heap.size=w.heap.size:=by simp
 have U:=h.size;rw[j] at U;refine⟨h.out,h.gle,λr o v t=>by have:=h.gcnew r o v t;rwa[j] at this,λr es t=>by have:=h.gmnew r es t;rwa[j] at this,λr R ho=> ?_,by simpa using U,h.os,h.tape,h.output,λr R=>by have:=h.own r R;rwa[j] at this⟩;by_cases c:r=l
 ·subst c
  rw[ey (by omega),J]
 ·rw[dm c,h.heap r (by rwa[j]) ho,dm c]
theorem StpL.mono{i M M':Nat} {md:List Nat} {σ σ':Pl} {g I:GH} {w w':World} (h:StpL i M md σ g w σ' I w') (hM:M<=M'):StpL i M' md σ g w σ' I w':=by
 have up:∀{s:Pl} {r:Nat},Own i M md s r->Own i M' md s r:=λ⟨b,z,t,j⟩=>⟨b,z,t.imp id λk=>⟨k.1,by omega⟩,j⟩;refine⟨λb t=>h.out b (by omega),h.gle,λr o v U=>(h.gcnew r o v U).imp id (Or.imp id up),h.gmnew,λr R J=>h.heap r R λk=>J (up k),h.size,h.os,h.tape,h.output,?_⟩;rintro r ⟨b,z,t,j⟩;by_cases c:b<i\/M<=b
 ·rw[h.out b c] at j
  exact .inr ⟨b,z,t,j⟩
 ·exact(h.own r ⟨b,z,.inr ⟨by omega,by omega⟩,j⟩).imp id up
def Zz9(E:Eng Y) (i M:Nat) (md:List Nat) (B:Nat) (σ:Pl) (g:GH) (W:World) (l:Nat) (r:Loop) (J:Hp Y):Exit->Ending->World->Prop
 | .normal,en,j=>en= .returned (.bool af)/\∃σ' t,StpL i M md σ g W σ' t j/\Inv E B σ' J t j/\Pl.le σ σ'/\(∀b p,σ' b=ah p->σ b=ah p\/(i<=b/\b<M))/\j.heap[l]? =ah (.loop r)
 | .ret,en,j=>en= .returned (.bool ae)/\∃σ' t I,StpL i M md σ g W σ' t I/\Inv E B σ' J t I/\Pl.le σ σ'/\(∀b p,σ' b=ah p->σ b=ah p\/(i<=b/\b<M))/\I.heap[l]? =ah (.loop r)/\j=I.putObj l (.loop {r with state:= .done,pending:=some .ret})
 |_,_,_=>False
theorem Z0a(hE:EngOk E) {N:Nat} {call:Nat->List (SV Y)->Hp Y->Nat->(Res Y->Prop)->Prop} (c3:∀(o:Oper) T h i k,DomLt h i->step E call o.op T h i k->∃r,k r/\OpTri2 E o T h i r)
 {i M ih:Nat} {md:List Nat} (hi:i<=ih) (hM:ih<=M) {assign body:Code} {ps:List Tmp} (d9:∀p∈ps,p<N) {T:Fr Y} {h:Hp Y} {el:List (SV Y)} (b3:DomLt h ih) {K:Exit->Hp Y->Prop} (d0:∀e I,K e I->e= .normal\/e= .ret)
 (hv:Zuh E N call assign body (setT ps el T) h i M md ih K) (l n:Nat):
 ∃e I,K e I/\DomLt I M/\∀(B:Nat) (σ:Pl) (g:GH) (W:World) (a:Act) (D:Nat) (fn:FuncId) (vals:Array Value),Inv E B σ h g W->B<=W.heap.size->(∀b,ih<=b->b<M->σ b=aD)->FrOk E σ g T a->a.tmps.size=N->DenL E σ g el vals.toList->vals.size=ps.length->
  W.heap[l]? =ah (.loop (rdy fn a.tmps ps assign body D))->¬Own i M md σ l->
  YieldAt cr n E.P l vals W (Zz9 E i M md B σ g W l (rdy fn a.tmps ps assign body D) I e):=by
 obtain⟨e1,T1,h1,i1,c4,b0,e5,a8,⟨m1,b8,d3⟩,t1⟩:=Z38 hE c3 l n assign _ h ih [] _ b3 hv
 rw[dW] at b8
 subst b8
 cases e1 with
 |normal=>
  obtain⟨e2,T2,I,i2,e7,a3,e6,c5,⟨m2,rfl,d4⟩,t2⟩:=Z38 hE c3 l n body T1 h1 i1 c4 _ a8.1 b0
  split at a3
  case h_2=>exact a3.elim
  rename_i hc
  rw[az,bx] at hc
  obtain⟨d6,d8⟩:=hc
  have b9:∀b∈m2++c4,b∈md\/(i<=b/\b<M):=by
   intro b j
   rcases Wu d8 j with k|k
   ·refine .inr ⟨k,?_⟩
    rcases dJ.1 j with j|j
    ·rcases d4 b j with R|R
     ·have:=a8.1 b R;omega
     ·omega
    ·rcases d3 b j with R|R
     ·have:=b3 b R;omega
     ·omega
   ·exact .inl k
  refine⟨e2,I,a3,λb j=>cC (c5.1 b j) d6,λB σ g W a D fn vals hI hB b4 hF hN hd e0 hl c1=> ?_⟩
  obtain⟨r,J⟩:∃r,r=rdy fn a.tmps ps assign body D:=⟨_,rfl⟩
  rw[<-J] at hl⊢
  have d7:l<W.heap.size:=(cq.1 hl).1
  have hy:=run_yield (P:=E.P) (args:=vals) hl (by rw[J];simp[rdy,e0])
  rw[J] at hy
  refine⟨fn,_,assign,body,hy,roundIn_of_wpIn js ?_⟩
  have ht:((rdy fn a.tmps ps assign body D).params.zip vals).foldl (λe3 (t,a)=>e3.setIfInBounds t a) (rdy fn a.tmps ps assign body D).tmps=setV ps vals.toList a.tmps:=by
   have:=Z47 ps vals.toList a.tmps
   rw[Array.toArray_toList] at this
   exact this
  rw[ht]
  refine t1 B σ g W _ _ (λ⟨_,_,h⟩=>h) hI hB (λb q1 q2=>b4 b q1 (by omega)) (Zui d9 hN hd hF) (by rw[Zjx];exact hN) ?_
  rintro a1 w1 ⟨d1,z1,U,g1,a4,c7,c6⟩
  show∃e8,_/\_
  have a0:StpL i M md σ g W U g1 w1:=StpL.of a4 hi (by omega) λb j=>b9 b (List.mem_append_right _ j)
  have a5:w1.heap[l]? =ah (.loop r):=(a0.heap l d7 c1).trans hl
  have c2:¬Own i M md U l:=λho=>by
   rcases a0.own l ho with k|k
   ·omega
   ·exact c1 k
  refine⟨_,run_beginRound a5 (by rw[J];rfl),?_⟩
  have c8:=Xz c7 a5 rfl (λes c e=>by cases e) (.loop {r with state:= .busy})
  have d5:∀b,i1<=b->b<i2->U b=none:=λb q1 q2=>X3 a4 (i2:=i2) (λb' p1 p2=>b4 b' p1 (by omega)) b (by omega) q2
  refine t2 B U g1 _ a1 _ Zhq c8 (by simp;exact bY hB a0.size) d5 c6 z1 ?_
  rintro a2 w3 ⟨d2,z2,σ2,g2,a7,c9,e4⟩
  have L2:StpL i M md U g1 (w1.putObj l (.loop {r with state:= .busy})) σ2 g2 w3:=StpL.of a7 (by omega) (by omega) b9
  have b6:l<w1.heap.size:=(cq.1 a5).1
  have a6:w3.heap[l]? =ah (.loop {r with state:= .busy}):=(L2.heap l (by simpa using b6) c2).trans (ey b6)
  have b7:l<w3.heap.size:=(cq.1 a6).1
  have L3:StpL i M md σ g W σ2 g2 (w3.putObj l (.loop r)):=a0.trans (L2.turn a5 rfl c2)
  have a9:=Xz c9 a6 rfl (λes c e=>by cases e) (.loop r)
  have b5:Pl.le σ σ2:=a4.sig.trans a7.sig
  have c0:∀b p,σ2 b=ah p->σ b=ah p\/(i<=b/\b<M):=λb p j=>by
   rcases a7.snew b p j with k|k
   ·rcases a4.snew b p k with k|k
    ·exact .inl k
    ·exact .inr ⟨by omega,by omega⟩
   ·exact .inr ⟨by omega,by omega⟩
  rcases d0 _ _ a3 with rfl|rfl
  ·refine⟨_,_,run_endRound aD a6,rfl,σ2,g2,?_⟩
   have er:({({r with state:= .busy}:Loop) with state:=if(aD:Option Code).isNone=af then .ready else .done,pending:=none}:Loop)=r:=by rw[J];rfl
   rw[er]
   exact⟨L3,a9,b5,c0,ey b7⟩
  ·refine⟨_,_,run_endRound (ah .ret) a6,rfl,σ2,g2,w3.putObj l (.loop r),L3,a9,b5,c0,ey b7,?_⟩
   show w3.putObj l _=(w3.putObj l _).putObj l _
   unfold World.putObj
   simp
 |_=>exact b0.elim
end
end
section
open Go.RowKit
section
variable {P:Program} {n:Nat}
theorem Zuo{o:Oper} {a:Act} {w:World} {K:Act->World->Prop} {Q:Exit->Act->World->Prop} (h:o.wp P a w K Q):o.wpIn cr n P a w K Q:=by
 refine⟨λ_ _=>js,?_⟩;rw[show cr.round=aD from rfl,kf];unfold Oper.wp at h;generalize (execOp a.eval o).run P w=r at h⊢;cases r with
 |ok j t=>
  cases j with
  |value v=>exact h
  |skip=>exact h
  |defer d=>exact h
  |enter f args=>exact⟨λh=>(by cases h),callsIn_wide.2 h⟩
  |row r args=>exact⟨λh=>(by cases h),Zuz h⟩
  |_=>exact h.elim
 |halt s t=>
  cases s with
  |panic v=>exact h
  |_=>exact h.elim
theorem Um{ops:Array Oper} {Q:Exit->Act->World->Prop} (j:¬LetsOut Q):∀{r:List Oper} {a:Act} {w:World},wpList P ops Q r a w->wpListIn cr n P ops Q r a w
 | [],a,w,h=>h
 |o::r,a,w,h=>by
  unfold wpList at h
  unfold wpListIn
  split at h
  ·rename_i t
   rw[jh t]
   rcases h with h|⟨_,h⟩
   ·exact Zuo (iY (λa w I=>Um j I) h)
   ·exact jv h j
  ·rename_i t
   rw[jb t]
   exact⟨λ_ _=>js,Um j h⟩
theorem Zmk{F:Fence} {o:Oper} {a:Act} {w:World} {K R:Act->World->Prop} {Q:Exit->Act->World->Prop} (h:o.wpIn F n P a w K (Exit.then R Q)):o.wpIn F n P a w K Q:=by
 refine⟨h.1,?_⟩;have h:=h.2;generalize (o.semAt F.round a.eval).run P w=r at h⊢;cases r with
 |ok j t=>cases j<;>exact h
 |halt s t=>cases s<;>exact h
theorem V1{F:Fence} {ops:Array Oper} {Q:Exit->Act->World->Prop} {t:List Oper}:∀{I:List Oper} {a:Act} {w:World},wpListIn F n P ops (Exit.then (wpListIn F n P ops Q t) Q) I a w->wpListIn F n P ops Q (I++t) a w
 | [],a,w,h=>h
 |o::r,a,w,h=>by
  unfold wpListIn at h
  show wpListIn F n P ops Q (o::(r++t)) a w
  unfold wpListIn
  split at h
  ·rename_i j
   rw[jh j]
   exact Zmk (Oper.wpIn_mono (λa w J=>V1 J) h)
  ·rename_i j
   rw[jb j]
   exact⟨h.1,V1 h.2⟩
theorem Zup{ops:Array Oper} {t:Array Value} {o:Oper} {j d:Nat} {b:Bool} (J:o.guard=ah (j,b)) (I:(ops[j]?).bind (·.dst)=ah d) (R:t[d]? =ah (.bool b)):Region.wanted o (yielded ops t)=true:=by
 unfold Region.wanted yielded;rw[J];simp[I,R]
theorem Z0g{o:Oper} {a:Act} {W:World} {l:Nat} {K:Act->World->Prop} {Q:Exit->Act->World->Prop} {f x y:Operand} {ts:Array TypeId} (a1:o.op= .call {callee:= .value f,args:= #[x,y],argTypes:=ts}) (I:a.eval f= .func (.yield l) #[] #[])
 {R:Ending->World->Prop} (j:YieldAt cr (n-1) P l #[a.eval x,a.eval y] W R) (U:∀e t,R e t->∃v,e= .returned v/\K (a.put o.dst v) t):o.wpIn cr n P a W K Q:=by
 obtain⟨fn,J,assign,body,j,a0⟩:=j
 refine⟨λ_ _=>js,?_⟩
 rw[show cr.round=aD from rfl,kf]
 have key:∀ρ:Operand->Value,ρ f= .func (.yield l) #[] #[]->(Instr.yield l #[ρ x,ρ y]).run P W= .ok (.round l fn J assign body) W->(execOp ρ o).run P W= .ok (.round l fn J assign body) W:=by
  intro ρ I j
  unfold execOp
  rw[a1]
  simp[resolve,I,invoke,go_sem,j]
 have this:=key a.eval I j
 rw[this,Oper.uponIn_round]
 refine⟨λh=>(by cases h),a0.mono ?_⟩
 intro e t h
 obtain⟨v,rfl,hk⟩:=U e t h
 exact hk
end
end
section
open Go Go.RowKit
noncomputable def Yci:Sum thy:=Yh E2 gthV 10 (.cons (Zbv E2) .nil) (λ_=>True) (λx=>verF x.1) λy=> .tup [.int ae .i64 y.1,.int ae .i64 y.2]
noncomputable def Ycj:Sum thy:=Yh E2 gthV 10 (.cons (dInt (E:=E2) .i64) .nil) (λ_=>True) (λx=>Zb8 x.1) λy=> .tup [stV y.1,.int ae .i64 y.2]
noncomputable def Yck:Sum thy:=Yh E2 gthV 10 (.cons dSt2 .nil) (λx=>x.1.stack.length<=1000000) (λx=>Zw x.1) λy=> .tup [.int ae .i64 y.1,.int ae .i64 y.2.1,.int ae .i64 y.2.2]
noncomputable def FD:Fns thy:=addS (addS (addS (addS (addS F0 20 Yci) 43 Ycj) 44 Z4m) 23 Yck) 22 Sdgs
theorem Z9d:FnsOk E2 FD:=Zc (Zc (Zc (Zc (Zc Z7 (Zl Zd (Ze rfl) λx _=>up2 (Zev x.1))) (Zl Zd (Ze rfl) λx _=>up2 (Ztk x.1))) Zwu) (Zl Zd (Ze rfl) λx h=>up2 (Zoo x.1 h))) Z8w
def sqA:Code->Code
 | .seq a _=>a
 |c=>c
def sqB:Code->Code
 | .seq _ b=>b
 |c=>c
def bkA:Code->Code
 | .block _ b=>b
 |c=>c
def lpA:Code->Code
 | .loop b=>b
 |c=>c
def rfA:Code->Code
 | .rangeFunc _ _ a _=>a
 |c=>c
def rfB:Code->Code
 | .rangeFunc _ _ _ b=>b
 |c=>c
noncomputable def U7(f:Func):Code:=f.body.getD .skip
noncomputable def rn0:Code:=sqA (U7 Tryz.f6)
noncomputable def rn1:Code:=sqA (sqB (U7 Tryz.f6))
noncomputable def rn4:Code:=sqA (sqB (sqB (U7 Tryz.f6)))
noncomputable def rn5:Code:=sqA (sqA (sqB (sqB (sqB (U7 Tryz.f6)))))
noncomputable def rnF:Code:=bkA (sqB (sqA (sqB (sqB (sqB (U7 Tryz.f6))))))
noncomputable def rn9:Code:=sqA (sqB (sqB (sqB (sqB (U7 Tryz.f6)))))
noncomputable def it0:Code:=sqA (U7 Tryz.f42)
noncomputable def it1:Code:=sqA (sqB (U7 Tryz.f42))
noncomputable def itLo:Code:=lpA (bkA (sqB (sqB (U7 Tryz.f42))))
noncomputable def it2:Code:=sqA (sqA itLo)
noncomputable def it4:Code:=sqA (sqB itLo)
noncomputable def it3:Code:=sqB (sqB itLo)
theorem Ycl:U7 Tryz.f6= .seq rn0 (.seq rn1 (.seq rn4 (.seq (.seq rn5 (.block 0 (.rangeFunc (.tmp 25) #[26,27] (rfA rnF) (rfB rnF)))) (.seq rn9 .ret)))):=by kernel_rfl
theorem Ycm:U7 Tryz.f42= .seq it0 (.seq it1 (.block 0 (.loop (.seq (.seq it2 (.cond (.tmp 26) .skip (.exit 0))) (.seq it4 it3))))):=by kernel_rfl
noncomputable def vcs(F:Fns thy) (n f N:Nat):List Code->Fr thy->Hp thy->Nat->List Nat->(Fr thy->Hp thy->Nat->List Nat->Prop)->Prop
 | [],T,h,i,ms,K=>K T h i ms
 |c::r,T,h,i,ms,K=>vc E2 F n f N c T h i ms λe T h i ms=>(match e with| .normal=>vcs F n f N r T h i ms K|_=>False)
def Z44(v:Env):List (SV thy):= [.int ae .i64 v.has,.int ae .i64 v.v0,.int ae .i64 v.v1,.int ae .i64 v.v2,.int ae .i64 v.v3,.int ae .i64 v.v4,.int ae .i64 v.v5,.int ae .i64 v.v6,.int ae .i64 v.v7,.int ae .i64 v.v8,.int ae .i64 v.v9,.int ae .i64 v.v10,.int ae .i64 v.v11,.int ae .i64 v.v12,.int ae .i64 v.v13,.int ae .i64 v.v14,.int ae .i64 v.v15]
def cB(c:List Ins):Blk thy:= .raw [.psl .ins c ae] 0 aD
def envB(v:Env):Blk thy:= .raw (Z44 v) 0 aD
def sB(s:St):Blk thy:= .raw [.int ae .i64 s.pc,.int ae .i64 s.fuel,.int ae .i64 s.status,.int ae .i64 s.clause,.psl .ints s.stack ae] 0 aD
def zI:SV thy:= .int af .i64 0
def zB:Blk thy:= .raw [.val (.slice aD 0 0),zI,zI,zI,zI,zI,zI,zI,zI,zI,zI,zI,zI,zI,zI,zI,zI,zI,zI,zI,.val (.slice aD 0 0)] 0 aD
def dB(c:List Ins) (v:Env) (a e:Int) (j:SV thy):Blk thy:= .raw (.psl .ins c ae:: .int ae .i64 v.has:: .int ae .i64 v.v0:: .int ae .i64 v.v1:: .int ae .i64 v.v2:: .int ae .i64 v.v3:: .int ae .i64 v.v4:: .int ae .i64 v.v5:: .int ae .i64 v.v6:: .int ae .i64 v.v7:: .int ae .i64 v.v8:: .int ae .i64 v.v9:: .int ae .i64 v.v10:: .int ae .i64 v.v11:: .int ae .i64 v.v12:: .int ae .i64 v.v13:: .int ae .i64 v.v14:: .int ae .i64 v.v15:: .int ae .i64 a:: .int ae .i64 e:: [j]) 0 aD
def blE(c:List Ins) (v:Env):List (Nat×Blk thy):= [(0,cB c),(1,envB v),(2,zB),(3,dB c v 0 0 (.val (.slice aD 0 0))),(4,cB c),(5,envB v)]
def blH(c:List Ins) (v:Env) (b:Bool) (s:St) (a e:Int) (L:List (List Int)):List (Nat×Blk thy):=
 match b with
 |false=> [(0,cB c),(1,envB v),(2,zB),(3,dB c v a e (.val (.slice aD 0 0))),(4,cB c),(5,envB v),(6,sB s)]
 |true=> [(0,cB c),(1,envB v),(2,zB),(3,dB c v a e (.sl 7 0 L.length 32 aD)),(4,cB c),(5,envB v),(6,sB s),(7,.rows .digs L 0)]
def frO:List (Nat×SV thy):= [(2,.ptr 0 0),(3,.ptr 1 0),(4,.ptr 2 0),(8,.ptr 3 0)]
def frI(l:Nat) (k:Nat):List (Nat×SV thy):= [(0,.val (.func (.yield l) #[] #[])),(1,.ptr 4 0),(2,.ptr 5 0),(4,.ptr 6 0),(5,.int af .i64 0),(6,.int ae .i64 k)]
end
section
open Go.RowKit
section
variable {Y:Thy} {E:Eng Y}
abbrev Zve(Y:Thy):=Nat->List (SV Y)->Hp Y->Nat->(Res Y->Prop)->Prop
abbrev Zes(Y:Thy):=Fr Y->Hp Y->Nat->List Nat->(Fr Y->Hp Y->Nat->List Nat->Prop)->Prop
def Zet(E:Eng Y) (N:Nat) (x y:Code) (VT:Zes Y):Prop:=∀(T:Fr Y) (h:Hp Y) (i:Nat) (ms:List Nat) (K:Fr Y->Hp Y->Nat->List Nat->Prop),DomLt h i->VT T h i ms K->
 ∃J t j I,K J t j I/\i<=j/\Dom h i t j/\(∃m,I=m++ms/\Yr h i j m)/\
  ∀(B:Nat) (σ:Pl) (g:GH) (w:World) (a:Act) (Q:Act->World->Prop),Inv E B σ h g w->B<=w.heap.size->(∀b,i<=b->b<j->σ b=aD)->FrOk E σ g T a->a.tmps.size=N->
   (∀R U,Aft E B N i j I σ g w a.defers J t R U->Q R U)->x.wp E.P (Exit.then (λa w=>y.wp E.P (Exit.then (λa w=>Q a w) λ_ _ _=>False) a w) λ_ _ _=>False) a w
noncomputable def itC(E:Eng Y) (cD:Zve Y) (VT:Zes Y) (o2p:List Oper) (o2y:Oper) (o2s:List Oper) (fI:List (Nat×SV Y)) (NO:Nat) (assign body:Code) (ps:List Tmp) (frOut:List (Nat×SV Y)) (md:List Nat) (l:Nat) (h:Hp Y) (KN:Fr Y->Hp Y->Prop) (KE KR:Hp Y->Prop):Prop:=
 rgn E 36 cD (o2p++o2y::o2s) o2p (frOf fI) h 8 [] λe j h1 i1 a0=>(match e,j 16,cn i1 40&&Xx 7 md a0 with
  | .normal,.bool _ af,af=>(match j 17 with| .val u=>u= .func (.yield l) #[] #[]|_=>False)/\Zuh E NO cD assign body (setT ps [j 18,j 19] (frOf frOut)) h1 7 40 md i1 λe2 U=>(match e2 with
   | .normal=>rgn E 36 cD (o2p++o2y::o2s) o2s (upd j 20 (.bool af af)) U 40 [] λJ t I i3 R=>(match J,Xx 7 md R&&cn i3 60 with
    | .normal,af=>(match t 26 with
     | .bool bb v=>split bb v λv=>(match v with
      |true=>VT t I i3 [] λT4 h4 i4 a1=>(match cn i4 60&&Xx 7 md a1 with|true=>KN T4 h4|false=>False)
      |false=>KE I)
     |_=>False)
    |_,_=>False)
   | .ret=>rgn E 36 cD (o2p++o2y::o2s) o2s (upd j 20 (.bool af ae)) U 40 [] λJ t I i3 R=>(match J,t 26,Xx 7 md R&&cn i3 60 with
    | .normal,.bool af ae,af=>KR I
    |_,_,_=>False)
   |_=>False)
  |_,_,_=>False)
theorem Z9v{o:Oper} {a:Act} {W:World} {n:Nat} {P:Program} {Q:Exit->Act->World->Prop} {ops:Array Oper} {r:List Oper} (j:Region.wanted o (yielded ops a.tmps)=af) (h:o.wpIn cr n P a W (wpListIn cr n P ops Q r) Q):wpListIn cr n P ops Q (o::r) a W:=by
 unfold wpListIn;rw[jh j];exact h
theorem Z5x{n:Nat} {P:Program} {x y:Code} {a:Act} {w:World} {Q:Exit->Act->World->Prop} (h:x.wp P (Exit.then (λa w=>y.wp P (Exit.then (λa w=>Q .normal a w) λ_ _ _=>False) a w) λ_ _ _=>False) a w):(gH x y).wpIn cr n P Q a w:=by
 refine wpIn_seq (wpIn_wide.2 (wp_mono h λe a w j=> ?_));cases e with
 |normal=>exact wpIn_wide.2 (wp_mono j λe a w t=>by cases e<;>first|exact t|exact t.elim)
 |_=>exact j.elim
structure RdEnd(E:Eng Y) (B:Nat) (md:List Nat) (frOut:List (Nat×SV Y)) (ao:Act) (l:Nat) (r:Loop) (σ:Pl) (g:GH) (W:World) (σ':Pl) (g':GH) (h':Hp Y) (W':World):Prop where
 st:StpL 7 60 md σ g W σ' g' W'
 inv:Inv E B σ' h' g' W'
 fr:FrOk E σ' g' (frOf frOut) ao
 rc:W'.heap[l]? =ah (.loop r)
theorem Z5y(hE:EngOk E) {cD:Zve Y} (X8:∀(o:Oper) T h i k,DomLt h i->step E cD o.op T h i k->∃r,k r/\OpTri2 E o T h i r) {VT:Zes Y} {it4 it3:Code} (j5:Zet E 36 it4 it3 VT) {o2p o2s:List Oper} {o2y:Oper} {ts:Array TypeId} (Za2:o2y.op= .call {callee:= .value (.tmp 17),args:= #[.tmp 18,.tmp 19],argTypes:=ts}) (Za3:o2y.guard=ah (2,af)) (Vl:o2y.dst=ah 20) (Zgj:((o2p++o2y::o2s).toArray[2]?).bind (·.dst)=ah 16) {fI:List (Nat×SV Y)} {NO:Nat} {assign body:Code} {p1 p2:Tmp} {frOut:List (Nat×SV Y)} {md:List Nat} {l:Nat} {h:Hp Y} {KN:Fr Y->Hp Y->Prop} {KE KR:Hp Y->Prop} (hp1:p1<NO) (k9:p2<NO) (g7:DomLt h 8)
 (hc:itC E cD VT o2p o2y o2s fI NO assign body [p1,p2] frOut md l h KN KE KR) (n:Nat) (B:Nat) (σ:Pl) (g:GH) (W:World) (a U:Act) (D:Nat) (fn:FuncId) (hI:Inv E B σ h g W) (hB:B<=W.heap.size) (g8:∀b,8<=b->b<60->σ b=aD) (hF:FrOk E σ g (frOf fI) a) (hN:a.tmps.size=36)
 (i7:FrOk E σ g (frOf frOut) U) (j4:U.tmps.size=NO) (hl:W.heap[l]? =ah (.loop (rdy fn U.tmps [p1,p2] assign body D))) (b9:¬Own 7 60 md σ l) (Q:Exit->Act->World->Prop) (hO:¬LetsOut Q)
 (f9:∀a' W' σ' g' T4 h4,KN T4 h4->RdEnd E B md frOut U l (rdy fn U.tmps [p1,p2] assign body D) σ g W σ' g' h4 W'->FrOk E σ' g' T4 a'->a'.tmps.size=36->a'.defers=a.defers->Q .normal a' W')
 (f8:∀a' W' σ' g' a0,KE a0->RdEnd E B md frOut U l (rdy fn U.tmps [p1,p2] assign body D) σ g W σ' g' a0 W'->a'.tmps.size=36->a'.defers=a.defers->Q (.exit 0) a' W')
 (g0:∀a' W' W3 a6 g1 h2 σ' g' a0,KR a0->RdEnd E B md frOut U l (rdy fn U.tmps [p1,p2] assign body D) σ g W a6 g1 h2 W3->RdEnd E B md frOut U l {rdy fn U.tmps [p1,p2] assign body D with state:= .done,pending:=some .ret} a6 g1 (W3.putObj l (.loop {rdy fn U.tmps [p1,p2] assign body D with state:= .done,pending:=some .ret})) σ' g' a0 W'->a'.tmps.size=36->a'.defers=a.defers->Q (.exit 0) a' W'):
 (gH (gH (.region 2 (o2p++o2y::o2s).toArray ae) (.cond (.tmp 26) .skip (.exit 0))) (.seq it4 it3)).wpIn cr (n+1) E.P Q a W:=by
 obtain⟨r,hr⟩:∃r,r=rdy fn U.tmps [p1,p2] assign body D:=⟨_,rfl⟩
 rw[<-hr] at f9 f8 g0
 have k1:l<W.heap.size:=(cq.1 hl).1
 unfold itC at hc
 obtain⟨e,T1,h1,i1,l3,b4,l7,i5,⟨m1,g9,j2⟩,t1⟩:=Zdk hE X8 (o2p++o2y::o2s) o2p _ _ 8 [] _ g7 hc
 rw[dW] at g9
 subst g9
 split at b4
 case h_2=>exact b4.elim
 rename_i l5 h9 g5
 rw[az,bx] at g5
 obtain⟨j8,k4⟩:=g5
 obtain⟨d5,b4⟩:=b4
 obtain⟨e2,h2,e4,c8,l0⟩:=Z0a hE X8 (i:=7) (M:=40) (ih:=i1) (md:=md) (by omega) j8 (ps:= [p1,p2]) (λp hp=>by rcases bE.1 hp with rfl|hp;exact hp1;rcases jJ.1 hp with rfl;exact k9) i5.1 (K:=λe2 h2=>match e2 with
  | .normal=>rgn E 36 cD (o2p++o2y::o2s) o2s (upd T1 20 (.bool af af)) h2 40 [] λe3 T3 a0 i3 a5=>(match e3,Xx 7 md a5&&cn i3 60 with
   | .normal,af=>(match T3 26 with
    | .bool bb v=>split bb v λv=>(match v with
     |true=>VT T3 a0 i3 [] λT4 h4 i4 h3=>(match cn i4 60&&Xx 7 md h3 with|true=>KN T4 h4|false=>False)
     |false=>KE a0)
    |_=>False)
   |_,_=>False)
  | .ret=>rgn E 36 cD (o2p++o2y::o2s) o2s (upd T1 20 (.bool af ae)) h2 40 [] λe3 T3 a0 i3 a5=>(match e3,T3 26,Xx 7 md a5&&cn i3 60 with
   | .normal,.bool af ae,af=>KR a0
   |_,_,_=>False)
  |_=>False) (λe h2 hk=>by cases e<;>first|exact .inl rfl|exact .inr rfl|exact hk.elim) b4 l (n+1-1)
 have l1:∀b∈l3,b∈md\/(7<=b/\b<60):=λb J=>by
  rcases Wu k4 J with k|k
  ·refine .inr ⟨k,?_⟩
   rcases j2 b J with k2|k2
   ·have:=g7 b k2;omega
   ·omega
  ·exact .inl k
 refine wpIn_seq (wpIn_seq (wpIn_region_list ?_))
 rw[show((o2p++o2y::o2s).toArray).toList=o2p++o2y::o2s by simp]
 refine V1 (Um (by rintro⟨x,y,h⟩;exact hO ⟨x,y,h⟩) (t1 B σ g W a _ hI hB (λb t I=>g8 b t (by omega)) hF hN ?_))
 rintro R w1 ⟨d1,z1,a6,g1,c6,i9,a9⟩
 show wpListIn _ _ _ _ _ (o2y::o2s) R w1
 have L1:StpL 7 60 md σ g W a6 g1 w1:=StpL.of c6 (by omega) (by omega) l1
 have k0:w1.heap[l]? =ah (.loop r):=(L1.heap l k1 b9).trans (by rw[hr];exact hl)
 have k6:¬Own 7 60 md a6 l:=λho=>by
  rcases L1.own l ho with k|k
  ·omega
  ·exact b9 k
 have k8:¬Own 7 40 md a6 l:=λ⟨b,z,J,hs⟩=>k6 ⟨b,z,J.imp id λk=>⟨k.1,by omega⟩,hs⟩
 have e1:=i7.mono c6.sig c6.gle
 have d7:B<=w1.heap.size:=bY hB L1.size
 have d2:∀b,i1<=b->b<60->a6 b=none:=λb t I=>X3 c6 (i2:=60) (λb' p1 p2=>g8 b' p1 p2) b (by omega) I
 have h6:R.eval (.tmp 16)= .bool true:=by
  have:=a9 16
  rw[h9] at this
  generalize R.eval (.tmp 16)=u at this
  cases this;rfl
 have l4:R.tmps[16]? =ah (.bool af):=by
  have h:16<R.tmps.size:=by rw[z1];decide
  have e0:R.eval (.tmp 16)=(R.tmps[16]?).getD undef:=by simp[Act.eval]
  rw[cO h] at e0⊢
  rw[h6] at e0
  exact jy ah e0.symm
 have h7:R.eval (.tmp 17)= .func (.yield l) #[] #[]:=by
  have:=a9 17
  split at d5
  ·rename_i u hu
   rw[hu,d5] at this
   generalize R.eval (.tmp 17)=u at this
   cases this;rfl
  ·exact d5.elim
 refine Z9v (Zup Za3 Zgj l4) ?_
 have j6:DenL E a6 g1 [T1 18,T1 19] [R.eval (.tmp 18),R.eval (.tmp 19)]:=⟨rfl,λj sv u t I=>by
  match j,t,I with
  |0,t,I=>cases t;cases I;exact a9 18
  |1,t,I=>cases t;cases I;exact a9 19⟩
 refine Z0g Za2 h7 (l0 B a6 g1 w1 U D fn #[R.eval (.tmp 18),R.eval (.tmp 19)] i9 d7 (λb t I=>d2 b t (by omega)) e1 j4 j6 rfl (by rw[<-hr];exact k0) k8) ?_
 rw[<-hr]
 rw[Vl]
 have d0:∀{hh:Hp Y} {i3:Nat} {a5:List Nat},Xx 7 md a5=af->DomLt hh 60->(∀b∈a5,hh b≠aD\/b<60)->∀b∈a5,b∈md\/(7<=b/\b<60):=λ{hh i3 a5} t I q3 b J=>by
  rcases Wu t J with k|k
  ·rcases q3 b J with k2|k2
   ·exact .inr ⟨k,I b k2⟩
   ·exact .inr ⟨k,k2⟩
  ·exact .inl k
 cases e2 with
 |normal=>
  rintro en W2 ⟨rfl,a1,g2,L2,c4,b7,e9,b0⟩
  refine⟨_,rfl,?_⟩
  have b3:=L1.trans (L2.mono (M':=60) (by omega))
  have c9:l<W2.heap.size:=(cq.1 b0).1
  have f4:¬Own 7 60 md a1 l:=λho=>by
   rcases b3.own l ho with k|k
   ·omega
   ·exact b9 k
  have c2:∀b,40<=b->b<60->a1 b=none:=λb t I=>by
   cases hq:a1 b with
   |none=>rfl
   |some p=>
    rcases e9 b p hq with k|k
    ·rw[d2 b (by omega) I] at k;cases k
    ·omega
  obtain⟨e3,T3,a0,i3,a5,a2,j7,d8,⟨m3,b8,e6⟩,t3⟩:=Zdk hE X8 (o2p++o2y::o2s) o2s _ _ 40 [] _ c8 e4
  rw[dW] at b8
  subst b8
  split at a2
  case h_2=>exact a2.elim
  rename_i b5
  rw[az,bx] at b5
  obtain⟨e8,j9⟩:=b5
  have f5:=d0 (i3:=i3) e8 (λb J=>cC (c8 b J) (by omega)) λb J=>(e6 b J).imp id λk=>by omega
  have d9:FrOk E a1 g2 (upd T1 20 (.bool af af)) (R.put (ah 20) (.bool af)):=(a9.mono b7 L2.gle).put (by rw[z1];decide) (.bool _ _)
  refine Um (by rintro⟨x,y,h⟩;exact hO ⟨x,y,h⟩) (t3 B a1 g2 W2 _ _ c4 (bY d7 L2.size) (λb t I=>c2 b t (by omega)) d9 (by rw[Wc];exact z1) ?_)
  rintro a3 w3 ⟨d3,z3,a7,g3,a8,c5,c3⟩
  have c7:a3.defers=a.defers:=by rw[d3,Xf,d1]
  have L3:StpL 7 60 md a1 g2 W2 a7 g3 w3:=StpL.of a8 (by omega) (by omega) f5
  have c0:=b3.trans L3
  have b6:w3.heap[l]? =ah (.loop r):=(L3.heap l c9 f4).trans b0
  have f7:=(e1.mono b7 L2.gle).mono a8.sig a8.gle
  show(kV (.tmp 26) .skip (.exit 0)).wpIn _ _ _ _ a3 w3
  split at a2
  case h_2=>exact a2.elim
  rename_i bb vv d6
  have a2:=Yk a2
  have c1:a3.eval (.tmp 26)= .bool vv:=by
   have:=c3 26
   rw[d6] at this
   generalize a3.eval (.tmp 26)=u at this
   cases this;rfl
  cases vv with
  |false=>exact wpIn_cond_false c1 (wpIn_exit (f8 a3 w3 a7 g3 a0 a2 ⟨c0,c5,f7,b6⟩ z3 c7))
  |true=>
   obtain⟨T4,h4,i4,h3,e5,l8,l6,⟨m4,h0,j3⟩,t4⟩:=j5 _ _ _ _ _ d8.1 a2
   rw[dW] at h0
   subst h0
   split at e5
   case h_2=>exact e5.elim
   rename_i g6
   rw[az,bx] at g6
   obtain⟨l9,k5⟩:=g6
   have l2:=d0 (i3:=i4) k5 (λb J=>cC (d8.1 b J) (by omega)) λb J=>(j3 b J).imp id λk=>by omega
   have h8:∀b,i3<=b->b<60->a7 b=none:=λb t I=>X3 a8 (i2:=60) (λb' p1 p2=>c2 b' p1 p2) b (by omega) I
   refine wpIn_cond_true c1 (wpIn_skip ?_)
   show(gH it4 it3).wpIn _ _ _ _ a3 w3
   refine Z5x (Q:=Q) (t4 B a7 g3 w3 a3 (λa w=>Q .normal a w) c5 (bY hB c0.size) (λb t I=>h8 b t (by omega)) c3 z3 ?_)
   rintro a4 w4 ⟨d4,z4,h5,g4,e7,j1,i6⟩
   have k3:l<w3.heap.size:=(cq.1 b6).1
   have k7:¬Own 7 60 md a7 l:=λho=>by
    rcases c0.own l ho with k|k
    ·omega
    ·exact b9 k
   have L4:StpL 7 60 md a7 g3 w3 h5 g4 w4:=StpL.of e7 (by omega) (by omega) l2
   exact f9 a4 w4 h5 g4 T4 h4 e5 ⟨c0.trans L4,j1,f7.mono e7.sig e7.gle,(L4.heap l k3 k7).trans b6⟩ i6 z4 (d4.trans c7)
 |ret=>
  rintro en W2 ⟨rfl,a1,g2,W3,L2,c4,b7,e9,b0,rfl⟩
  refine⟨_,rfl,?_⟩
  have b3:=L1.trans (L2.mono (M':=60) (by omega))
  have c9:l<W3.heap.size:=(cq.1 b0).1
  have f4:¬Own 7 60 md a1 l:=λho=>by
   rcases b3.own l ho with k|k
   ·omega
   ·exact b9 k
  have c2:∀b,40<=b->b<60->a1 b=none:=λb t I=>by
   cases hq:a1 b with
   |none=>rfl
   |some p=>
    rcases e9 b p hq with k|k
    ·rw[d2 b (by omega) I] at k;cases k
    ·omega
  obtain⟨e3,T3,a0,i3,a5,a2,j7,d8,⟨m3,b8,e6⟩,t3⟩:=Zdk hE X8 (o2p++o2y::o2s) o2s _ _ 40 [] _ c8 e4
  rw[dW] at b8
  subst b8
  split at a2
  case h_2=>exact a2.elim
  rename_i d6 b5
  rw[az,bx] at b5
  obtain⟨e8,j9⟩:=b5
  have f5:=d0 (i3:=i3) e8 (λb J=>cC (c8 b J) (by omega)) λb J=>(e6 b J).imp id λk=>by omega
  have d9:FrOk E a1 g2 (upd T1 20 (.bool af ae)) (R.put (ah 20) (.bool ae)):=(a9.mono b7 L2.gle).put (by rw[z1];decide) (.bool _ _)
  have j0:=Xz c4 b0 rfl (λes c e=>by cases e) (.loop {r with state:= .done,pending:=some .ret})
  refine Um (by rintro⟨x,y,h⟩;exact hO ⟨x,y,h⟩) (t3 B a1 g2 _ _ _ j0 (by simp;exact bY d7 L2.size) (λb t I=>c2 b t (by omega)) d9 (by rw[Wc];exact z1) ?_)
  rintro a3 w3 ⟨d3,z3,a7,g3,a8,c5,c3⟩
  have c7:a3.defers=a.defers:=by rw[d3,Xf,d1]
  have L3:StpL 7 60 md a1 g2 (W3.putObj l (.loop {r with state:= .done,pending:=some .ret})) a7 g3 w3:=StpL.of a8 (by omega) (by omega) f5
  have b6:w3.heap[l]? =ah (.loop {r with state:= .done,pending:=some .ret}):=(L3.heap l (by simpa using c9) f4).trans (ey c9)
  have f6:=e1.mono b7 L2.gle
  show(kV (.tmp 26) .skip (.exit 0)).wpIn _ _ _ _ a3 w3
  have c1:a3.eval (.tmp 26)= .bool false:=by
   have:=c3 26
   rw[d6] at this
   generalize a3.eval (.tmp 26)=u at this
   cases this;rfl
  exact wpIn_cond_false c1 (wpIn_exit (g0 a3 w3 W3 a1 g2 h2 a7 g3 a0 a2 ⟨b3,c4,f6,b0⟩ ⟨L3,c5,f6.mono a8.sig a8.gle,b6⟩ z3 c7))
 |_=>exact e4.elim
end
end
section
open Go Go.RowKit
def Ycf:Code->List Oper
 | .region _ ops _=>ops.toList
 |_=> []
noncomputable def o2:List Oper:=Ycf it2
noncomputable def o2p:List Oper:=o2.take 6
noncomputable def o2s:List Oper:=o2.drop 7
noncomputable def o2y:Oper:=(o2[6]?).getD default
theorem Ybm:it2= .region 2 (o2p++o2y::o2s).toArray false:=by kernel_rfl
theorem Za2:o2y.op= .call {callee:= .value (.tmp 17),args:= #[.tmp 18,.tmp 19],argTypes:= #[3,43]}:=by kernel_rfl
theorem Za3:o2y.guard=ah (2,af):=by kernel_rfl
theorem Vl:o2y.dst=ah 20:=by kernel_rfl
theorem Zgj:((o2p++o2y::o2s).toArray[2]?).bind (·.dst)=ah 16:=by kernel_rfl
noncomputable def cD:Nat->List (SV thy)->Hp thy->Nat->(Res thy->Prop)->Prop:=Zk E2 FD (vc E2 FD 400)
theorem Z9a:Zcf E2 cD:=Zb Zd Z9d 400
theorem X8(o:Oper) (T:Fr thy) (h:Hp thy) (i:Nat) (k:Res thy->Prop) (t:DomLt h i) (j:step E2 cD o.op T h i k):∃r,k r/\OpTri2 E2 o T h i r:=Zdc Zd Z9a (λ_ _ _ _ _ j=>Vv Z9d j) o T h i k t j
theorem Zds:∀(cs:List Code) (f N:Nat) (T:Fr thy) (h:Hp thy) (i:Nat) (ms:List Nat) (K:Fr thy->Hp thy->Nat->List Nat->Prop),DomLt h i->vcs FD 400 f N cs T h i ms K->
 ∃T' t j a3,K T' t j a3/\i<=j/\Dom h i t j/\(∃m,a3=m++ms/\Yr h i j m)/\
  ∀(B:Nat) (σ:Pl) (g:GH) (w:World) (a:Act) (Q:Act->World->Prop),Inv E2 B σ h g w->B<=w.heap.size->(∀b,i<=b->b<j->σ b=aD)->FrOk E2 σ g T a->a.tmps.size=N->
   (∀a' w',Aft E2 B N i j a3 σ g w a.defers T' t a' w'->Q a' w')->cs.foldr (λc k a w=>c.wp E2.P (Exit.then k λ_ _ _=>False) a w) Q a w
 | [],f,N,T,h,i,ms,K,J,hk=>⟨T,h,i,ms,hk,aE _,⟨J,λb hb=> .inl hb⟩,⟨[],rfl,λb hb=>by simp at hb⟩,λB σ g w a Q hI I a0 U hN hQ=>hQ a w ⟨rfl,hN,σ,g,by rw[dS];exact(Stp.refl i σ g w).weaken (by simp),hI,U⟩⟩
 |c::cs,f,N,T,h,i,ms,K,J,hk=>by
  obtain⟨e,T1,h1,i1,b0,hK,hi,R,⟨m,rfl,hM⟩,t1⟩:=(Zjv Zd Z9d 400 f N c).1 T h i ms _ J hk
  cases e with
  |normal=>
   obtain⟨T2,h2,i2,b3,a7,a4,a6,⟨m',rfl,a8⟩,t2⟩:=Zds cs f N T1 h1 i1 _ K R.1 hK
   refine⟨T2,h2,i2,_,a7,by omega,R.trans hi a6,⟨m'++m,by simp,Zas R hi a4 hM a8⟩,λB σ g w a Q hI I a0 U hN hQ=> ?_⟩
   show c.wp E2.P (Exit.then _ _) a w
   refine t1 B σ g w a _ hI I (λb q1 q2=>a0 b q1 (by omega)) U hN λa1 w1 hA=> ?_
   show List.foldr _ Q cs a1 w1
   obtain⟨a9,g1,k1,k2,k3,k4,k5⟩:=hA.trans hi a4 I a0 ⟨m',rfl⟩
   exact t2 B a9 g1 w1 a1 Q k1 k2 k3 k4 hA.sz λa2 w2 a5=>hQ a2 w2 (k5 _ _ _ _ a5)
  |_=>exact hK.elim
noncomputable def itT:Zes thy:=λT h i ms K=>vcs FD 400 42 36 [it4,it3] T h i ms K
theorem Z43:Zet E2 36 it4 it3 itT:=λT h i ms K j t=>Zds [it4,it3] 42 36 T h i ms K j t
end
section
open Go.RowKit
section
variable {Y:Thy} {E:Eng Y}
structure Bel(B:Nat) (g:GH) (w:World) (g':GH) (w':World):Prop where
 gle:g.le g'
 gcnew:∀r o v,g'.cell r o=ah v->g.cell r o=ah v\/B<=r
 gmnew:∀r es,g'.obj r=ah es->g.obj r=ah es\/B<=r
 heap:∀r,r<B->w'.heap[r]? =w.heap[r]?
 size:w.heap.size<=w'.heap.size
 os:w'.os=w.os
 tape:w'.tape=w.tape
 output:w'.output=w.output
theorem Bel.trans{B:Nat} {g I J:GH} {w U w2:World} (h:Bel B g w I U) (k:Bel B I U J w2):Bel B g w J w2:=
 ⟨h.gle.trans k.gle,λr o v j=>(k.gcnew r o v j).elim (h.gcnew r o v) .inr,λr t j=>(k.gmnew r t j).elim (h.gmnew r t) .inr,λr R=>(k.heap r R).trans (h.heap r R),bY h.size k.size,k.os.trans h.os,k.tape.trans h.tape,k.output.trans h.output⟩
theorem Bel.stp{B i n:Nat} {m:List Nat} {σ σ':Pl} {h:Hp Y} {g R:GH} {w w':World} (j:Stp i n m σ g w σ' R w') (U:Inv E B σ h g w) (t:B<=w.heap.size):Bel B g w R w':=
 ⟨j.gle,λr o v J=>(j.gcnew r o v J).imp id λk=>k.elim (λk=>bY t k) λ⟨b,_,z,I⟩=>(U.base b r z I).1,λr es J=>(j.gmnew r es J).imp id λk=>bY t k,
  λr hr=>j.heap r (cC hr t) λb _ z I=>by have:=(U.base b r z I).1;omega,j.size,j.os,j.tape,j.output⟩
theorem Bel.stpL{B i M:Nat} {md:List Nat} {σ σ':Pl} {h:Hp Y} {g R:GH} {w w':World} (j:StpL i M md σ g w σ' R w') (U:Inv E B σ h g w) (t:B<=w.heap.size):Bel B g w R w':=
 ⟨j.gle,λr o v J=>(j.gcnew r o v J).imp id λk=>k.elim (λk=>bY t k) λ⟨b,z,_,I⟩=>(U.base b r z I).1,λr es J=>(j.gmnew r es J).imp id λk=>bY t k,
  λr hr=>j.heap r (cC hr t) λ⟨b,z,_,I⟩=>by have:=(U.base b r z I).1;omega,j.size,j.os,j.tape,j.output⟩
theorem Bel.put{B:Nat} (g:GH) (w:World) {l:Nat} (j:B<=l) (o:Obj):Bel B g w g (w.putObj l o):=
 ⟨.refl _,λ_ _ _ h=> .inl h,λ_ _ h=> .inl h,λr t=>dm (by omega),by simp,rfl,rfl,rfl⟩
theorem Bel.alloc{B:Nat} (g:GH) (w:World) (j:B<=w.heap.size) (o:Obj):Bel B g w g (w.alloc o):=
 ⟨.refl _,λ_ _ _ h=> .inl h,λ_ _ h=> .inl h,λr t=>Below.heap_alloc w o r (by omega),by simp,rfl,rfl,rfl⟩
structure ItSt(E:Eng Y) (B:Nat) (frOut:List (Nat×SV Y)) (ao:Act) (l D:Nat) (r:Loop) (g0:GH) (w0:World) (hd:Nat) (h:Hp Y) (σ:Pl) (g:GH) (W:World):Prop where
 inv:Inv E B σ h g W
 bel:Bel B g0 w0 g W
 le:B<=W.heap.size
 fr:FrOk E σ g (frOf frOut) ao
 rc:W.heap[l]? =ah (.loop r)
 free:∀b,hd<=b->σ b=aD
 dk:W.heap[D]? =ah (.deferred (ah []))
def mu6(m:Nat) (a:Act):Nat:=m+1-(match a.eval (.tmp 6) with| .int _ n=>n.toNat|_=>0)
theorem Zu1(hE:EngOk E) {cD:Zve Y} (X8:∀(o:Oper) T h i k,DomLt h i->step E cD o.op T h i k->∃r,k r/\OpTri2 E o T h i r) {VT:Zes Y} {it4 it3:Code} (c0:Zet E 36 it4 it3 VT) {o2p o2s:List Oper} {o2y:Oper} {ts:Array TypeId}
 (Za2:o2y.op= .call {callee:= .value (.tmp 17),args:= #[.tmp 18,.tmp 19],argTypes:=ts}) (Za3:o2y.guard=ah (2,af)) (Vl:o2y.dst=ah 20) (Zgj:((o2p++o2y::o2s).toArray[2]?).bind (·.dst)=ah 16)
 {fI:Nat->List (Nat×SV Y)} (c2:∀k,frOf (fI k) 6= .int ae .i64 (k:Int)) {NO:Nat} {assign body:Code} {p1 p2:Tmp} {frOut:List (Nat×SV Y)} {md:List Nat} {l m:Nat} {KN:Nat->Fr Y->Hp Y->Prop} {KE KR:Nat->Hp Y->Prop} (hp1:p1<NO) (d2:p2<NO)
 {headP:Nat->Hp Y->Prop} (c5:∀k,k<=m->∀h,headP k h->DomLt h 8/\itC E cD VT o2p o2y o2s (fI k) NO assign body [p1,p2] frOut md l h (KN k) (KE k) (KR k))
 (R:Act) (b7:R.tmps.size=NO)
 (b5:∀k T h,k<=m->KN k T h->k+1<=m/\∀(B:Nat) (σ:Pl) (g:GH) (W:World) (a:Act),Inv E B σ h g W->FrOk E σ g T a->FrOk E σ g (frOf frOut) R->∃σ' h',headP (k+1) h'/\StpL 7 60 md σ g W σ' g W/\Inv E B σ' h' g W/\FrOk E σ' g (frOf frOut) R/\FrOk E σ' g (frOf (fI (k+1))) a/\∀b,8<=b->b<60->σ' b=aD)
 {B:Nat} (D:Nat) (fn:FuncId) (g0:GH) (w0:World) (n:Nat) (Q:Exit->Act->World->Prop) (hO:¬LetsOut Q) (a:Act) (W:World) (a9:B<=l) (b0:D≠l)
 (b8:∀t J k σ g h,k<=m->KE k h->ItSt E B frOut R l D (rdy fn R.tmps [p1,p2] assign body D) g0 w0 60 h σ g J->t.tmps.size=36->t.defers=a.defers->Q (.exit 0) t J)
 (b9:∀t J k σ g h,k<=m->KR k h->ItSt E B frOut R l D {rdy fn R.tmps [p1,p2] assign body D with state:= .done,pending:=some .ret} g0 w0 60 h σ g J->t.tmps.size=36->t.defers=a.defers->Q (.exit 0) t J)
 {σ:Pl} {g:GH} {h:Hp Y} (hh:headP 0 h) (h0:ItSt E B frOut R l D (rdy fn R.tmps [p1,p2] assign body D) g0 w0 8 h σ g W) (hF:FrOk E σ g (frOf (fI 0)) a) (hN:a.tmps.size=36) (d1:¬Own 7 60 md σ l) (d0:¬Own 7 60 md σ D):
 (Code.loop (.seq (.seq (.region 2 (o2p++o2y::o2s).toArray ae) (.cond (.tmp 26) .skip (.exit 0))) (.seq it4 it3))).wpIn cr (n+1) E.P Q a W:=by
 refine wpIn_loop (λt J=>∃k σ g h,k<=m/\headP k h/\ItSt E B frOut R l D (rdy fn R.tmps [p1,p2] assign body D) g0 w0 8 h σ g J/\FrOk E σ g (frOf (fI k)) t/\t.tmps.size=36/\t.defers=a.defers/\¬Own 7 60 md σ l/\¬Own 7 60 md σ D) (λt _=>mu6 m t) ⟨0,σ,g,h,bg _,hh,h0,hF,hN,rfl,d1,d0⟩ ?_
 rintro a1 w1 ⟨k,d7,g1,h1,hk,c4,j,a7,b6,a4,a8,a3⟩
 obtain⟨c1,hc⟩:=c5 k hk h1 c4
 have d9:l<w1.heap.size:=(cq.1 j.rc).1
 have a5:D<w1.heap.size:=(cq.1 j.dk).1
 have e6:∀(σ:Pl) (g:GH) (k:Nat) (a:Act),FrOk E σ g (frOf (fI k)) a->a.eval (.tmp 6)= .int .i64 (k:Int):=λσ g k a hF=>by
  have:=hF 6
  rw[c2] at this
  generalize a.eval (.tmp 6)=u at this
  cases this;rfl
 refine Z5y hE X8 c0 Za2 Za3 Vl Zgj hp1 d2 c1 hc n B d7 g1 w1 a1 R D fn j.inv j.le (λb q1 _=>j.free b q1) a7 b6 j.fr b7 j.rc a8 _ (λ⟨x,y,h⟩=>hO ⟨x,y,h⟩) ?_ ?_ ?_
 ·intro t J σ' g' T4 h4 c8 I b3 hz a2
  obtain⟨c6,c3⟩:=b5 k T4 h4 hk c8
  obtain⟨d8,h',d5,d6,p3,p4,p5,p6⟩:=c3 B σ' g' J t I.inv b3 I.fr
  have a6:=I.st.trans d6
  refine⟨⟨k+1,d8,g',h',c6,d5,⟨p3,j.bel.trans (Bel.stpL I.st j.inv j.le),bY j.le I.st.size,p4,I.rc,λb hb=> ?_,?_⟩,p5,hz,a2.trans a4,λho=> ?_,λho=> ?_⟩,?_⟩
  ·by_cases c:b<60
   ·exact p6 b hb c
   ·rw[a6.out b (by omega)];exact j.free b hb
  ·exact(I.st.heap D a5 a3).trans j.dk
  ·rcases a6.own l ho with q|q
   ·omega
   ·exact a8 q
  ·rcases a6.own D ho with q|q
   ·omega
   ·exact a3 q
  ·show mu6 m t<mu6 m a1
   unfold mu6
   rw[e6 _ _ _ _ p5,e6 _ _ _ _ a7]
   simp only[bB]
   omega
 ·intro t J σ' g' h3 c7 I hz a2
  exact b8 t J k σ' g' h3 hk c7 ⟨I.inv,j.bel.trans (Bel.stpL I.st j.inv j.le),bY j.le I.st.size,I.fr,I.rc,(λb hb=>by rw[I.st.out b (by omega)];exact j.free b (by omega)),(I.st.heap D a5 a3).trans j.dk⟩ hz (a2.trans a4)
 ·intro t J W3 e0 g3 h2 σ' g' h3 c9 U a0 hz a2
  have b1:=j.bel.trans (Bel.stpL U.st j.inv j.le)
  have l3:B<=W3.heap.size:=bY j.le U.st.size
  have b4:=Xz U.inv U.rc rfl (λes c e=>by cases e) (.loop {rdy fn R.tmps [p1,p2] assign body D with state:= .done,pending:=some .ret})
  have b2:=Bel.stpL a0.st b4 (by simp;exact l3)
  have sz:=a0.st.size
  simp at sz
  refine b9 t J k σ' g' h3 hk c9 ⟨a0.inv,(b1.trans (Bel.put g3 W3 a9 _)).trans b2,bY l3 sz,a0.fr,a0.rc,(λb hb=>by rw[a0.st.out b (by omega),U.st.out b (by omega)];exact j.free b (by omega)),?_⟩ hz (a2.trans a4)
  have d3:W3.heap[D]? =ah (.deferred (ah [])):=(U.st.heap D a5 a3).trans j.dk
  have d4:D<W3.heap.size:=(cq.1 d3).1
  refine(a0.st.heap D (by simpa using d4) λho=> ?_).trans ((dm b0).trans d3)
  rcases U.st.own D ho with q|q
  ·omega
  ·exact a3 q
theorem Z0n{n:Nat} {P:Program} {x y z:Code} {a:Act} {w:World} {Q:Exit->Act->World->Prop} (h:x.wp P (Exit.then (λa w=>y.wp P (Exit.then (λa w=>z.wpIn cr n P Q a w) λ_ _ _=>False) a w) λ_ _ _=>False) a w):(gH x (.seq y z)).wpIn cr n P Q a w:=by
 refine wpIn_seq (wpIn_wide.2 (wp_mono h λe a w j=> ?_));cases e with
 |normal=>
  refine wpIn_seq (wpIn_wide.2 (wp_mono j λe a w t=> ?_));cases e with
  |normal=>exact t
  |_=>exact t.elim
 |_=>exact j.elim
theorem Z0o(hE:EngOk E) {cD:Zve Y} (X8:∀(o:Oper) T h i k,DomLt h i->step E cD o.op T h i k->∃r,k r/\OpTri2 E o T h i r) {V0 VT:Zes Y} {it0 it1 it4 it3:Code} (c3:Zet E 36 it0 it1 V0) (c4:Zet E 36 it4 it3 VT) {o2p o2s:List Oper} {o2y:Oper} {ts:Array TypeId}
 (Za2:o2y.op= .call {callee:= .value (.tmp 17),args:= #[.tmp 18,.tmp 19],argTypes:=ts}) (Za3:o2y.guard=ah (2,af)) (Vl:o2y.dst=ah 20) (Zgj:((o2p++o2y::o2s).toArray[2]?).bind (·.dst)=ah 16)
 {U:FuncId} {fI:Func} (hf:E.P.funcs[U]? =ah fI) (c7:fI.body=ah (.seq it0 (.seq it1 (.block 0 (.loop (.seq (.seq (.region 2 (o2p++o2y::o2s).toArray ae) (.cond (.tmp 26) .skip (.exit 0))) (.seq it4 it3))))))) (d9:fI.ntmps=36) (a7:fI.results= #[]) (eg:∀args w,(callFunc U args).run E.P w= .ok (.enter U args) w)
 {fr:Nat->Nat->List (Nat×SV Y)} (d3:∀l k,frOf (fr l k) 6= .int ae .i64 (k:Int)) {NO:Nat} {assign body:Code} {p1 p2:Tmp} {frOut:List (Nat×SV Y)} {md:List Nat} {m:Nat} {K0:Nat->Fr Y->Hp Y->Prop} {KN:Nat->Nat->Fr Y->Hp Y->Prop} {KE KR:Nat->Hp Y->Prop} (hp1:p1<NO) (e0:p2<NO)
 {headP:Nat->Hp Y->Prop} (d4:∀l k,k<=m->∀h,headP k h->DomLt h 8/\itC E cD VT o2p o2y o2s (fr l k) NO assign body [p1,p2] frOut md l h (KN l k) (KE k) (KR k))
 {gs b1 b2:Nat} {a2:Hp Y} (c9:DomLt a2 6) (d0:∀l,V0 (nthD [.val (.func (.yield l) #[] #[]),.ptr b1 0,.ptr b2 0]) a2 6 [] λT h i ms=>i<=60/\K0 l T h)
 {T:Fr Y} (hT:T gs= .fn (.func U) [] [.ptr b1 0,.ptr b2 0]) {B:Nat} {σ:Pl} {g g0:GH} {W w0:World} {a:Act} (hI:Inv E B σ a2 g W) (hB:B<=W.heap.size) (c6:Bel B g0 w0 g W) (a6:∀b,6<=b->σ b=aD) (b5:FrOk E σ g T a) (b6:FrOk E σ g (frOf frOut) a) (c1:a.tmps.size=NO)
 (b8:∀l T h,K0 l T h->∀(σ:Pl) (g:GH) (W:World) (ai:Act),Inv E B σ h g W->FrOk E σ g T ai->FrOk E σ g (frOf frOut) a->∃σ' h',headP 0 h'/\StpL 7 60 md σ g W σ' g W/\Inv E B σ' h' g W/\FrOk E σ' g (frOf frOut) a/\FrOk E σ' g (frOf (fr l 0)) ai/\∀b,8<=b->b<60->σ' b=aD)
 (b9:∀l k T h,k<=m->KN l k T h->k+1<=m/\∀(B:Nat) (σ:Pl) (g:GH) (W:World) (ai:Act),Inv E B σ h g W->FrOk E σ g T ai->FrOk E σ g (frOf frOut) a->∃σ' h',headP (k+1) h'/\StpL 7 60 md σ g W σ' g W/\Inv E B σ' h' g W/\FrOk E σ' g (frOf frOut) a/\FrOk E σ' g (frOf (fr l (k+1))) ai/\∀b,8<=b->b<60->σ' b=aD)
 (n:Nat) (Q:Exit->Act->World->Prop) (hO:¬LetsOut Q)
 (b3:∀D I k σ g h,B<=D->k<=m->KE k h->Inv E B σ h g I->Bel B g0 w0 g I->B<=I.heap.size->FrOk E σ g (frOf frOut) a->(∀b,60<=b->σ b=aD)->I.heap[D]? =ah (.deferred (ah []))->Q .normal {a with defers:={target:= .collected D,args:= #[]}::a.defers} I)
 (c2:∀D I k σ g h,B<=D->k<=m->KR k h->Inv E B σ h g I->Bel B g0 w0 g I->B<=I.heap.size->FrOk E σ g (frOf frOut) a->(∀b,60<=b->σ b=aD)->I.heap[D]? =ah (.deferred (ah []))->Q .ret {a with defers:={target:= .collected D,args:= #[]}::a.defers} I):
 (Code.rangeFunc (.tmp gs) #[p1,p2] assign body).wpIn cr n E.P Q a W:=by
 refine wpIn_rangeFunc λfn _=> ?_
 obtain⟨W1,a0⟩:∃W1,(W.alloc (.deferred (ah []))).alloc (.loop (rdy fn a.tmps [p1,p2] assign body W.heap.size))=W1:=⟨_,rfl⟩
 have c0:W1.heap[W.heap.size+1]? =ah (.loop (rdy fn a.tmps [p1,p2] assign body W.heap.size)):=by
  rw[<-a0];have:=jl (W.alloc (.deferred (ah []))) (.loop (rdy fn a.tmps [p1,p2] assign body W.heap.size));rwa[World.size_alloc] at this
 have b0:W1.heap[W.heap.size]? =ah (.deferred (ah [])):=by
  rw[<-a0];exact(Below.heap_alloc _ _ _ (by simp)).trans (jl W _)
 have a4:Inv E B σ a2 g W1:=by rw[<-a0];exact Zgl (Zgl hI _) _
 have c5:Bel B g0 w0 g W1:=by rw[<-a0];exact(c6.trans (Bel.alloc g W hB _)).trans (Bel.alloc g _ (by simp;omega) _)
 have e8:W1.heap.size=W.heap.size+2:=by rw[<-a0];simp
 have d2:∃u1 u2,a.eval (.tmp gs)= .func (.func U) #[] #[u1,u2]/\Den E σ g (.ptr b1 0) u1/\Den E σ g (.ptr b2 0) u2:=by
  have:=b5 gs
  rw[hT] at this
  generalize a.eval (.tmp gs)=u at this
  cases this with
  |fn ca cb s1 s2 s3 s4 s5 s6=>
   rename_i va vb
   have e1:va= #[]:=Array.eq_empty_of_size_eq_zero s1
   have e2:vb= #[cb 0,cb 1]:=by
    have q0:=s5 0 (by simp)
    have t:=s5 1 (by simp)
    have hz:vb.size=2:=s4
    apply Array.ext (by simpa using hz)
    intro j h1 h2
    match j,h1,h2 with
    |0,h1,h2=>rw[cO h1] at q0;simpa using q0
    |1,h1,h2=>rw[cO h1] at t;simpa using t
    |j+2,h1,h2=>omega
   rw[e1,e2]
   exact⟨_,_,rfl,s6 0 _ rfl,s6 1 _ rfl⟩
 obtain⟨u1,u2,hg,e3,e4⟩:=d2
 refine⟨W.heap.size+1,[{target:= .collected W.heap.size,args:= #[]}],W1,{target:= .fn (.func U) #[u1,u2],args:= #[.func (.yield (W.heap.size+1)) #[] #[]]},W1,U,#[.func (.yield (W.heap.size+1)) #[] #[]]++ #[u1,u2],W1,?_,?_,λ_ _=>js,?_,λh=>(by cases h),?_⟩
 ·rw[<-a0];exact run_enterLoop_outer _ _ _ _ _
 ·simp only[resolve,hg]
  simp[go_sem]
 ·simp[invoke,go_sem,eg]
 ·refine callsIn_of_wp hf c7 js ?_
  have a5:DenL E σ g [.val (.func (.yield (W.heap.size+1)) #[] #[]),.ptr b1 0,.ptr b2 0] (#[.func (.yield (W.heap.size+1)) #[] #[]]++ #[u1,u2]:Array Value).toList:=⟨rfl,λj sv u t J=>by
   match j,t,J with
   |0,t,J=>cases t;cases J;exact .val _
   |1,t,J=>cases t;cases J;exact e3
   |2,t,J=>cases t;cases J;exact e4⟩
  obtain⟨T',h',i',e9,⟨e7,d5⟩,hi,e6,hm,t0⟩:=c3 _ a2 6 [] _ c9 (d0 (W.heap.size+1))
  rw[d9]
  refine Z0n (t0 B σ g W1 _ (λa w=>(Code.block 0 (.loop (.seq (.seq (.region 2 (o2p++o2y::o2s).toArray ae) (.cond (.tmp 26) .skip (.exit 0))) (.seq it4 it3)))).wpIn cr _ E.P _ a w) a4 (by omega) (λb t J=>a6 b t) (Xu a5 (by simp)) (Xv a5 (by simp)) ?_)
  rintro a1 w1 ⟨d1,z1,a9,g1,R,b7,b4⟩
  obtain⟨e5,h2,t,J,q3,q4,q5,q6⟩:=b8 _ T' h' d5 a9 g1 w1 a1 b7 b4 (b6.mono R.sig R.gle)
  have keep:∀j,W.heap.size<=j->j<W1.heap.size->w1.heap[j]? =W1.heap[j]? :=λj k1 k2=>R.heap j k2 λb _ z hs=>by have:=(hI.base b j z hs).2;omega
  have d8:=(keep (W.heap.size+1) (by omega) (by omega)).trans c0
  have c8:=(keep W.heap.size (by omega) (by omega)).trans b0
  have f4:=R.size
  have a8:∀j,W.heap.size<=j->j<W1.heap.size->¬Own 7 60 md e5 j:=λj k1 k2 ho=>by
   rcases J.own j ho with k|k
   ·omega
   ·obtain⟨b,z,_,hs⟩:=k
    cases hq:σ b with
    |some p=>
     have:=R.sig b p hq
     rw[hs] at this
     cases this
     have:=(hI.base b j z hq).2
     omega
    |none=>
     rcases R.blk b j z hq hs with k|⟨b',_,z',k⟩
     ·omega
     ·have:=(hI.base b' j z' k).2
      omega
  refine wpIn_wide.2 (wpIn_wide.1 (wpIn_block (n:=0+1) (Zu1 hE X8 c4 Za2 Za3 Vl Zgj (fI:=fr (W.heap.size+1)) (d3 _) hp1 e0 (d4 (W.heap.size+1)) a c1 (b9 (W.heap.size+1)) W.heap.size fn g0 w0 0 _ ?_ a1 w1 (by omega) (by omega) ?_ ?_ t ⟨q3,c5.trans (Bel.stp R a4 (by omega)),by omega,q4,d8,λb hb=> ?_,c8⟩ q5 z1 (a8 _ (by omega) (by omega)) (a8 _ (by omega) (by omega)))))
  ·rintro⟨x,y,hx⟩
   exact hO hx
  ·intro a' I k σ' g' h3 hk d6 st hz a3
   simp only[Exit.inBlock,jP]
   refine⟨a3.trans d1,_,results_none a7 _ _ _,aD,_,run_endLoop st.rc (by simp[rdy]),?_⟩
   exact b3 W.heap.size _ k σ' g' h3 (by omega) hk d6 (Xz st.inv st.rc rfl (λes c e=>by cases e) _) (st.bel.trans (Bel.put _ _ (by omega) _)) (by simp;exact st.le) st.fr st.free ((dm (by omega)).trans st.dk)
  ·intro a' I k σ' g' h3 hk d7 st hz a3
   simp only[Exit.inBlock,jP]
   refine⟨a3.trans d1,_,results_none a7 _ _ _,ah .ret,_,run_endLoop st.rc (by simp),wpIn_ret ?_⟩
   exact c2 W.heap.size _ k σ' g' h3 (by omega) hk d7 (Xz st.inv st.rc rfl (λes c e=>by cases e) _) (st.bel.trans (Bel.put _ _ (by omega) _)) (by simp;exact st.le) st.fr st.free ((dm (by omega)).trans st.dk)
  ·by_cases c:b<60
   ·exact q6 b hb c
   ·rw[J.out b (by omega)]
    cases hq:a9 b with
    |none=>rfl
    |some p=>
     rcases R.snew b p hq with k|k
     ·rw[a6 b (by omega)] at k;cases k
     ·omega
end
end
end Go.Proofs.YtahcfmdfjjjmjaaGreatDoor
