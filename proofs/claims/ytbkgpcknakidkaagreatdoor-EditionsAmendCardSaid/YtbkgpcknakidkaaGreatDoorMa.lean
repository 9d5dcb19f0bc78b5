/- Merged texts: EngA, EngB, EngC, EngD, EngE, EngF, EngG, EngH, EngI, EngJ, EngK, EngM, EngN, EngO. -/
import Derived.WalkKit
import Derived.KernelRfl
import Derived.Deep.MidRow
import Derived.Great.BuildSlice
import Derived.Lib.Hide
import Derived.Laws.Externs
import Derived.Laws.Tables
import Derived.Orders
set_option linter.defProp false
open Array renaming all_eq_true->gk,getD->ee,getD_eq_getD_getElem?->aS,getElem?_eq_getElem->cX,getElem?_eq_none->gG,getElem?_setIfInBounds->cY,length_toList->eY,range->iB,replicate->dj
open BitVec renaming ofInt->dv
open Bool renaming and_eq_false_iff->bp,and_eq_true->aq,false->ab,false_or->dG,not_eq_true->bg,not_eq_true'->bj,not_false->iN,not_true->kF,or_eq_true->bm,true->ac,true_and->cz
open Go.Builtin renaming len_->fF,max2->km,min2->kn
open Go.ByteArray renaming toList_eq->gK
open Go.Instr renaming buildSlice->fq,fill->jF,index->jd,indexAt->iS,sureAddr->eH
open Go.Op renaming bytesLess->dY,equalIn->iG,intArith->lj,intBits->lq,operands->aQ,stringOp->lk
open Go.Region renaming binds->kC,ready->iW,wanted->de
open Go.Result renaming andThen_ok->aA
open Go.Sem renaming run->hZ,run_bind->aF,run_pure->aJ
open Iff renaming rfl->fZ
open List renaming append_assoc->be,filter_cons->eW,flatMap_cons->ir,getD_eq_getElem?_getD->bN,getElem?_append_left->bJ,getElem?_append_right->bx,getElem?_drop->cO,getElem?_eq_getElem->ao,getElem?_eq_some_iff->ai,getElem?_map->bv,getElem?_take->bO,getElem?_toArray->bU,getElem_of_mem->dd,length_append->az,length_cons->aE,map_cons->bQ,mem_append->cf,mem_cons->aH,mem_cons_of_mem->aI,mem_filter->cM,mem_map->fw,mem_of_getElem?->aL,mem_range->dU,range->dk,rec->lp,replicate->aR,singleton_append->je
open Nat renaming add_assoc->dH,add_mul->cp,add_zero->ei,beq->aO,beq_eq->fp,ble->bP,ble_eq->bu,blt->aU,eq_of_beq_eq_true->ax,le_of_ble_eq_true->gY,le_of_eq->iI,le_refl->av,le_trans->bS,lt_of_lt_of_le->ck,lt_succ_self->dC,lt_trichotomy->gj,mod_lt->ja,mul_le_mul_right->bb,one_mul->iH,succ->im,testBit_or->kG,zero_add->bq
open Option renaming bind_some->fj,getD_some->cZ,map_eq_some_iff->br,map_some->cm,ne_none_iff_exists'->aY,none->au,some->ae
open Option.some renaming inj->bd,injEq->cr
open UInt8 renaming lt_iff_toNat_lt->dQ,ofNat->gq,toNat->db,toNat_inj->iA
namespace Go.Proofs.YtbkgpcknakidkaaGreatDoor
def fG:=@decide_eq_false_iff_not
def fO:=@decide_eq_true_eq
def fV:=@beq_eq_false_iff_ne
def gp:=@bne_eq_false_iff_eq
def ij:=@beq_iff_eq
def iz:=@bne_iff_ne
def iR:=@beq_self_eq_true
def iU:=@not_true_eq_false
def jc:=@not_false_eq_true
def jk:=@of_decide_eq_true
def jm:=@of_decide_eq_false
def jq:=@decide_eq_true
def jI:=@decide_eq_false
def jJ:=@if_neg
def jM:=@if_pos
def jW:=@true_implies
def jX:=@trivial
def ka:=@absurd
def kk:=@congrArg
def ku:=@imp_self
def kz:=@forall_eq
def kJ:=@false_implies
def kK:=@implies_true
def kL:=@if_true
def kM:=@if_false
set_option linter.unusedVariables false
set_option linter.unusedSimpArgs false
set_option linter.unnecessarySimpa false
set_option maxRecDepth 100000
section
structure Thy where
 Th:Type
 dom:Th->Type
 eq:DecidableEq Th
def toL(b:ByteArray):List Nat:=b.data.toList.map db
def mkS(l:List Nat):ByteArray:=⟨(l.map gq).toArray⟩
inductive ExtK where
 |add64
 |indexByteS
 |same
inductive SV(Y:Thy) where
 |unk
 |val (v:Value)
 |int (l:Bool) (k:IntKind) (n:Int)
 |bool (l:Bool) (b:Bool)
 |str (l:Bool) (s:List Nat)
 |ptr (b off:Nat)
 |eptr (b i w off:Nat)
 |pptr (th:Y.Th) (x:Y.dom th) (off:Nat)
 |sl (b off len w:Nat) (cap:Option Nat)
 |psl (th:Y.Th) (l:List (Y.dom th)) (full:Bool)
 |agg (cs:List (SV Y))
 |tup (vs:List (SV Y))
 |fn (f:Fn) (first cap:List (SV Y))
 |map (b:Nat)
 |pmap (es:List (Value×SV Y))
 |iface (t:TypeId) (v:SV Y)
 |pan (u:Value)
inductive Blk(Y:Thy) where
 |raw (cs:List (SV Y)) (fz:Nat) (tg:Option Y.Th)
 |rows (th:Y.Th) (l:List (Y.dom th)) (fz:Nat)
 |map (es:List (Value×SV Y))
structure TyI where
 d:TypeDesc
 size:Nat
 bytes:Nat
 zero:Value
structure Eng(Y:Thy) where
 P:Program
 ty:TypeId->Option TyI
 enc:(th:Y.Th)->Y.dom th->List (SV Y)
 w:Y.Th->Nat
 el:Y.Th->TypeId
 thOf:TypeId->Option Y.Th
 dec:(th:Y.Th)->List (SV Y)->Option (Y.dom th)
 glob:Nat->Option (SV Y)
 lit:Bool
 eqs:List TypeId
 arrOf:TypeId->Option Y.Th
 ext:Nat->Option ExtK:=λ_=>au
 smap:TypeId->Option Y.Th:=λ_=>au
 rowS:TypeId->Bool:=λ_=>ab
 nap:TypeId->Bool:=λ_=>ab
structure Res(Y:Thy) where
 v:SV Y
 n:Nat
 mods:List Nat
 h:Nat->Option (Blk Y)
 rd:Option (List Nat)
abbrev Hp(Y:Thy):=Nat->Option (Blk Y)
abbrev Fr(Y:Thy):=Nat->SV Y
section
variable {Y:Thy}
def Zhw:Value->SV Y
 | .int k n=> .int ac k n
 | .bool b=> .bool ac b
 | .string s=> .str ac (toL s)
 |v=> .val v
def Yn:Value->SV Y
 | .agg cs=> .agg (cs.toList.map Zhw)
 |v=>Zhw v
def ev(T:Fr Y):Operand->SV Y
 | .tmp t=>T t
 | .const v=>Yn v
 | .global g=> .val (.pointer (ae ⟨g,0,au⟩))
 | .func f=> .fn (.func f) [] []
def upd{α:Type} (T:Nat->α) (d:Nat) (v:α):Nat->α:=λj=>match aO j d with|true=>v|false=>T j
def updO(T:Fr Y) (d:Option Nat) (v:SV Y):Fr Y:=match d with|some d=>upd T d v|none=>T
def quiet(rd:List Nat) (v:SV Y):Res Y:=⟨v,0,[],λ_=>au,ae rd⟩
def fresh(i:Nat) (v:SV Y) (b:Blk Y) (rd:List Nat):Res Y:=⟨v,1,[],λj=>match aO j i with|true=>ae b|false=>au,ae rd⟩
def change(b:Nat) (blk:Option (Blk Y)) (v:SV Y) (rd:List Nat):Res Y:=⟨v,0,[b],λj=>match aO j b with|true=>blk|false=>au,ae rd⟩
def memB(b:Nat):List Nat->Bool
 | []=>ab
 |x::r=>match aO b x with|true=>ac|false=>memB b r
def patch(h:Hp Y) (i:Nat) (r:Res Y):Hp Y:=λb=>match memB b r.mods||(bP i b&&aU b (i+r.n)) with|true=>r.h b|false=>h b
def Zhx(b:Bool) (k:Bool->Prop):Prop:=match b with|true=>k ac|false=>k ab
def Zvd(c:Option Nat) (k:Option Nat->Prop):Prop:=match c with|none=>k au|some n=>k (ae n)
def Wt(n:Nat) (k:Nat->Prop):Prop:=match n with|0=>k 0|im m=>k (im m)
def Zk1(n:Int) (k:Int->Prop):Prop:=match n with| .ofNat m=>Wt m λm=>k (.ofNat m)| .negSucc m=>Wt m λm=>k (.negSucc m)
def Uq:List Nat->(List Nat->Prop)->Prop
 | [],k=>k []
 |x::r,k=>Wt x λx=>Uq r λr=>k (x::r)
def Zve(l:Bool) (s:List Nat) (k:SV Y->Prop):Prop:=match l with|true=>Uq s λs=>k (.str ac s)|false=>k (.str ab s)
def Zow(v:SV Y) (k:SV Y->Prop):Prop:=
 match v with
 | .unk=>k .unk
 | .val v=>k (.val v)
 | .int l kd n=>(match l with|true=>Zk1 n λn=>k (.int ac kd n)|false=>k (.int ab kd n))
 | .bool l b=>Zhx l λl=>k (.bool l b)
 | .str l s=>Zve l s k
 | .ptr b o=>Wt b λb=>Wt o λo=>k (.ptr b o)
 | .eptr b i w o=>k (.eptr b i w o)
 | .pptr th x o=>k (.pptr th x o)
 | .sl b o n w c=>Wt b λb=>Zvd c λc=>k (.sl b o n w c)
 | .psl th l f=>Zhx f λf=>k (.psl th l f)
 | .agg cs=>k (.agg cs)
 | .tup vs=>k (.tup vs)
 | .fn f a b=>k (.fn f a b)
 | .map b=>k (.map b)
 | .pmap I=>k (.pmap I)
 | .iface t v=>k (.iface t v)
 | .pan u=>k (.pan u)
noncomputable def Ur(l:List (SV Y)):(List (SV Y)->Prop)->Prop:=
 lp (motive:=λ_=>(List (SV Y)->Prop)->Prop) (λk=>k []) (λx _ I k=>Zow x λx=>I λr=>k (x::r)) l
noncomputable def Zox(v:SV Y) (k:SV Y->Prop):Prop:=
 match v with
 | .unk=>k .unk
 | .val v=>k (.val v)
 | .int l kd n=>(match l with|true=>Zk1 n λn=>k (.int ac kd n)|false=>k (.int ab kd n))
 | .bool l b=>Zhx l λl=>k (.bool l b)
 | .str l s=>Zve l s k
 | .ptr b o=>Wt b λb=>Wt o λo=>k (.ptr b o)
 | .eptr b i w o=>k (.eptr b i w o)
 | .pptr th x o=>k (.pptr th x o)
 | .sl b o n w c=>Wt b λb=>Zvd c λc=>k (.sl b o n w c)
 | .psl th l f=>Zhx f λf=>k (.psl th l f)
 | .agg cs=>Ur cs λcs=>k (.agg cs)
 | .tup vs=>Ur vs λvs=>k (.tup vs)
 | .fn f a b=>Ur a λa=>Ur b λb=>k (.fn f a b)
 | .map b=>k (.map b)
 | .pmap I=>k (.pmap I)
 | .iface t v=>Zow v λv=>k (.iface t v)
 | .pan u=>k (.pan u)
noncomputable def Zd6(l:List (SV Y)):(List (SV Y)->Prop)->Prop:=
 lp (motive:=λ_=>(List (SV Y)->Prop)->Prop) (λk=>k []) (λx _ I k=>Zox x λx=>I λr=>k (x::r)) l
noncomputable def force(v:SV Y) (k:SV Y->Prop):Prop:=
 match v with
 | .unk=>k .unk
 | .val v=>k (.val v)
 | .int l kd n=>(match l with|true=>Zk1 n λn=>k (.int ac kd n)|false=>k (.int ab kd n))
 | .bool l b=>Zhx l λl=>k (.bool l b)
 | .str l s=>Zve l s k
 | .ptr b o=>Wt b λb=>Wt o λo=>k (.ptr b o)
 | .eptr b i w o=>k (.eptr b i w o)
 | .pptr th x o=>k (.pptr th x o)
 | .sl b o n w c=>Wt b λb=>Zvd c λc=>k (.sl b o n w c)
 | .psl th l f=>Zhx f λf=>k (.psl th l f)
 | .agg cs=>Ur cs λcs=>k (.agg cs)
 | .tup vs=>Zd6 vs λvs=>k (.tup vs)
 | .fn f a b=>Ur a λa=>Ur b λb=>k (.fn f a b)
 | .map b=>k (.map b)
 | .pmap I=>k (.pmap I)
 | .iface t v=>Zox v λv=>k (.iface t v)
 | .pan u=>k (.pan u)
noncomputable def Zl5:Option (Blk Y)->(Option (Blk Y)->Prop)->Prop
 |none,k=>k au
 |some (.raw cs fz tg),k=>Ur cs λcs=>k (ae (.raw cs fz tg))
 |some (.rows th l fz),k=>k (ae (.rows th l fz))
 |some (.map I),k=>k (ae (.map I))
def wr(kd:IntKind) (n:Int):Int:=kd.wrap n
mutual
def idsV:SV Y->List Nat
 | .ptr b _=> [b]
 | .eptr b _ _ _=> [b]
 | .sl b _ _ _ _=> [b]
 | .map b=> [b]
 | .agg cs=>idsL cs
 | .tup cs=>idsL cs
 | .fn _ a b=>idsL a++idsL b
 | .iface _ v=>idsV v
 | .pmap I=>idsE I
 |_=> []
def idsL:List (SV Y)->List Nat
 | []=> []
 |x::r=>idsV x++idsL r
def idsE:List (Value×SV Y)->List Nat
 | []=> []
 |(_,x)::r=>idsV x++idsE r
end
def idsB:Option (Blk Y)->List Nat
 |some (.raw cs _ _)=>idsL cs
 |some (.map I)=>idsE I
 |_=> []
def idsM(h:Hp Y):List Nat->List Nat
 | []=> []
 |b::r=>idsB (h b)++idsM h r
def Zyp(h:Hp Y) (i:Nat):Nat->List Nat->List Nat->List Nat
 |0,_,seen=>seen
 |_+1,[],seen=>seen
 |f+1,b::w,seen=>match bP i b&& !(memB b seen) with|true=>Zyp h i f (idsB (h b)++w) (b::seen)|false=>Zyp h i f w seen
mutual
def nid(i:Nat):SV Y->Bool
 | .ptr b _=>aU b i
 | .eptr b _ _ _=>aU b i
 | .sl b _ _ _ _=>aU b i
 | .map b=>aU b i
 | .agg cs=>nidL i cs
 | .tup cs=>nidL i cs
 | .fn _ a b=>nidL i a&&nidL i b
 | .pmap I=>nidE i I
 | .iface _ v=>nid i v
 | .pan _=>ab
 |_=>ac
def nidL(i:Nat):List (SV Y)->Bool
 | []=>ac
 |x::r=>nid i x&&nidL i r
def nidE(i:Nat):List (Value×SV Y)->Bool
 | []=>ac
 |(_,x)::r=>nid i x&&nidE i r
end
def nidB(i:Nat):Option (Blk Y)->Bool
 |none=>ac
 |some (.raw cs _ _)=>nidL i cs
 |some (.rows _ _ _)=>ac
 |some (.map I)=>nidE i I
def need(l:Bool) (p:Prop) [Decidable p] (K:Prop):Prop:=
 match l with
 |true=>(match decide p with|true=>K|false=>False)
 |false=>p/\K
def getK{α:Type} (lit:Bool) (l:List α) (j:Nat) (k:α->Prop):Prop:=
 match lit with
 |true=>(match l[j]? with|some x=>k x|none=>False)
 |false=>j<l.length/\∀x,l[j]? =ae x->k x
def ixK{α:Type} (lit:Bool) (l:List α) (n:Int) (k:α->Prop):Prop:=
 match lit with
 |true=>(match decide (0<=n),l[n.toNat]? with|true,ae x=>k x|_,_=>False)
 |false=>0<=n/\n<l.length/\∀x,l[n.toNat]? =ae x->k x
def Zcv(a b:Nat) (K:Prop):Prop:=match aO a b with|true=>K|false=>False
def split(l b:Bool) (K:Bool->Prop):Prop:=
 match l with
 |true=>K b
 |false=>(b=ac->K ac)/\(b=ab->K ab)
def Zhy(I l b:Bool) (K:Bool->Prop):Prop:=
 match I&& !l with
 |true=>∀v:Bool,v=b->(v=ac->K ac)/\(v=ab->K ab)
 |false=>split l b K
def Yfc{α:Type} (b:Bool) (l:List α) (k:List α->Prop):Prop:=
 match b with
 |true=>∀I,I=l->k I
 |false=>k l
theorem Zvf{α:Type} {b:Bool} {l:List α} {k:List α->Prop} (h:Yfc b l k):k l:=by
 cases b
 ·exact h
 ·exact h l rfl
def Zh:TypeDesc->Bool
 | .struct _=>ac
 | .array _ _=>ac
 |_=>ab
def SV.cells:SV Y->List (SV Y)
 | .agg cs=>cs
 |v=> [v]
def Uy(isRow:Bool) (n off:Nat) (cs:List (SV Y)):Option (SV Y):=
 match isRow with
 |true=>(match decide (off+n<=cs.length) with|true=>ae (.agg ((cs.drop off).take n))|false=>au)
 |false=>cs[off]?
def Wa(cs:List (SV Y)) (off:Nat) (vs:List (SV Y)):List (SV Y):=cs.take off++vs++cs.drop (off+vs.length)
def Yku:Value->Bool
 | .agg _=>ab
 | .tuple _=>ab
 |_=>ac
def leaf:SV Y->Bool
 | .unk=>ab
 | .agg _=>ab
 | .tup _=>ab
 | .val v=>Yku v
 |_=>ac
def leaves:List (SV Y)->Bool
 | []=>ac
 |x::r=>match leaf x with|true=>leaves r|false=>ab
def Zr3(E:Eng Y) (t:TypeId) (x:SV Y) (h:Hp Y) (k:Res Y->Prop):Prop:=
 match E.ty t with
 |none=>False
 |some i=>
  match x with
  | .ptr b off=>
   match h b with
   |some (.raw cs _ _)=>(match Uy (Zh i.d) i.size off cs with|some v=>k (quiet [b] v)|none=>False)
   |_=>False
  | .eptr b j w off=>
   match h b with
   |some (.rows th l _)=>Zcv w (E.w th) (getK E.lit l j λx=>match Uy (Zh i.d) i.size off (E.enc th x) with|some v=>k (quiet [b] v)|none=>False)
   |_=>False
  | .pptr th x off=>(match Uy (Zh i.d) i.size off (E.enc th x) with|some v=>k (quiet [] v)|none=>False)
  | .val (.pointer (ae ⟨g,o,au⟩))=>(match E.glob g,Zh i.d with|some v,ab=>(match v.cells[o]? with|some s=>k (quiet [] s)|none=>False)|_,_=>False)
  |_=>False
def Zvg(E:Eng Y) (t:TypeId) (x v:SV Y) (h:Hp Y) (k:Res Y->Prop):Prop:=
 match E.ty t with
 |none=>False
 |some i=>
  match decide (v.cells.length=i.size)&&leaves v.cells with
  |false=>False
  |true=>
   match x with
   | .ptr b off=>
    match h b with
    |some (.raw cs fz tg)=>
     (match bP fz off&&bP (off+i.size) cs.length with|true=>k (change b (ae (.raw (Wa cs off v.cells) fz tg)) .unk [b])|false=>False)
    |_=>False
   | .eptr b j w off=>
    match h b with
    |some (.rows th l fz)=>Zcv w (E.w th) (need E.lit (fz<=j) (getK E.lit l j λx=>
     match bP (off+i.size) (E.enc th x).length,E.dec th (Wa (E.enc th x) off v.cells) with|true,ae x'=>Yfc (E.nap (E.el th)) (l.set j x') λL=>k (change b (ae (.rows th L fz)) .unk [b])|_,_=>False))
    |_=>False
   |_=>False
def Vw(E:Eng Y) (s:TypeId) (x:SV Y) (f:Nat) (k:Res Y->Prop):Prop:=
 match E.ty s with
 |some ⟨.struct I,_,_,_⟩=>
  match I[f]? with
  |some fd=>
   match E.ty fd.type with
   |some J=>(match J.size with
    |0=>False
    |_=>(match x with
     | .ptr b off=>k (quiet [] (.ptr b (off+fd.offset)))
     | .eptr b j w off=>k (quiet [] (.eptr b j w (off+fd.offset)))
     | .pptr th y off=>k (quiet [] (.pptr th y (off+fd.offset)))
     |_=>False))
   |none=>False
  |none=>False
 |_=>False
def Zk2(E:Eng Y) (s:TypeId) (x:SV Y) (f:Nat) (k:Res Y->Prop):Prop:=
 match E.ty s,x with
 |some ⟨.struct J,_,_,_⟩,.agg cs=>
  match J[f]? with
  |some fd=>
   match E.ty fd.type with
   |some I=>(match Uy (Zh I.d) I.size fd.offset cs with|some v=>k (quiet [] v)|none=>False)
   |none=>False
  |none=>False
 |_,_=>False
def Uf(E:Eng Y) (th:Y.Th) (l:List (Y.dom th)) (d0:Y.dom th):Nat->Nat->List (SV Y)
 |0,_=> []
 |n+1,j=>match j with
  |0=>E.enc th (l.getD 0 d0)++Uf E th l d0 n 1
  |im m=>E.enc th (l.getD (im m) d0)++Uf E th l d0 n (im (im m))
def Ug(w:Nat):Nat->List (SV Y)->List (List (SV Y))
 |0,_=> []
 |n+1,cs=>cs.take w::Ug w n (cs.drop w)
def Uh(E:Eng Y) (th:Y.Th):List (List (SV Y))->Option (List (Y.dom th))
 | []=>ae []
 |r::rs=>(match E.dec th r,Uh E th rs with|some x,ae l=>ae (x::l)|_,_=>au)
def Z13(E:Eng Y) (t:TypeId) (b:Nat) (th:Y.Th) (l:List (Y.dom th)) (k:Res Y->Prop):Prop:=
 match E.ty t with
 |some ⟨.array n el,sz,_,_⟩=>
  match E.ty el with
  |some I=>
   match E.dec th (Yn I.zero:SV Y).cells,aO sz (n*E.w th) with
   |some d0,ac=>need E.lit (l.length=n) (k (quiet [b] (.agg (Uf E th l d0 n 0))))
   |_,_=>False
  |none=>False
 |_=>False
def Zk3(E:Eng Y) (t:TypeId) (x:SV Y) (h:Hp Y) (k:Res Y->Prop):Prop:=
 match x with
 | .ptr b 0=>(match h b with|some (.rows th l _)=>Z13 E t b th l k|_=>Zr3 E t x h k)
 |x=>Zr3 E t x h k
def Z14(E:Eng Y) (t:TypeId) (b:Nat) (th:Y.Th) (l:List (Y.dom th)) (v:SV Y) (k:Res Y->Prop):Prop:=
 match E.ty t with
 |some ⟨.array n _,sz,_,_⟩=>
  match Uh E th (Ug (E.w th) n v.cells),(aO sz (n*E.w th)&&aO v.cells.length sz)&&leaves v.cells with
  |some I,ac=>need E.lit (l.length=n) (k (change b (ae (.rows th I 0)) .unk [b]))
  |_,_=>False
 |_=>False
def Zr4(E:Eng Y) (t:TypeId) (x v:SV Y) (h:Hp Y) (k:Res Y->Prop):Prop:=
 match x with
 | .ptr b 0=>(match h b with|some (.rows th l 0)=>Z14 E t b th l v k|_=>Zvg E t x v h k)
 |x=>Zvg E t x v h k
def Zl6(E:Eng Y) (t:TypeId) (th:Y.Th) (i:Nat) (k:Res Y->Prop):Prop:=
 match E.ty t with
 |some ⟨.array n _,sz,_,z⟩=>
  match Uh E th (Ug (E.w th) n (Yn z:SV Y).cells),aO (Yn z:SV Y).cells.length (n*E.w th) with
  |some l,ac=>k (fresh i (.ptr i 0) (.rows th l 0) [])
  |_,_=>False
 |_=>False
def Zoy(kd:IntKind):List (SV Y)->Option (List Int)
 | []=>ae []
 | .int _ k n::r=>(match decide (k=kd),Zoy kd r with|true,ae l=>ae (n::l)|_,_=>au)
 |_::_=>au
def Zl7(n:Int) (k:Nat->Prop):Nat->Nat->Prop
 |0,_=>True
 |c+1,j=>((n==(j:Int))=ac->k j)/\((n==(j:Int))=ab->Zl7 n k c (j+1))
def Zyq(l:Bool) (n:Int) (len:Nat) (k:Nat->Prop):Prop:=
 match l with
 |true=>need ac (0<=n/\n<len) (k n.toNat)
 |false=>0<=n/\n<len/\Zl7 n k len 0
def Xp(E:Eng Y) (t:TypeId) (x R:SV Y) (h:Hp Y) (k:Res Y->Prop):Prop:=
 match E.ty t,R with
 |some ⟨.array len el,_,_,_⟩,.int l _ n=>
  match E.ty el,x,l with
  |some I,.ptr b off,ac=>(match decide (0<=n)&&aU n.toNat len with|true=>k (quiet [] (.ptr b (off+n.toNat*I.size)))|false=>False)
  |some I,.pptr th y off,ac=>(match decide (0<=n)&&aU n.toNat len with|true=>k (quiet [] (.pptr th y (off+n.toNat*I.size)))|false=>False)
  |some I,.val (.pointer (ae ⟨g,o,au⟩)),ac=>(match decide (0<=n)&&aU n.toNat len with|true=>k (quiet [] (.val (.pointer (ae ⟨g,o+n.toNat*I.size,au⟩))))|false=>False)
  |some I,.val (.pointer (ae ⟨g,o,au⟩)),ab=>0<=n/\n<len/\Zl7 n (λj=>k (quiet [] (.val (.pointer (ae ⟨g,o+j*I.size,au⟩))))) len 0
  |some I,.ptr b off,ab=>0<=n/\n<len/\Zl7 n (λj=>k (quiet [] (.ptr b (off+j*I.size)))) len 0
  |some I,.pptr th y off,ab=>0<=n/\n<len/\Zl7 n (λj=>k (quiet [] (.pptr th y (off+j*I.size)))) len 0
  |some I,.eptr b q w off,ac=>(match decide (0<=n)&&aU n.toNat len with|true=>k (quiet [] (.eptr b q w (off+n.toNat*I.size)))|false=>False)
  |some I,.eptr b q w off,ab=>0<=n/\n<len/\Zl7 n (λj=>k (quiet [] (.eptr b q w (off+j*I.size)))) len 0
  |_,_,_=>False
 |some ⟨.slice el,_,_,_⟩,.int l _ n=>
  match E.ty el with
  |some I=>
   match x with
   | .psl th J _=>Zcv I.size (E.w th) (ixK (l&&E.lit) J n λy=>k (quiet [] (.pptr th y 0)))
   | .sl b off len w _=>
    match h b with
    |some (.raw cs _ _)=>Zyq l n len λj=>Zcv I.size w (k (quiet [] (.ptr b ((off+j)*w))))
    |some (.rows th J _)=>need (l&&E.lit) (0<=n/\n<len) (Zcv I.size w (Zcv w (E.w th) (k (quiet [] (.eptr b (off+n.toNat) w 0)))))
    |_=>False
   |_=>False
  |none=>False
 |_,_=>False
def Zc8(E:Eng Y) (t:TypeId) (b:Nat) (th:Y.Th) (J:SV Y) (k:Res Y->Prop):Prop:=
 match E.ty t,J with
 |some ⟨.array len el,_,_,_⟩,.int f _ n=>
  (match E.ty el with|some I=>need (f&&E.lit) (0<=n/\n<len) (Zcv I.size (E.w th) (k (quiet [] (.eptr b n.toNat I.size 0))))|none=>False)
 |_,_=>False
def Zc9(E:Eng Y) (g len:Nat) (el:TypeId) (n:Int) (k:Res Y->Prop) (z:Prop):Prop:=
 match E.glob g,E.thOf el with
 |some v,ae th=>
  (match Uh E th (Ug (E.w th) len v.cells) with
  |some l=>(match E.ty el with|some I=>Zcv I.size (E.w th) (ixK ab l n λy=>k (quiet [] (.pptr th y 0)))|none=>False)
  |none=>z)
 |_,_=>z
def Wx(E:Eng Y) (t:TypeId) (x I:SV Y) (h:Hp Y) (k:Res Y->Prop):Prop:=
 match x with
 | .ptr b 0=>(match h b with|some (.rows th _ _)=>Zc8 E t b th I k|_=>Xp E t x I h k)
 | .val (.pointer (ae ⟨g,0,au⟩))=>(match E.ty t,I with|some ⟨.array len el,_,_,_⟩,.int ab _ n=>Zc9 E g len el n k (Xp E t x I h k)|_,_=>Xp E t x I h k)
 |x=>Xp E t x I h k
def Zhz(E:Eng Y) (t:TypeId) (x J:SV Y) (k:Res Y->Prop):Prop:=
 match E.ty t,x,J with
 |some ⟨.array len el,_,_,_⟩,.agg cs,.int l _ n=>
  match E.ty el,l with
  |some I,ac=>(match decide (0<=n)&&aU n.toNat len,Uy (Zh I.d) I.size (n.toNat*I.size) cs with|true,ae v=>k (quiet [] v)|_,_=>False)
  |some ⟨.int kd,sz,_,_⟩,ab=>(match Zoy kd cs,aO cs.length len&&aO sz 1 with|some R,ac=>0<=n/\n<len/\∀y,R[n.toNat]? =ae y->k (quiet [] (.int ab kd y))|_,_=>False)
  |_,_=>False
 |some ⟨.string,_,_,_⟩,.str l s,.int m _ n=>ixK (l&&m) s n λy=>k (quiet [] (.int (l&&m) .u8 (y:Nat)))
 |_,_,_=>False
def Zr5(E:Eng Y) (len:Nat) (el:TypeId) (J:TyI) (cs:List (SV Y)) (n:Int) (k:Res Y->Prop):Prop:=
 match E.thOf el with
 |some th=>
  (match Uh E th (Ug (E.w th) len cs),aO cs.length (len*E.w th)&&aO J.size (E.w th) with
  |some I,ac=>ixK ab I n λy=>k (quiet [] (.agg (E.enc th y)))
  |_,_=>False)
 |none=>False
def Zfp(E:Eng Y) (t:TypeId) (x I:SV Y) (k:Res Y->Prop):Prop:=
 match E.ty t,x,I with
 |some ⟨.array len el,_,_,_⟩,.agg cs,.int ab _ n=>
  (match E.ty el with
  |some J=>(match Zh J.d with|true=>Zr5 E len el J cs n k|false=>Zhz E t x I k)
  |none=>False)
 |_,_,_=>Zhz E t x I k
def Zan(op:BinOp) (kd:IntKind) (a b:Int):Int:=
 match op with
 | .and=>kd.wrap (dv kd.bits a&&&dv kd.bits b).toNat
 | .or=>kd.wrap (dv kd.bits a|||dv kd.bits b).toNat
 | .xor=>kd.wrap (dv kd.bits a^^^dv kd.bits b).toNat
 |_=>kd.wrap (dv kd.bits a&&& ~~~dv kd.bits b).toNat
def intR(f:Bool) (kd:IntKind) (n:Int) (k:Res Y->Prop):Prop:=k (quiet [] (.int f kd n))
def Zcw(f v:Bool) (k:Res Y->Prop):Prop:=split f v λv=>k (quiet [] (.bool ac v))
def Z15(op:BinOp) (f m:Bool) (kd:IntKind) (a b:Int) (k:Res Y->Prop):Prop:=
 match op with
 | .add=>intR f kd (wr kd (a+b)) k
 | .sub=>intR f kd (wr kd (a-b)) k
 | .mul=>intR f kd (wr kd (a*b)) k
 | .quo=>need m (b≠0) (intR f kd (wr kd (a.tdiv b)) k)
 | .rem=>need m (b≠0) (intR f kd (a.tmod b) k)
 | .eql=>Zcw f (a==b) k
 | .neq=>Zcw f (a !=b) k
 | .lss=>Zcw f (decide (a<b)) k
 | .leq=>Zcw f (decide (a<=b)) k
 | .gtr=>Zcw f (decide (a>b)) k
 | .geq=>Zcw f (decide (a>=b)) k
 |op=>intR f kd (Zan op kd a b) k
def Z16(op:BinOp) (l m:Bool) (kd I:IntKind) (a b:Int) (k:Res Y->Prop):Prop:=
 match op with
 | .shl=>need m (0<=b) (intR (l&&m) kd (wr kd (a*2^min b.toNat kd.bits)) k)
 | .shr=>need m (0<=b) (intR (l&&m) kd (a.fdiv (2^min b.toNat kd.bits)) k)
 |op=>match decide (kd=I) with|false=>False|true=>Z15 op (l&&m) m kd a b k
def Z17(E:Eng Y) (op:BinOp) (t:TypeId) (l m a b:Bool) (k:Res Y->Prop):Prop:=
 match E.ty t with
 |some ⟨.bool,_,_,_⟩=>(match op with| .eql=>Zcw (l&&m) (a==b) k| .neq=>Zcw (l&&m) (!(a==b)) k|_=>False)
 |_=>False
def Zoz:List Nat->List Nat->Bool
 |_,[]=>ab
 | [],_::_=>ac
 |a::x,b::y=>match aU a b with|true=>ac|false=>(match aO a b with|true=>Zoz x y|false=>ab)
def Z18(op:BinOp) (l m:Bool) (a b:List Nat) (k:Res Y->Prop):Prop:=
 match op with
 | .add=>need (l&&m) (a.length+b.length<=9223372036854775807) (k (quiet [] (.str (l&&m) (a++b))))
 | .eql=>Zcw (l&&m) (a==b) k
 | .neq=>Zcw (l&&m) (!(a==b)) k
 | .lss=>Zcw (l&&m) (Zoz a b) k
 | .geq=>Zcw (l&&m) (!(Zoz a b)) k
 | .gtr=>Zcw (l&&m) (Zoz b a) k
 | .leq=>Zcw (l&&m) (!(Zoz b a)) k
 |_=>False
def nilV:SV Y->Option Bool
 | .val (.pointer au)=>ae ac
 | .val .nilIface=>ae ac
 | .val (.slice au 0 0)=>ae ac
 | .val (.slice (ae _) _ _)=>ae ab
 | .val (.map au)=>ae ac
 | .val .nilFunc=>ae ac
 | .ptr _ _=>ae ab
 | .eptr _ _ _ _=>ae ab
 | .pptr _ _ _=>ae ab
 | .sl _ _ _ _ _=>ae ab
 | .fn _ _ _=>ae ab
 | .map _=>ae ab
 | .pmap _=>ae ab
 | .iface _ _=>ae ab
 |_=>au
def nilT(d:TypeDesc):SV Y->Bool
 | .val (.pointer au)=>(match d with| .pointer _=>ac|_=>ab)
 | .val .nilIface=>(match d with| .interface _=>ac|_=>ab)
 | .val (.slice au 0 0)=>(match d with| .slice _=>ac|_=>ab)
 | .val (.slice (ae _) _ _)=>(match d with| .slice _=>ac|_=>ab)
 | .val (.map au)=>(match d with| .map _ _=>ac|_=>ab)
 | .val .nilFunc=>(match d with| .func _ _ _=>ac|_=>ab)
 | .ptr _ _=>(match d with| .pointer _=>ac|_=>ab)
 | .eptr _ _ _ _=>(match d with| .pointer _=>ac|_=>ab)
 | .pptr _ _ _=>(match d with| .pointer _=>ac|_=>ab)
 | .sl _ _ _ _ _=>(match d with| .slice _=>ac|_=>ab)
 | .fn _ _ _=>(match d with| .func _ _ _=>ac|_=>ab)
 | .map _=>(match d with| .map _ _=>ac|_=>ab)
 | .pmap _=>(match d with| .map _ _=>ac|_=>ab)
 | .iface _ _=>(match d with| .interface _=>ac|_=>ab)
 |_=>ab
def Za2:Operand->Bool
 | .const _=>ac
 |_=>ab
def Z8u(E:Eng Y) (op:BinOp) (t:TypeId) (x y:SV Y) (p q:Bool) (k:Res Y->Prop):Prop:=
 match E.ty t with
 |some i=>
  (match nilT i.d x&&nilT i.d y&&(p||q) with
  |true=>(match op with| .eql=>k (quiet [] (.bool ac (p&&q)))| .neq=>k (quiet [] (.bool ac (!(p&&q))))|_=>False)
  |false=>False)
 |none=>False
def sbin(E:Eng Y) (op:BinOp) (t:TypeId) (x y:SV Y) (k:Res Y->Prop):Prop:=
 match x,y with
 | .int l kd a,.int m I b=>Z16 op l m kd I a b k
 | .bool l a,.bool m b=>Z17 E op t l m a b k
 | .str l a,.str m b=>Z18 op l m a b k
 |_,_=>False
def sun(op:UnOp) (x:SV Y) (k:Res Y->Prop):Prop:=
 match op,x with
 | .neg,.int l kd n=>k (quiet [] (.int l kd (wr kd (0-n))))
 | .xor,.int l kd n=>k (quiet [] (.int l kd (Zan .xor kd (if kd.signed then-1 else kd.max) n)))
 | .not,.bool l b=>k (quiet [] (.bool l (!b)))
 |_,_=>False
def Zb7(E:Eng Y) (I:TypeId) (x:SV Y) (k:Res Y->Prop):Prop:=
 match E.ty I,x with
 |some ⟨.int kd,_,_,_⟩,.int l _ n=>k (quiet [] (.int l kd (wr kd n)))
 |some ⟨.string,_,_,_⟩,.str l s=>k (quiet [] (.str l s))
 |_,_=>False
def Zd7(place:Nat->Option (Nat×Nat)) (cells:List (SV Y)):List (Nat×SV Y)->Option (List (SV Y))
 | []=>ae cells
 |(i,v)::rest=>
  match place i with
  |none=>au
  |some (off,size)=>
   match(decide (v.cells.length=size)&&leaves v.cells)&&bP (off+size) cells.length with
   |true=>Zd7 place (Wa cells off v.cells) rest
   |false=>au
def Zh0(E:Eng Y):List Field->Option (List (Nat×Nat))
 | []=>ae []
 |f::r=>(match E.ty f.type,Zh0 E r with|some I,ae l=>ae ((f.offset,I.size)::l)|_,_=>au)
def Z19(E:Eng Y) (t:TypeId) (parts:List (Nat×SV Y)) (k:Res Y->Prop):Prop:=
 match E.ty t with
 |some ⟨.struct J,_,_,z⟩=>
  (match Zh0 E J.toList with
  |some pl=>(match Zd7 (λi=>pl[i]?) (Yn z:SV Y).cells parts with|some cs=>k (quiet [] (.agg cs))|none=>False)
  |none=>False)
 |some ⟨.array _ el,_,_,z⟩=>(match E.ty el with|some I=>(match Zd7 (λi=>ae (i*I.size,I.size)) (Yn z:SV Y).cells parts with|some cs=>k (quiet [] (.agg cs))|none=>False)|none=>False)
 |_=>False
def Zcx(E:Eng Y) (el:TypeId):Option Y.Th:=match E.thOf el with|some th=>(match aO (E.el th) el with|true=>ae th|false=>au)|none=>au
def Zda(E:Eng Y) (t:TypeId) (len:Nat) (parts:List (Nat×SV Y)) (i:Nat) (k:Res Y->Prop):Prop:=
 match E.ty t with
 |some ⟨.slice el,_,_,_⟩=>
  match E.ty el with
  |some I=>
   match(bP (len*I.size) 16777216&&bP len 16777216)&&(aU 0 I.size&&aO (Yn I.zero:SV Y).cells.length I.size),Zd7 (λi=>ae (i*I.size,I.size)) ((aR len (Yn I.zero:SV Y).cells).flatten) parts with
   |true,ae cs=>k (fresh i (.sl i 0 len I.size (ae len)) (.raw cs 0 (Zcx E el)) [])
   |_,_=>False
  |none=>False
 |_=>False
def Za3(E:Eng Y) (t:TypeId) (len:Nat) (parts:List (Nat×SV Y)) (i:Nat) (k:Res Y->Prop):Prop:=
 match E.ty t with
 |some ⟨.slice el,_,_,_⟩=>
  match E.ty el,Zcx E el with
  |some I,ae th=>
   match(bP (len*I.size) 16777216&&bP len 16777216)&&(aU 0 I.size&&aO (Yn I.zero:SV Y).cells.length I.size),Zd7 (λi=>ae (i*I.size,I.size)) ((aR len (Yn I.zero:SV Y).cells).flatten) parts with
   |true,ae cs=>(match Uh E th (Ug (E.w th) len cs),aO I.size (E.w th) with
    |some l,ac=>k (fresh i (.sl i 0 len I.size (ae len)) (.rows th l 0) [])
    |_,_=>False)
   |_,_=>False
  |_,_=>False
 |_=>False
def U6{I th:Y.Th} (l:List (Y.dom I)) (k:List (Y.dom th)->Prop):Prop:=
 match Y.eq I th with
 |isTrue e=>Eq.rec (motive:=λt _=>(List (Y.dom t)->Prop)->Prop) (λk=>k l) e k
 |isFalse _=>False
def Zr6(E:Eng Y) (h:Hp Y) (th:Y.Th) (x:SV Y) (k:Bool->List (Y.dom th)->List Nat->Prop):Prop:=
 match x with
 | .val (.slice au 0 0)=>k ac [] []
 | .val (.slice (ae _) 0 c)=>c<=maxLen/\k ac [] []
 | .psl I l _=>U6 l λl=>k E.lit l []
 | .sl b off len w _=>
  match h b with
  |some (.rows I l _)=>
   (match aO w (E.w I) with
   |true=>U6 l λl=>need E.lit (off+len<=l.length) (match off with|0=>k E.lit (l.take len) [b]|off=>k E.lit ((l.drop off).take len) [b])
   |false=>False)
  |some (.raw cs _ _)=>(match aO w (E.w th),Uh E th (Ug w len (cs.drop (off*w))) with|true,ae l=>k ac l [b]|_,_=>False)
  |_=>False
 |_=>False
def at1(i:Nat) (x:Option (Blk Y)):Hp Y:=λj=>match aO j i with|true=>x|false=>au
def Ydp{α:Type} (lit:Bool) (l:List α) (A B:Prop):Prop:=
 match lit with
 |true=>(match l with| []=>A|_::_=>B)
 |false=>(l= []->A)/\(l≠ []->B)
def Za4:SV Y->Bool
 | .val (.slice au 0 0)=>ac
 | .psl _ _ _=>ac
 | .sl _ _ _ _ _=>ac
 |_=>ab
def Zr7(E:Eng Y) (t:TypeId) (x1 x2:SV Y) (h:Hp Y) (i:Nat) (k:Res Y->Prop):Prop:=
 match E.ty t with
 |some ⟨.slice el,_,_,_⟩=>
  match E.ty el,Zcx E el with
  |some R,ae th=>
   match(aU 0 R.bytes&&Za4 x1)&&aO (Yn R.zero:SV Y).cells.length (E.w th) with
   |false=>False
   |true=>Zr6 E h th x2 λlit I U=>Ydp lit I (k (quiet U x1))
    (match x1 with
    | .val (.slice au 0 0)=>need lit (I.length*R.bytes<=140737488355328) (k (fresh i (.sl i 0 I.length (E.w th) au) (.rows th I 0) U))
    | .psl a2 J ac=>U6 J λJ=>need (E.lit&&lit) ((J.length+I.length)*R.bytes<=140737488355328) (k (fresh i (.sl i 0 (J.length+I.length) (E.w th) au) (.rows th (J++I) 0) U))
    | .sl b off len w (ae c)=>Zr6 E h th (.sl b off len w (ae c)) λa0 J a1=>
     need (a0&&lit) (c<J.length+I.length/\(J.length+I.length)*R.bytes<=140737488355328) (k (fresh i (.sl i 0 (J.length+I.length) (E.w th) au) (.rows th (J++I) 0) (a1++U)))
    | .sl b 0 len w au=>
     (match h b with
     |some (.rows a2 l fz)=>
      (match aO w (E.w th) with
      |true=>U6 l λl=>need (E.lit&&lit) (len<=l.length/\fz<=len/\(len+I.length)*R.bytes<=140737488355328)
       (Yfc (E.nap (E.el th)) (l.take len++I) λL=>k ⟨.sl i 0 (len+I.length) (E.w th) au,1,[b],at1 i (ae (.rows th L fz)),ae (b::U)⟩)
      |false=>False)
     |_=>False)
    |_=>False)
  |_,_=>False
 |_=>False
def rawB(h:Hp Y) (b:Nat):Bool:=match h b with|some (.raw _ _ _)=>ac|_=>ab
def Zl8(c:Option Nat) (a:Nat):Option Nat:=match c with|some c=>ae (c-a)|none=>au
def Z8v(d:Int):Option (SV Y)->Option (Bool×Int)
 |none=>ae (ac,d)
 |some (.int f _ x)=>ae (f,x)
 |_=>au
def Z2a(E:Eng Y) (t:TypeId) (x:SV Y) (lo hi mx:Option (SV Y)) (h:Hp Y) (k:Res Y->Prop):Prop:=
 match E.ty t,x with
 |some ⟨.slice el,_,_,_⟩,.psl th l full=>
  match E.ty el with
  |some I=>
   (match aO I.size (E.w th),lo,hi,mx with
   |true,au,au,au=>k (quiet [] (.psl th l full))
   |true,au,ae (.int f _ b),au=>need (f&&E.lit) (0<=b/\b<=l.length) (k (quiet [] (.psl th (l.take b.toNat) ab)))
   |true,ae (.int f _ a),au,au=>need (f&&E.lit) (0<=a/\a<=l.length) (k (quiet [] (.psl th (l.drop a.toNat) full)))
   |true,ae (.int f _ a),ae (.int J _ b),au=>need (f&&J&&E.lit) (0<=a/\a<=b/\b<=l.length) (k (quiet [] (.psl th ((l.take b.toNat).drop a.toNat) ab)))
   |true,au,ae (.int f _ b),ae (.int J _ c)=>need (f&&J&&E.lit) (0<=b/\b=c/\b<=l.length) (k (quiet [] (.psl th (l.take b.toNat) ac)))
   |_,_,_,_=>False)
  |none=>False
 |some ⟨.slice el,_,_,_⟩,.val (.slice au 0 0)=>
  match E.ty el with
  |some _=>
   (match lo,hi,mx with
   |none,au,au=>k (quiet [] (.val (.slice au 0 0)))
   |some (.int l _ a),au,au=>need l (a=0) (k (quiet [] (.val (.slice au 0 0))))
   |none,ae (.int l _ a),au=>need l (a=0) (k (quiet [] (.val (.slice au 0 0))))
   |none,ae (.int l _ a),ae (.int R _ c)=>need (l&&R) (a=0/\c=0) (k (quiet [] (.val (.slice au 0 0))))
   |_,_,_=>False)
  |none=>False
 |some ⟨.slice el,_,_,_⟩,.sl b off len w cap=>
  match E.ty el with
  |some I=>
   (match aO I.size w,lo,hi,mx with
   |true,au,au,au=>k (quiet [] (.sl b off len w cap))
   |true,au,ae (.int l _ c),au=>need (l&&(E.lit||rawB h b)) (0<=c/\c<=len) (k (quiet [] (.sl b off c.toNat w cap)))
   |true,au,ae (.int l _ c),ae (.int R _ m)=>need (l&&R&&(E.lit||rawB h b)) (0<=c/\c<=m/\m<=len) (k (quiet [] (.sl b off c.toNat w (ae m.toNat))))
   |true,ae (.int l _ a),au,au=>need (l&&(E.lit||rawB h b)) (0<=a/\a<=len) (split (l&&(E.lit||rawB h b)) (decide (a<len)) λv=>
    (match v,Zcx E el with|true,_=>k (quiet [] (.sl b (off+a.toNat) (len-a.toNat) w (Zl8 cap a.toNat)))|false,ae th=>k (quiet [] (.psl th [] ab))|_,_=>False))
   |true,ae (.int l _ a),ae (.int R _ c),au=>need (l&&R&&(E.lit||rawB h b)) (0<=a/\a<=c/\c<=len) (split (l&&R&&(E.lit||rawB h b)) (decide (a<c)) λv=>
    (match v,Zcx E el with|true,_=>k (quiet [] (.sl b (off+a.toNat) (c.toNat-a.toNat) w (Zl8 cap a.toNat)))|false,ae th=>k (quiet [] (.psl th [] ab))|_,_=>False))
   |_,_,_,_=>False)
  |none=>False
 |some ⟨.string,_,_,_⟩,.str l s=>
  (match lo,hi,mx with
  |none,au,au=>k (quiet [] (.str l s))
  |none,ae (.int m _ b),au=>need (l&&m) (0<=b/\b<=s.length) (k (quiet [] (.str (l&&m) (s.take b.toNat))))
  |some (.int m _ a),au,au=>need (l&&m) (0<=a/\a<=s.length) (k (quiet [] (.str (l&&m) (s.drop a.toNat))))
  |some (.int m _ a),ae (.int U _ b),au=>need (l&&m&&U) (0<=a/\a<=b/\b<=s.length) (k (quiet [] (.str (l&&m&&U) ((s.take b.toNat).drop a.toNat))))
  |_,_,_=>False)
 |some ⟨.array n el,_,_,_⟩,.ptr b 0=>
  (match mx,Z8v 0 lo,Z8v n hi,E.ty el with
  |none,ae (f,a),ae (J,c),ae I=>
   (match h b with
   |some (.raw cs _ _)=>
    (match aO cs.length (n*I.size)&&bP n 9007199254740992,f&&J with
    |true,ac=>need ac (0<=a/\a<=c/\c<=n/\(a<n\/a=0)) (k (quiet [b] (.sl b a.toNat (c.toNat-a.toNat) I.size (ae (n-a.toNat)))))
    |_,_=>False)
   |some (.rows th l _)=>
    (match aO I.size (E.w th)&&bP n 9007199254740992 with
    |true=>need (E.lit&&f&&J) (l.length=n/\0<=a/\a<=c/\c<=n/\(a<n\/a=0)) (k (quiet [b] (.sl b a.toNat (c.toNat-a.toNat) I.size (ae (n-a.toNat)))))
    |false=>False)
   |_=>False)
  |_,_,_,_=>False)
 |some ⟨.array n el,_,_,_⟩,.val (.pointer (ae ⟨g,0,au⟩))=>
  (match lo,hi,mx with
  |none,au,au=>
   (match E.ty el,E.glob g,Zcx E el with
   |some I,ae sv,ae th=>
    (match aO I.size (E.w th)&&(bP n 9007199254740992&&aU 0 n),Uh E th (Ug (E.w th) n sv.cells) with
    |true,ae l=>k (quiet [] (.psl th l ac))
    |_,_=>False)
   |_,_,_=>False)
  |_,_,_=>False)
 |_,_=>False
def Vl(ki:Bool) (key:SV Y):List (Value×SV Y)->(SV Y->Prop)->Prop->Prop
 | [],_,z=>z
 |(J,v)::r,f,z=>
  match ki,J,key with
  |true,.int kd b,.int l I a=>(match decide (I=kd) with|true=>split l (a==b) (λq=>match q with|true=>f v|false=>Vl ki key r f z)|false=>False)
  |false,.string b,.str l a=>split l (a==toL b) λq=>(match q with|true=>f v|false=>Vl ki key r f z)
  |_,_,_=>False
def Zk4(ki:Bool):SV Y->Option Value
 | .int _ kd n=>(match ki with|true=>ae (.int kd n)|false=>au)
 | .str _ s=>(match ki with|false=>ae (.string (mkS s))|true=>au)
 |_=>au
def Zgt(ki:Bool) (key:Value) (v:SV Y):List (Value×SV Y)->Option (List (Value×SV Y))
 | []=>ae [(key,v)]
 |(I,u)::r=>
  match ki,I,key with
  |true,.int kd b,.int J a=>(match decide (J=kd) with|true=>(match(a==b) with|true=>ae ((I,v)::r)|false=>(match Zgt ki key v r with|some l=>ae ((I,u)::l)|none=>au))|false=>au)
  |false,.string b,.string a=>(match(toL a==toL b) with|true=>ae ((I,v)::r)|false=>(match Zgt ki key v r with|some l=>ae ((I,u)::l)|none=>au))
  |_,_,_=>au
def keyKind(E:Eng Y) (I:TypeId):Option Bool:=
 match E.ty I with
 |some ⟨.int _,_,_,_⟩=>ae ac
 |some ⟨.string,_,_,_⟩=>ae ab
 |_=>au
def Zyr(h:Hp Y):SV Y->Option (List (Value×SV Y)×List Nat)
 | .map b=>(match h b with|some (.map I)=>ae (I,[b])|_=>au)
 | .pmap I=>ae (I,[])
 |_=>au
def Ykv(ki:Bool) (zero:SV Y) (rd:List Nat) (ok:Bool) (key:SV Y) (I:List (Value×SV Y)) (k:Res Y->Prop):Prop:=
 Vl ki key I (λv=>k (quiet rd (match ok with|true=> .tup [v,.bool ac ac]|false=>v))) (k (quiet rd (match ok with|true=> .tup [zero,.bool ac ab]|false=>zero)))
def Zr8(E:Eng Y) (t:TypeId) (x key:SV Y) (ok:Bool) (h:Hp Y) (k:Res Y->Prop):Prop:=
 match E.ty t with
 |some ⟨.map R J,_,_,_⟩=>
  match keyKind E R,E.ty J,Zyr h x with
  |some ki,ae U,ae (I,rd)=>Ykv ki (Yn U.zero) rd ok key I k
  |_,_,_=>False
 |_=>False
def sput(E:Eng Y) (t:TypeId) (x key v:SV Y) (h:Hp Y) (k:Res Y->Prop):Prop:=
 match E.ty t,x with
 |some ⟨.map J _,_,_,_⟩,.map b=>
  match keyKind E J,h b with
  |some ki,ae (.map I)=>(match Zk4 ki key with|some R=>(match Zgt ki R v I with|some es'=>k (change b (ae (.map es')) .unk [b])|none=>False)|none=>False)
  |_,_=>False
 |_,_=>False
open Classical in
noncomputable def Zt{α I:Type}:List (α×I)->α->Option I
 | [],_=>au
 |p::r,a=>if p.1=a then ae p.2 else Zt r a
open Classical in
noncomputable def putS{α I:Type}:List (α×I)->α->I->List (α×I)
 | [],a,v=> [(a,v)]
 |p::r,a,v=>if p.1=a then(p.1,v)::r else p::putS r a v
def Zl(E:Eng Y) (th:Y.Th) (isRow:Bool) (x:Y.dom th):SV Y:=match isRow with|true=> .agg (E.enc th x)|false=>(match E.enc th x with| [v]=>v|_=> .unk)
def Wb{I:Type} (kd:IntKind) (vv:I->SV Y) (l:List (Int×I)):List (Value×SV Y):=l.map λp=>(.int kd p.1,vv p.2)
def Zi{I:Type} (vv:I->SV Y) (l:List (List Nat×I)):List (Value×SV Y):=l.map λp=>(.string (mkS p.1),vv p.2)
def Byt(s:List Nat):Prop:=toL (mkS s)=s
def Z2b(isRow:Bool):SV Y->Bool
 | .agg _=>isRow
 | .tup _=>ab
 | .unk=>ab
 |_=> !isRow
def Z8w{I:Type} (vv:I->SV Y) (z:I) (zero:SV Y) (rd:List Nat) (ok:Bool) (o:Option I) (k:Res Y->Prop):Prop:=
 match ok with
 |false=>∀y,y=o.getD z->k (quiet rd (vv y))
 |true=>(∀y,o=ae y->k (quiet rd (.tup [vv y,.bool ac ac])))/\(o=au->k (quiet rd (.tup [zero,.bool ac ab])))
def Ykw(E:Eng Y) (th:Y.Th) (I:TyI) (ki:Bool) (key:SV Y) (J:List (Value×SV Y)) (rd:List Nat) (ok:Bool) (k:Res Y->Prop):Prop:=
 match E.dec th (Yn I.zero:SV Y).cells,(aO (Yn I.zero:SV Y).cells.length (E.w th)&&(Zh I.d||aO (E.w th) 1))&&Z2b (Zh I.d) (Yn I.zero:SV Y) with
 |some z,ac=>
  (match ki,key with
  |true,.int _ kd a=>∃l,J=Wb kd (Zl E th (Zh I.d)) l/\Z8w (Zl E th (Zh I.d)) z (Yn I.zero) rd ok (Zt l a) k
  |false,.str _ a=>∃l,J=Zi (Zl E th (Zh I.d)) l/\(∀p∈l,Byt p.1)/\Z8w (Zl E th (Zh I.d)) z (Yn I.zero) rd ok (Zt l a) k
  |_,_=>False)
 |_,_=>False
def Zl9(E:Eng Y) (t:TypeId) (x key:SV Y) (ok:Bool) (h:Hp Y) (k:Res Y->Prop):Prop:=
 match E.smap t,x with
 |some th,.map b=>
  (match E.ty t,h b with
  |some ⟨.map R J,_,_,_⟩,ae (.map I)=>(match keyKind E R,E.ty J with|some ki,ae U=>Ykw E th U ki key I [b] ok k|_,_=>False)
  |_,_=>False)
 |_,_=>Zr8 E t x key ok h k
def putT(E:Eng Y) (th:Y.Th) (I:TyI) (ki:Bool) (key v:SV Y) (J:List (Value×SV Y)) (b:Nat) (k:Res Y->Prop):Prop:=
 match E.dec th v.cells,(aO v.cells.length (E.w th)&&(Zh I.d||aO (E.w th) 1))&&Z2b (Zh I.d) v with
 |some z,ac=>
  (match ki,key with
  |true,.int _ kd a=>∃l,J=Wb kd (Zl E th (Zh I.d)) l/\k (change b (ae (.map (Wb kd (Zl E th (Zh I.d)) (putS l a z)))) .unk [b])
  |false,.str _ a=>∃l,J=Zi (Zl E th (Zh I.d)) l/\(∀p∈l,Byt p.1)/\Byt a/\k (change b (ae (.map (Zi (Zl E th (Zh I.d)) (putS l a z)))) .unk [b])
  |_,_=>False)
 |_,_=>False
def Yfd(E:Eng Y) (t:TypeId) (x key v:SV Y) (h:Hp Y) (k:Res Y->Prop):Prop:=
 match E.smap t,x with
 |some th,.map b=>
  (match E.ty t,h b with
  |some ⟨.map R J,_,_,_⟩,ae (.map I)=>(match keyKind E R,E.ty J with|some ki,ae U=>putT E th U ki key v I b k|_,_=>False)
  |_,_=>False)
 |_,_=>sput E t x key v h k
open Classical in
noncomputable def delS{α I:Type}:List (α×I)->α->List (α×I)
 | [],_=> []
 |p::r,a=>if p.1=a then r else p::delS r a
def sdel(E:Eng Y) (t:TypeId) (x key:SV Y) (h:Hp Y) (k:Res Y->Prop):Prop:=
 match E.smap t,x,key with
 |some th,.map b,.str _ a=>
  (match E.ty t,h b with
  |some ⟨.map U R,_,_,_⟩,ae (.map J)=>(match keyKind E U,E.ty R with
   |some ab,ae I=>∃l:List (List Nat×Y.dom th),J=Zi (Zl E th (Zh I.d)) l/\(∀p∈l,Byt p.1)/\k (change b (ae (.map (Zi (Zl E th (Zh I.d)) (delS l a)))) (.tup []) [b])
   |_,_=>False)
  |_,_=>False)
 |_,_,_=>False
def Ykx(E:Eng Y) (c:Call) (T:Fr Y) (h:Hp Y) (k:Res Y->Prop):Prop:=match c.args.toList,c.argTypes.toList with| [m,x],t::_=>sdel E t (ev T m) (ev T x) h k|_,_=>False
def Z2c(E:Eng Y) (t:TypeId) (x:SV Y) (h:Hp Y) (k:Res Y->Prop):Prop:=
 match E.ty t,x with
 |some ⟨.slice el,_,_,_⟩,.sl b off len w _=>
  (match E.ty el,h b with
  |some I,ae (.rows th l fz)=>
   (match aO w (E.w th)&&(aO (Yn I.zero:SV Y).cells.length w&&leaves (Yn I.zero:SV Y).cells) with
   |true=>need E.lit (fz<=off/\off<=l.length) (k (change b (ae (.rows th (l.take off) fz)) (.tup []) [b]))
   |false=>False)
  |_,_=>False)
 |_,_=>False
def Yky(E:Eng Y) (c:Call) (T:Fr Y) (h:Hp Y) (k:Res Y->Prop):Prop:=match c.args.toList,c.argTypes.toList with| [x],t::_=>Z2c E t (ev T x) h k|_,_=>False
def slen(E:Eng Y) (t:TypeId) (x:SV Y) (h:Hp Y) (k:Res Y->Prop):Prop:=
 match E.ty t,x with
 |some ⟨.slice _,_,_,_⟩,.psl _ l _=>k (quiet [] (.int E.lit .i64 l.length))
 |some ⟨.slice _,_,_,_⟩,.sl b _ n _ _=>k (quiet [] (.int (E.lit||rawB h b) .i64 n))
 |some ⟨.slice _,_,_,_⟩,.val (.slice au n _)=>k (quiet [] (.int ac .i64 n))
 |some ⟨.string,_,_,_⟩,.str l s=>k (quiet [] (.int l .i64 s.length))
 |some ⟨.array n _,_,_,_⟩,_=>k (quiet [] (.int ac .i64 n))
 |_,_=>False
def mm2(mx:Bool) (a b:Int):Int:=match mx with|true=>if b>a then b else a|false=>if b<a then b else a
def smm(mx:Bool):SV Y->List (SV Y)->Option (SV Y)
 |x,[]=>ae x
 | .int l kd a,.int m I b::r=>(match decide (kd=I) with|true=>smm mx (.int (l&&m) kd (mm2 mx a b)) r|false=>au)
 |_,_=>au
def Zfq(mx:Bool) (x:SV Y) (r:List (SV Y)) (k:Res Y->Prop):Prop:=match smm mx x r with|some v=>k (quiet [] v)|none=>False
def Yfe(E:Eng Y) (t:TypeId) (J R:SV Y) (i:Nat) (k:Res Y->Prop):Prop:=
 match E.ty t,J,R with
 |some ⟨.slice el,_,_,_⟩,.int l _ n,.int m _ c=>
  match E.ty el with
  |some I=>
   match(aU 0 I.bytes&&aU 0 I.size)&&aO (Yn I.zero:SV Y).cells.length I.size,l&&m with
   |true,ac=>need ac (0<=n/\n<=c/\I.bytes*c<=281474976710656) (k (fresh i (.sl i 0 n.toNat I.size (ae c.toNat)) (.raw (aR c.toNat (Yn I.zero:SV Y).cells).flatten 0 (Zcx E el)) []))
   |true,ab=>
    (match Zcx E el with
    |some th=>(match E.dec th (Yn I.zero:SV Y).cells with
     |some z=>0<=n/\n<=c/\I.bytes*c<=281474976710656/\k (fresh i (.sl i 0 n.toNat I.size (ae c.toNat)) (.rows th (aR c.toNat z) 0) [])
     |none=>False)
    |none=>False)
   |_,_=>False
  |none=>False
 |_,_,_=>False
def Yff(h:Hp Y) (w:Nat):SV Y->Option (List (SV Y)×List Nat)
 | .val (.slice au 0 0)=>ae ([],[])
 | .sl b off len I _=>
  match aO w I,h b with
  |true,ae (.raw cs _ _)=>(match bP ((off+len)*w) cs.length with|true=>ae ((cs.drop (off*w)).take (len*w),[b])|false=>au)
  |_,_=>au
 |_=>au
def Yfg(E:Eng Y) (t:TypeId) (x1 x2:SV Y) (h:Hp Y) (k:Res Y->Prop):Prop:=
 match E.ty t,x1 with
 |some ⟨.slice el,_,_,_⟩,.sl b off len w _=>
  match E.ty el,h b with
  |some U,ae (.rows th l fz)=>
   (match aO w (E.w th)&&aO U.size w with
   |true=>Zr6 E h th x2 λlit J R=>need E.lit (fz<=off/\off+len<=l.length)
    (k (change b (ae (.rows th (l.take off++J.take len++l.drop (off+min J.length len)) fz)) (.int (E.lit&&lit) .i64 (min J.length len:Nat)) (b::R)))
   |false=>False)
  |some U,ae (.raw cs fz tg)=>
   (match aO U.size w&&aU 0 w,Yff h w x2 with
   |true,ae (I,R)=>
    (match(bP fz (off*w)&&bP ((off+len)*w) cs.length)&&leaves I with
    |true=>k (change b (ae (.raw (Wa cs (off*w) (I.take (len*w))) fz tg)) (.int ac .i64 (min (I.length/w) len:Nat)) (b::R))
    |false=>False)
   |_,_=>False)
  |_,_=>False
 |_,_=>False
def eqFs(E:Eng Y) (q:TypeId->SV Y->SV Y->Option (Bool×Bool)) (xs J:List (SV Y)):List Field->Option (Bool×Bool)
 | []=>ae (ac,ac)
 |f::R=>
  match decide (f.name= "_"),E.ty f.type with
  |false,ae I=>
   (match Uy (Zh I.d) I.size f.offset xs,Uy (Zh I.d) I.size f.offset J with
   |some a,ae b=>(match q f.type a b,eqFs E q xs J R with|some (l,p),ae (m,r)=>ae (l&&m,p&&r)|_,_=>au)
   |_,_=>au)
  |_,_=>au
def eqIs(q:SV Y->SV Y->Option (Bool×Bool)) (isRow:Bool) (sz:Nat) (xs I:List (SV Y)):Nat->Nat->Option (Bool×Bool)
 |0,_=>ae (ac,ac)
 |n+1,j=>
  match Uy isRow sz (j*sz) xs,Uy isRow sz (j*sz) I with
  |some a,ae b=>(match q a b,eqIs q isRow sz xs I n (j+1) with|some (l,p),ae (m,r)=>ae (l&&m,p&&r)|_,_=>au)
  |_,_=>au
def eqT(E:Eng Y):Nat->TypeId->SV Y->SV Y->Option (Bool×Bool)
 |0,_,_,_=>au
 |d+1,t,x,y=>
  match E.ty t,x,y with
  |some ⟨.int _,_,_,_⟩,.int l k a,.int m U b=>(match decide (k=U) with|true=>ae (l&&m,a==b)|false=>au)
  |some ⟨.bool,_,_,_⟩,.bool l a,.bool m b=>ae (l&&m,a==b)
  |some ⟨.string,_,_,_⟩,.str l a,.str m b=>ae (l&&m,a==b)
  |some ⟨.struct R,_,_,_⟩,.agg xs,.agg I=>(match memB t E.eqs with|true=>eqFs E (eqT E d) xs I R.toList|false=>au)
  |some ⟨.array n el,_,_,_⟩,.agg xs,.agg I=>(match E.ty el with|some J=>eqIs (eqT E d el) (Zh J.d) J.size xs I n 0|none=>au)
  |_,_,_=>au
def Zr9(E:Eng Y) (op:BinOp) (t:TypeId) (x y:SV Y) (k:Res Y->Prop):Prop:=
 match x,y with
 | .agg xs,.agg I=>
  match memB t E.eqs,eqT E 100 t (.agg xs) (.agg I) with
  |true,ae (l,q)=>(match op with| .eql=>Zhy (bP 9 xs.length) l q λv=>k (quiet [] (.bool ac v))| .neq=>Zhy (bP 9 xs.length) l (!q) λv=>k (quiet [] (.bool ac v))|_=>False)
  |_,_=>False
 |x,y=>sbin E op t x y k
def Z8x(E:Eng Y) (op:BinOp) (t:TypeId) (x y:SV Y) (k:Res Y->Prop):Prop:=
 match op,x,E.ty t with
 | .eql,.psl _ l _,ae ⟨.slice _,_,_,_⟩=>l≠ []/\k (quiet [] (.bool ac ab))
 |_,_,_=>False
def Yfh(E:Eng Y) (op:BinOp) (t:TypeId) (x y:Operand) (T:Fr Y) (k:Res Y->Prop):Prop:=
 match Za2 x||Za2 y,nilV (ev T x),nilV (ev T y) with
 |true,ae p,ae q=>Z8u E op t (ev T x) (ev T y) p q k
 |true,au,ae ac=>(match y with| .const (.slice au 0 0)=>Z8x E op t (ev T x) (ev T y) k|_=>Zr9 E op t (ev T x) (ev T y) k)
 |_,_,_=>Zr9 E op t (ev T x) (ev T y) k
def Zd8(T:Fr Y) (c a b:Operand) (k:Res Y->Prop):Prop:=match ev T c with| .bool l x=>split l x (λv=>match v with|true=>k (quiet [] (ev T a))|false=>k (quiet [] (ev T b)))|_=>False
def Us(E:Eng Y) (t:TypeId) (i:Nat) (k:Res Y->Prop):Prop:=match E.ty t with|some I=>k (fresh i (.ptr i 0) (.raw (Yn I.zero:SV Y).cells 0 au) [])|none=>False
def Zh1(x:SV Y) (i:Nat) (k:Res Y->Prop):Prop:=match leaves x.cells with|true=>k (fresh i (.ptr i 0) (.raw x.cells 0 au) [])|false=>False
def Zvh(E:Eng Y) (t:TypeId) (th:Y.Th) (x:SV Y) (i:Nat) (k:Res Y->Prop):Prop:=
 match E.ty t with
 |some ⟨.array n _,_,_,_⟩=>
  match Uh E th (Ug (E.w th) n x.cells),aO x.cells.length (n*E.w th)&&leaves x.cells with
  |some l,ac=>k (fresh i (.ptr i 0) (.rows th l 0) [])
  |_,_=>False
 |_=>False
def Zo0(x:SV Y) (k:Res Y->Prop):Prop:=match x with| .ptr b o=>k (quiet [] (.ptr b o))| .fn (.func f) a b=>k (quiet [] (.fn (.func f) a b))|_=>False
def Zvi(E:Eng Y) (el:TypeId) (s:List Nat) (k:Res Y->Prop):Prop:=False
def Zg4(fl:Bool):List (SV Y)->Option (Bool×List Nat)
 | []=>ae (fl,[])
 | .int f .u8 n::r=>(match Zg4 fl r with|some (g,l)=>ae (f&&g,n.toNat%256::l)|none=>au)
 |_=>au
def Zdb(x:SV Y) (h:Hp Y) (k:Res Y->Prop):Prop:=
 match x with
 | .val (.slice au 0 0)=>k (quiet [] (.str ac []))
 | .sl b off len w _=>
  match h b with
  |some (.raw cs _ _)=>(match aO w 1&&bP (off+len) cs.length,Zg4 ac ((cs.drop off).take len) with|true,ae (f,l)=>k (quiet [b] (.str f l))|_,_=>False)
  |_=>False
 |_=>False
def Zo1(E:Eng Y) (t:TypeId):Bool:=match E.ty t with|some ⟨.slice el,_,_,_⟩=>(match E.ty el with|some ⟨.int .u8,_,_,_⟩=>ac|_=>ab)|_=>ab
def Zd9(E:Eng Y) (src I:TypeId) (x:SV Y) (h:Hp Y) (k:Res Y->Prop):Prop:=
 match E.ty src with
 |some _=>(match E.ty I,x with
  |some ⟨.slice el,_,_,_⟩,.str ac s=>Zvi E el s k
  |some ⟨.string,_,_,_⟩,.val v=>(match Zo1 E src with|true=>Zdb (.val v) h k|false=>False)
  |some ⟨.string,_,_,_⟩,.sl b off len w c=>(match Zo1 E src with|true=>Zdb (.sl b off len w c) h k|false=>False)
  |_,_=>Zb7 E I x k)
 |none=>False
def Zsa(E:Eng Y) (t:TypeId) (x:SV Y) (k:Res Y->Prop):Prop:=
 match E.ty t with
 |some i=>(match i.d with| .interface _=>False|_=>k (quiet [] (.iface t x)))
 |none=>False
def Zma(E:Eng Y) (x:SV Y) (t:TypeId) (ok:Bool) (k:Res Y->Prop):Prop:=
 match E.ty t with
 |some i=>
  (match i.d with
  | .interface _=>False
  |_=>
   (match x,ok with
   | .val .nilIface,ac=>k (quiet [] (.tup [Yn i.zero,.bool ac ab]))
   | .iface I v,ok=>(match aO I t,ok with
    |true,ac=>k (quiet [] (.tup [v,.bool ac ac]))
    |true,ab=>k (quiet [] v)
    |false,ac=>k (quiet [] (.tup [Yn i.zero,.bool ac ab]))
    |false,ab=>False)
   |_,_=>False))
 |none=>False
def Zo2(E:Eng Y) (t:TypeId) (i:Nat) (k:Res Y->Prop):Prop:=match E.ty t with|some _=>k (fresh i (.map i) (.map []) [])|none=>False
def Zmb(x:SV Y) (n:Nat) (k:Res Y->Prop):Prop:=match x with| .tup vs=>(match vs[n]? with|some v=>k (quiet [] v)|none=>False)|_=>False
def Zmc(E:Eng Y) (c:Call) (T:Fr Y) (h:Hp Y) (k:Res Y->Prop):Prop:=match c.argTypes[0]?,c.args[0]? with|some t,ae x=>slen E t (ev T x) h k|_,_=>False
def stMm(mx:Bool) (c:Call) (T:Fr Y) (k:Res Y->Prop):Prop:=match c.args.toList with|x::r=>Zfq mx (ev T x) (r.map (ev T)) k| []=>False
def Zo3(E:Eng Y) (c:Call) (T:Fr Y) (h:Hp Y) (i:Nat) (k:Res Y->Prop):Prop:=match c.args.toList,c.argTypes.toList with| [x,y],[t,I]=>(match aO t I with|true=>Zr7 E t (ev T x) (ev T y) h i k|false=>False)|_,_=>False
def Zga(E:Eng Y) (c:Call) (T:Fr Y) (h:Hp Y) (k:Res Y->Prop):Prop:=match c.args.toList,c.argTypes.toList with| [x,y],t::_=>Yfg E t (ev T x) (ev T y) h k|_,_=>False
def ex0:SV Y->Option Value
 | .int _ k n=>ae (.int k n)
 | .bool _ b=>ae (.bool b)
 | .str _ s=>ae (.string (mkS s))
 |_=>au
def exL:List (SV Y)->Option (List Value)
 | []=>ae []
 |x::r=>match ex0 x with|some u=>(match exL r with|some l=>ae (u::l)|none=>au)|none=>au
def ex1:SV Y->Option Value
 | .agg cs=>(match exL cs with|some l=>ae (.agg l.toArray)|none=>au)
 |v=>ex0 v
def Z8y(x:SV Y) (k:Res Y->Prop):Prop:=
 match x with
 | .iface t v=>(match ex1 v with|some u=>k (quiet [] (.pan (.iface t u)))|none=>False)
 |_=>False
def sv0(l:Bool):Value->SV Y
 | .int k n=> .int l k n
 | .bool b=> .bool l b
 | .string s=> .str l (toL s)
 |v=> .val v
def sv1(l:Bool):Value->SV Y
 | .agg cs=> .agg (cs.toList.map (sv0 l))
 |v=>sv0 l v
def svP(l:Bool):Value->SV Y
 | .iface t u=> .iface t (sv1 l u)
 |v=> .val v
def idxL(c:Nat):Nat->List Nat->Int
 |_,[]=> -1
 |j,x::r=>match aO x c with|true=>(j:Int)|false=>idxL c (j+1) r
def sext(x:ExtK) (args:List (SV Y)) (k:Res Y->Prop):Prop:=
 match x,args with
 | .add64,[.int l .u64 a,.int m .u64 b,.int n .u64 c]=>need (l&&m&&n) (0<=a/\0<=b/\0<=c/\c<=1)
  (k (quiet [] (.tup [.int (l&&m&&n) .u64 ((a+b+c)%18446744073709551616),.int (l&&m&&n) .u64 ((a+b+c)/18446744073709551616)])))
 | .indexByteS,[.str l s,.int m .u8 c]=>k (quiet [] (.int (l&&m) .i64 (idxL (c.toNat%256) 0 s)))
 | .same,[v]=>k (quiet [] v)
 |_,_=>False
def Zmd(E:Eng Y) (call:Nat->List (SV Y)->Hp Y->Nat->(Res Y->Prop)->Prop) (f:Operand) (c:Call) (T:Fr Y) (h:Hp Y) (i:Nat) (k:Res Y->Prop):Prop:=match ev T f with| .fn (.func f) a b=>(match E.ext f with|some x=>Zd6 (a++c.args.toList.map (ev T)++b) λl=>sext x l k|none=>call f (a++c.args.toList.map (ev T)++b) h i k)|_=>False
def Za5(E:Eng Y) (call:Nat->List (SV Y)->Hp Y->Nat->(Res Y->Prop)->Prop) (c:Call) (T:Fr Y) (h:Hp Y) (i:Nat) (k:Res Y->Prop):Prop:=
 match c.callee with
 | .builtin .len=>Zmc E c T h k
 | .builtin .min=>stMm ab c T k
 | .builtin .max=>stMm ac c T k
 | .builtin .append=>Zo3 E c T h i k
 | .builtin .copy=>Zga E c T h k
 | .builtin .panic=>(match c.args.toList with| [x]=>Z8y (ev T x) k|_=>False)
 | .builtin .delete=>Ykx E c T h k
 | .builtin .clear=>Yky E c T h k
 | .value f=>Zmd E call f c T h i k
 |_=>False
def Za6(E:Eng Y) (t:TypeId) (parts:Array (Nat×Operand)) (T:Fr Y) (k:Res Y->Prop):Prop:=Z19 E t (parts.toList.map λp=>(p.1,ev T p.2)) k
def Zsb(E:Eng Y) (t:TypeId) (i:Nat) (k:Res Y->Prop):Prop:=
 match E.ty t with
 |some ⟨.slice el,_,_,_⟩=>
  match E.ty el,Zcx E el with
  |some I,ae th=>k (fresh i (.sl i 0 0 I.size au) (.rows th [] 0) [])
  |_,_=>False
 |_=>False
def W8(E:Eng Y) (t:TypeId) (len:Nat) (parts:Array (Nat×Operand)) (T:Fr Y) (i:Nat) (k:Res Y->Prop):Prop:=match E.rowS t&&bP 8 len,(E.rowS t&&aO len 0)&&parts.toList.isEmpty with|true,_=>Za3 E t len (parts.toList.map λp=>(p.1,ev T p.2)) i k|false,ac=>Zsb E t i k|false,ab=>Zda E t len (parts.toList.map λp=>(p.1,ev T p.2)) i k
def Zgb(fn:Fn) (a b:Array Operand) (T:Fr Y) (k:Res Y->Prop):Prop:=k (quiet [] (.fn fn (a.toList.map (ev T)) (b.toList.map (ev T))))
def Za7(E:Eng Y) (t:TypeId) (x:Operand) (lo hi mx:Option Operand) (T:Fr Y) (h:Hp Y) (k:Res Y->Prop):Prop:=Z2a E t (ev T x) (lo.map (ev T)) (hi.map (ev T)) (mx.map (ev T)) h k
def step(E:Eng Y) (call:Nat->List (SV Y)->Hp Y->Nat->(Res Y->Prop)->Prop) (op:Op) (T:Fr Y) (h:Hp Y) (i:Nat) (k:Res Y->Prop):Prop:=
 match op with
 | .move x=>k (quiet [] (ev T x))
 | .assign x=>k (quiet [] (ev T x))
 | .pick c a b=>Zd8 T c a b k
 | .alloc t=>(match E.arrOf t with|some th=>Zl6 E t th i k|none=>Us E t i k)
 | .box t x=>(match E.arrOf t with|some th=>Zvh E t th (ev T x) i k|none=>Zh1 (ev T x) i k)
 | .build t parts=>Za6 E t parts T k
 | .buildSlice t len parts=>W8 E t len parts T i k
 | .load t x=>Zk3 E t (ev T x) h k
 | .store t x v=>Zr4 E t (ev T x) (ev T v) h k
 | .nilCheck x=>Zo0 (ev T x) k
 | .binOp op t x y _=>Yfh E op t x y T k
 | .unOp op _ x=>sun op (ev T x) k
 | .makeInterface t x=>Zsa E t (ev T x) k
 | .typeAssert x _ t ok=>Zma E (ev T x) t ok k
 | .convert src J x=>Zd9 E src J (ev T x) h k
 | .makeFunc fn a b=>Zgb fn a b T k
 | .fieldAddr s x f=>Vw E s (ev T x) f k
 | .field s x f=>Zk2 E s (ev T x) f k
 | .indexAddr t x I=>Wx E t (ev T x) (ev T I) h k
 | .index t x I=>Zfp E t (ev T x) (ev T I) k
 | .slice t x lo hi mx=>Za7 E t x lo hi mx T h k
 | .makeSlice t x y=>Yfe E t (ev T x) (ev T y) i k
 | .makeMap t au=>Zo2 E t i k
 | .insert t m x v=>sput E t (ev T m) (ev T x) (ev T v) h k
 | .mapUpdate t m x v=>Yfd E t (ev T m) (ev T x) (ev T v) h k
 | .lookup t m x ok=>Zl9 E t (ev T m) (ev T x) ok h k
 | .extract x n=>Zmb (ev T x) n k
 | .call c=>Za5 E call c T h i k
 | .panic x=>Z8y (ev T x) k
 |_=>False
noncomputable def Zh2(I:Hp Y):List Nat->Hp Y->(Hp Y->Prop)->Prop
 | [],h,k=>k h
 |b::r,h,k=>Wt b λb=>Zl5 (I b) λblk=>Zh2 I r (upd h b blk) k
def Zgc(I:Hp Y) (m:List Nat) (i:Nat):Nat->List Nat
 |0=>m
 |n+1=>match I i with|some _=>i::Zgc I m (i+1) n|none=>Zgc I m (i+1) n
noncomputable def Zme(r:Res Y) (h:Hp Y) (i:Nat) (ms:List Nat) (k:Hp Y->Nat->List Nat->Prop):Prop:=
 match r.n with
 |0=>(match r.mods with| []=>k h i ms|m=>Zh2 r.h m h λh=>k h i (m++ms))
 |n=>Wt (i+n) λI=>Zh2 r.h (Zgc r.h r.mods i n) h λh=>k h I (r.mods++ms)
def Za8:SV Y->Option Value
 | .pan u=>ae u
 |_=>au
noncomputable def Zo4(N:Nat) (d:Option Nat) (r:Res Y) (T:Fr Y) (h:Hp Y) (i:Nat) (ms:List Nat) (k:Fr Y->Hp Y->Nat->List Nat->Prop):Prop:=
 match d with
 |none=>Zme r h i ms λh i ms=>k T h i ms
 |some d=>
  match aU d N with
  |true=>force r.v λv=>Zme r h i ms λh i ms=>k (upd T d v) h i ms
  |false=>False
noncomputable def keep(N:Nat) (d:Option Nat) (r:Res Y) (T:Fr Y) (h:Hp Y) (i:Nat) (ms:List Nat) (k:Fr Y->Hp Y->Nat->List Nat->Prop):Prop:=
 match Za8 r.v with
 |some _=>False
 |none=>Zo4 N d r T h i ms k
noncomputable def Zmf(N:Nat) (d:Option Nat) (r:Res Y) (T:Fr Y) (h:Hp Y) (i:Nat) (ms:List Nat) (K:Exit->Fr Y->Hp Y->Nat->List Nat->Prop) (k:Fr Y->Hp Y->Nat->List Nat->Prop):Prop:=
 match Za8 r.v with
 |some u=>Zme r h i ms λh i ms=>K (.panic [{v:=u,recovered:=false}]) T h i ms
 |none=>Zo4 N d r T h i ms k
def Zh3(all:List Oper) (j:Nat):Option Nat:=match all[j]? with|some o=>o.dst|none=>au
def Z2d:Value->Bool
 | .bool _=>ac
 |_=>ab
noncomputable def rgn(E:Eng Y) (N:Nat) (call:Nat->List (SV Y)->Hp Y->Nat->(Res Y->Prop)->Prop) (all:List Oper):List Oper->Fr Y->Hp Y->Nat->List Nat->(Exit->Fr Y->Hp Y->Nat->List Nat->Prop)->Prop
 | [],T,h,i,ms,k=>k .normal T h i ms
 |o::r,T,h,i,ms,k=>
  match o.guard with
  |none=>step E call o.op T h i λI=>Zmf N o.dst I T h i ms k λT h i ms=>rgn E N call all r T h i ms k
  |some (j,b)=>
   match Zh3 all j with
   |some d=>
    match T d with
    | .bool l x=>split l x λv=>
     (match v,b with
     |true,ac=>step E call o.op (upd T d (.bool ac ac)) h i λI=>Zmf N o.dst I (upd T d (.bool ac ac)) h i ms k λT h i ms=>rgn E N call all r T h i ms k
     |false,ab=>step E call o.op (upd T d (.bool ac ab)) h i λI=>Zmf N o.dst I (upd T d (.bool ac ab)) h i ms k λT h i ms=>rgn E N call all r T h i ms k
     |v,_=>(match o.dst with|none=>rgn E N call all r (upd T d (.bool ac v)) h i ms k|some J=>rgn E N call all r (upd (upd T d (.bool ac v)) J (.val undef)) h i ms k))
    | .val u=>(match Z2d u with|true=>False|false=>(match o.dst with|none=>rgn E N call all r T h i ms k|some J=>rgn E N call all r (upd T J (.val undef)) h i ms k))
    |_=>False
   |none=>False
def waitsOf(o:Oper):List Nat:=(o.after.toList.filter (kC .any)).map (·.on)
def bitB(m j:Nat):Bool:=aO (Nat.land (Nat.shiftRight m j) 1) 1
def nthN:List Nat->Nat->Nat
 | [],_=>0
 |x::_,0=>x
 |_::r,n+1=>nthN r n
def Zc2:List Nat->List Nat->Nat
 | [],_=>0
 |j::r,I=>Nat.lor (Nat.lor (Nat.shiftLeft 1 j) (nthN I j)) (Zc2 r I)
def Xj:List Oper->List Nat->List Nat
 | [],I=>I
 |o::r,I=>Xj r (I++ [Zc2 (waitsOf o) I])
def Zgd:List Operand->List Nat
 | []=> []
 | .tmp t::r=>t::Zgd r
 |_::r=>Zgd r
def Vg(all:List Oper) (o:Oper):List Nat:=
 match o.guard with
 |none=>Zgd o.op.operands.toList
 |some (g,_)=>(match Zh3 all g with|some d=>d::Zgd o.op.operands.toList|none=>Zgd o.op.operands.toList)
def memO(d:Option Nat) (l:List Nat):Bool:=match d with|some d=>memB d l|none=>ab
def Ykz(a b:Option Nat):Bool:=match a,b with|some a,ae b=>aO a b|_,_=>ab
def Zk5(all:List Oper) (a b:Oper):Bool:= !(memO a.dst (Vg all b))&& !(memO b.dst (Vg all a))&& !(Ykz a.dst b.dst)
def Zb8(all:List Oper) (b:Oper) (m:Nat):List Oper->Nat->Bool
 | [],_=>ac
 |a::r,i=>(bitB m i||Zk5 all a b)&&Zb8 all b m r (i+1)
def Zys(j:Nat):List Nat->Bool
 | []=>ac
 |x::r=>aU x j&&Zys j r
def Zge(all:List Oper) (ms:List Nat):List Oper->Nat->Bool
 | [],_=>ac
 |b::r,j=>Zys j (waitsOf b)&&Zb8 all b (nthN ms j) (all.take j) 0&&Zge all ms r (j+1)
structure DR(Y:Thy) where
 i:Nat
 r:Res Y
def DR.new(d:DR Y) (b:Nat):Bool:=bP d.i b&&aU b (d.i+d.r.n)
def Zc3(d:DR Y):List Nat->Bool
 | []=>ac
 |x::r=> !(d.new x)&&Zc3 d r
def disj:List Nat->List Nat->Bool
 | [],_=>ac
 |x::r,l=> !(memB x l)&&disj r l
def Zyt:List Nat->Bool
 | []=>ac
 |_=>ab
def Zh4(a b:DR Y):Bool:=
 (disj a.r.mods b.r.mods&&Zc3 a b.r.mods)&&
 (match b.r.rd with|none=>Zyt a.r.mods|some l=>disj a.r.mods l&&Zc3 a l)&&
 (match a.r.rd with|none=>Zyt b.r.mods|some l=>disj b.r.mods l&&Zc3 b l)
def V0(b:DR Y):List (DR Y)->Bool
 | []=>ac
 |a::r=>Zh4 a b&&V0 b r
def X1(m:Nat):List (Nat×DR Y)->List (DR Y)
 | []=> []
 |(j,d)::r=>match bitB m j with|true=>X1 m r|false=>d::X1 m r
def Za9:List (DR Y)->List (DR Y)
 | []=> []
 |d::r=>match d.r.n with|0=>Za9 r|_=>d::Za9 r
def Zo5(b:Nat):List (DR Y)->Bool
 | []=>ab
 |d::r=>d.new b||Zo5 b r
def V1(h:Hp Y) (un:List (DR Y)):Hp Y:=
 match Za9 un with
 | []=>h
 |l=>λb=>match Zo5 b l with|true=>au|false=>h b
def Yd:List Oper->List Nat
 | []=> []
 |o::r=>match o.dst with|some d=>d::Yd r|none=>Yd r
def Vh:List Nat->Fr Y->Fr Y
 | [],T=>T
 |d::r,T=>upd (Vh r T) d .unk
def noG:List Oper->Bool
 | []=>ac
 |o::r=>o.guard.isNone&&noG r
def Zko:List (Nat×DR Y)->Bool
 | []=>ac
 |p::r=>(match p.2.r.n with|0=>Zyt p.2.r.mods|_=>ab)&&Zko r
def Yfi(N:Nat):Option Nat->Bool
 |none=>ac
 |some d=>aU d N
noncomputable def rgnX(E:Eng Y) (N:Nat) (call:Nat->List (SV Y)->Hp Y->Nat->(Res Y->Prop)->Prop) (R:List Nat) (J:Nat):List Oper->Nat->Fr Y->Hp Y->Nat->Prop->Prop
 | [],_,_,_,_,K=>K
 |o::r,j,T,h,i,K=>
  match bitB (nthN R j) J with
  |true=>rgnX E N call R J r (j+1) (updO T o.dst .unk) h i K
  |false=>step E call o.op T h i λI=>
   (match I.n,Zyt I.mods&&Yfi N o.dst,Za8 I.v with
   |0,ac,au=>force I.v λv=>rgnX E N call R J r (j+1) (updO T o.dst v) h i K
   |_,_,_=>False)
def Wy(N:Nat) (d:Option Nat):SV Y:=match Yfi N d with|true=> .val undef|false=> .unk
noncomputable def rgnD(E:Eng Y) (N:Nat) (call:Nat->List (SV Y)->Hp Y->Nat->(Res Y->Prop)->Prop) (all:List Oper) (I:List Nat):List Oper->Nat->Fr Y->Hp Y->Nat->List Nat->List (Nat×DR Y)->(Exit->Fr Y->Hp Y->Nat->List Nat->Prop)->Prop
 | [],_,T,h,i,ms,_,k=>k .normal T h i ms
 |o::r,j,T,h,i,ms,prev,k=>
  match o.guard with
  |none=>step E call o.op T (V1 h (X1 (nthN I j) prev)) i λJ=>
   (match Za8 J.v with
   |some u=>(match noG all&&Zko prev with
    |true=>rgnX E N call I j r (j+1) (updO T o.dst .unk) h i (Zme J h i ms λh i ms=>k (.panic [{v:=u,recovered:=false}]) (Vh (Yd all) T) h i ms)
    |false=>False)
   |none=>(match V0 ⟨i,J⟩ (X1 (nthN I j) prev) with
    |true=>keep N o.dst J T h i ms λT h R ms=>rgnD E N call all I r (j+1) T h R ms ((j,⟨i,J⟩)::prev) k
    |false=>False))
  |some (g,b)=>
   match Zh3 all g with
   |some d=>
    match T d with
    | .bool l x=>split l x λv=>
     (match v==b with
     |true=>step E call o.op (upd T d (.bool ac v)) (V1 h (X1 (nthN I j) prev)) i λJ=>
      (match V0 ⟨i,J⟩ (X1 (nthN I j) prev) with
      |true=>keep N o.dst J (upd T d (.bool ac v)) h i ms λT h R ms=>rgnD E N call all I r (j+1) T h R ms ((j,⟨i,J⟩)::prev) k
      |false=>False)
     |false=>rgnD E N call all I r (j+1) (updO (upd T d (.bool ac v)) o.dst (Wy N o.dst)) h i ms ((j,⟨i,quiet [] (Wy N o.dst)⟩)::prev) k)
    | .val u=>(match Z2d u with|true=>False|false=>rgnD E N call all I r (j+1) (updO T o.dst (Wy N o.dst)) h i ms ((j,⟨i,quiet [] (Wy N o.dst)⟩)::prev) k)
    |_=>False
   |none=>False
abbrev Sum(Y:Thy):=List (SV Y)->Hp Y->Nat->(Res Y->Prop)->Prop
abbrev Kont(Y:Thy):=Exit->Fr Y->Hp Y->Nat->List Nat->Prop
structure Fns(Y:Thy) where
 sums:Nat->Option (Sum Y)
 fns:Nat->Option Func
 loops:Nat->Nat->Option ((Fr Y->Hp Y->Nat->List Nat->Kont Y->Prop)->Fr Y->Hp Y->Nat->List Nat->Kont Y->Prop)
 defs:Nat->Bool:=λ_=>ab
 dfl:Nat:=1000
def nthD:List (SV Y)->Nat->SV Y
 | [],_=> .unk
 |x::_,0=>x
 |_::r,n+1=>nthD r n
def Z2e(E:Eng Y) (J:TyI) (off:Nat) (th:Y.Th) (l:List (Y.dom th)):Option (SV Y):=
 match J,off with
 |⟨.array n el,sz,_,_⟩,0=>
  match E.ty el with
  |some I=>
   match E.dec th (Yn I.zero:SV Y).cells,aO sz (n*E.w th) with
   |some d0,ac=>ae (.agg (Uf E th l d0 n 0))
   |_,_=>au
  |none=>au
 |_,_=>au
def Zmg(E:Eng Y) (T:Fr Y) (h:Hp Y):ResultVar->Option (SV Y)
 | .tmp t=>ae (T t)
 | .cell a t=>
  match E.ty t,T a with
  |some I,.ptr b off=>(match h b with|some (.raw cs _ _)=>Uy (Zh I.d) I.size off cs|some (.rows th l _)=>Z2e E I off th l|_=>au)
  |_,_=>au
def resN(E:Eng Y) (T:Fr Y) (h:Hp Y):List ResultVar->Prop->Prop
 | [],p=>p
 | .tmp _::rs,p=>resN E T h rs p
 | .cell a t::rs,p=>
  match E.ty t,T a with
  |some ⟨.array n _,_,_,_⟩,.ptr b _=>(match h b with|some (.rows _ l _)=>l.length=n/\resN E T h rs p|_=>resN E T h rs p)
  |_,_=>resN E T h rs p
def Uz(E:Eng Y) (T:Fr Y) (h:Hp Y):List ResultVar->Option (List (SV Y))
 | []=>ae []
 |r::rs=>(match Zmg E T h r,Uz E T h rs with|some v,ae vs=>ae (v::vs)|_,_=>au)
def Zea:List (SV Y)->SV Y
 | [v]=>v
 |vs=> .tup vs
def Zg5:Code->Option Nat
 | .region id _ _=>ae id
 | .seq a _=>Zg5 a
 | .block _ b=>Zg5 b
 | .loop b=>Zg5 b
 |_=>au
abbrev Zk6(Y:Thy):=Fr Y->Hp Y->Nat->List Nat->Kont Y->Prop
def lpOf(F:Fns Y) (f:Nat) (b:Code):Option (Zk6 Y->Zk6 Y):=match Zg5 b with|some j=>F.loops f j|none=>au
def Z7(i:Nat):List Nat->List Nat
 | []=> []
 |b::r=>match aU b i&& !(memB b (Z7 i r)) with|true=>b::Z7 i r|false=>Z7 i r
def Zyu(h:Hp Y) (m:List Nat):Hp Y:=λb=>match memB b m with|true=>h b|false=>au
noncomputable def finF(E:Eng Y) (fn:Func) (i:Nat) (k:Res Y->Prop) (J:Fr Y) (I:Hp Y) (R:Nat) (ms:List Nat):Prop:=
 resN E J I fn.results.toList (match Uz E J I fn.results.toList with|some vs=>Zd6 vs λvs=>Uq (Z7 i ms) λms=>Uq (Zyp I i 100000 (idsL vs++idsM I ms) ms) λl=>Wt (R-i) λn=>k ⟨Zea vs,n,ms,Zyu I l,au⟩|none=>False)
noncomputable def finP(i:Nat) (k:Res Y->Prop) (u:Value) (I:Hp Y) (J:Nat) (ms:List Nat):Prop:=
 Uq (Z7 i ms) λms=>Uq (Zyp I i 100000 (idsM I ms) ms) λl=>Wt (J-i) λn=>k ⟨.pan u,n,ms,Zyu I l,au⟩
def Zyv:List PanicEntry->Option Value
 | [⟨u,ab,ab⟩]=>ae u
 |_=>au
noncomputable def Zba(E:Eng Y) (F:Fns Y) (U:Nat->Nat->Code->Fr Y->Hp Y->Nat->List Nat->Kont Y->Prop):Nat->List (SV Y)->Hp Y->Nat->(Res Y->Prop)->Prop:=λf args h i k=>
 match F.sums f with
 |some S=>Zd6 args λargs=>S args h i k
 |none=>
  match F.fns f with
  |some fn=>
   match fn.body with
   |some c=>match bP args.length fn.ntmps with|false=>False|true=>Zd6 args λargs=>U f fn.ntmps c (nthD args) h i [] λe T I J ms=>
    (match e with
    | .normal| .ret=>finF E fn i k T I J ms
    | .panic R=>(match Zyv R with|some u=>finP i k u I J ms|none=>False)
    |_=>False)
   |none=>False
  |none=>False
def Zh5:List Oper->Option (List Oper×Oper)
 | []=>au
 |o::r=>
  match r with
  | []=>(match o.op,o.guard,o.dst with| .defer _,au,au=>ae ([],o)|_,_,_=>au)
  |_::_=>(match Zh5 r with|some (l,d)=>ae (o::l,d)|none=>au)
def Zeb:Code->Bool
 | .region _ ops ab=>(Zh5 ops.toList).isSome
 | .seq a b=>Zeb a||Zeb b
 | .block _ b=>Zeb b
 | .loop b=>Zeb b
 |_=>ab
def Zvj(o:Oper) (T:Fr Y):Option (Nat×List (SV Y)):=
 match o.op with
 | .defer c=>(match c.callee with| .value f=>(match ev T f with| .fn (.func g) a b=>ae (g,a++c.args.toList.map (ev T)++b)|_=>au)|_=>au)
 |_=>au
abbrev Dfr(Y:Thy):=Nat×List (SV Y)
abbrev Yoh(Y:Thy):=Exit->List (Dfr Y)->Fr Y->Hp Y->Nat->List Nat->Prop
abbrev RecD(Y:Thy):=Code->List (Dfr Y)->Fr Y->Hp Y->Nat->List Nat->Yoh Y->Prop
noncomputable def vcDB(E:Eng Y) (call:Nat->List (SV Y)->Hp Y->Nat->(Res Y->Prop)->Prop) (R:Nat->Nat->Code->Fr Y->Hp Y->Nat->List Nat->Kont Y->Prop) (f N:Nat) (J:RecD Y):RecD Y:=λc I T h i ms K=>
 match Zeb c with
 |false=>R f N c T h i ms λe T h i ms=>K e I T h i ms
 |true=>
  (match c with
  | .region _ ops ab=>
   (match Zh5 ops.toList with
   |some (l,o)=>rgn E N call ops.toList l T h i ms λe T h i ms=>(match e with| .normal=>(match Zvj o T with|some p=>Zd6 p.2 λq=>K .normal ((p.1,q)::I) T h i ms|none=>False)|_=>False)
   |none=>False)
  | .seq a b=>J a I T h i ms λe I T h i ms=>(match e with| .normal=>J b I T h i ms K|e=>K e I T h i ms)
  | .block id b=>J b I T h i ms λe I T h i ms=>(match e with| .exit j=>(match aO j id with|true=>K .normal I T h i ms|false=>K (.exit j) I T h i ms)|e=>K e I T h i ms)
  | .loop b=>J b I T h i ms λe I T h i ms=>(match e with| .normal=>J (.loop b) I T h i ms K|e=>K e I T h i ms)
  |_=>False)
noncomputable def vcD(E:Eng Y) (call:Nat->List (SV Y)->Hp Y->Nat->(Res Y->Prop)->Prop) (J:Nat->Nat->Code->Fr Y->Hp Y->Nat->List Nat->Kont Y->Prop) (f N:Nat) (n:Nat):RecD Y:=
 Nat.rec (λ_ _ _ _ _ _ _=>False) (λ_ I=>vcDB E call J f N I) n
def Z8z(o:Oper):Bool:=match o.op,o.guard with| .call ⟨.builtin .recover,⟨[]⟩,_⟩,au=>ac|_,_=>ab
def Ydq:Code->Bool
 | .region _ ops ab=>(match ops.toList with|o::_=>Z8z o| []=>ab)
 | .seq a _=>Ydq a
 |_=>ab
noncomputable def vcS(E:Eng Y) (J:SV Y) (call:Nat->List (SV Y)->Hp Y->Nat->(Res Y->Prop)->Prop) (I:Nat->Nat->Code->Fr Y->Hp Y->Nat->List Nat->Kont Y->Prop) (f N:Nat):Code->Fr Y->Hp Y->Nat->List Nat->Kont Y->Prop
 | .region _ ops ab,T,h,i,ms,K=>
  (match ops.toList with
  |o::l=>(match Z8z o,o.dst with
   |true,ae d=>(match aU d N with|true=>rgn E N call ops.toList l (upd T d J) h i ms (λe T h i ms=>match e with| .normal=>K .normal T h i ms|_=>False)|false=>False)
   |_,_=>False)
  | []=>False)
 | .seq a b,T,h,i,ms,K=>vcS E J call I f N a T h i ms λe T h i ms=>(match e with| .normal=>I f N b T h i ms K|e=>K e T h i ms)
 |_,_,_,_,_,_=>False
def rvOf(E:Eng Y):Option Value->SV Y
 |none=> .val .nilIface
 |some u=>svP E.lit u
noncomputable def Zyw(E:Eng Y) (F:Fns Y) (pm:Option Value) (call:Nat->List (SV Y)->Hp Y->Nat->(Res Y->Prop)->Prop) (R:Nat->Nat->Code->Fr Y->Hp Y->Nat->List Nat->Kont Y->Prop) (f:Nat) (args:List (SV Y)) (h:Hp Y) (i:Nat) (k:Res Y->Prop):Prop:=
 match F.fns f with
 |some fn=>
  match fn.body with
  |some c=>
   match bP args.length fn.ntmps with
   |false=>False
   |true=>
    match Ydq c with
    |true=>vcS E (rvOf E pm) call R f fn.ntmps c (nthD args) h i [] λe T I J ms=>(match e with| .normal| .ret=>finF E fn i k T I J ms|_=>False)
    |false=>(match pm with|none=>R f fn.ntmps c (nthD args) h i [] λe T I J ms=>(match e with| .normal| .ret=>finF E fn i k T I J ms|_=>False)|some _=>False)
  |none=>False
 |none=>False
noncomputable def Zvk(E:Eng Y) (F:Fns Y) (call:Nat->List (SV Y)->Hp Y->Nat->(Res Y->Prop)->Prop) (I:Nat->Nat->Code->Fr Y->Hp Y->Nat->List Nat->Kont Y->Prop):List (Dfr Y)->Hp Y->Nat->List Nat->(Hp Y->Nat->List Nat->Prop)->Prop
 | [],h,i,ms,K=>K h i ms
 |p::J,h,i,ms,K=>Zyw E F au call I p.1 p.2 h i λr=>Zme r h i ms λh i ms=>Zvk E F call I J h i ms K
noncomputable def Zk(E:Eng Y) (F:Fns Y) (R:Nat->Nat->Code->Fr Y->Hp Y->Nat->List Nat->Kont Y->Prop):Nat->List (SV Y)->Hp Y->Nat->(Res Y->Prop)->Prop:=λf args h i k=>
 match F.defs f with
 |false=>Zba E F R f args h i k
 |true=>
  match F.fns f with
  |some fn=>
   match fn.body with
   |some c=>match bP args.length fn.ntmps with|false=>False|true=>Zd6 args λargs=>vcD E (Zba E F R) R f fn.ntmps F.dfl c [] (nthD args) h i [] λe dl T I J ms=>
    (match e with
    | .normal| .ret=>Zvk E F (Zba E F R) R dl I J ms λI J ms=>finF E fn i k T I J ms
    | .panic U=>(match Zyv U with
     |some u=>(match dl with
      | []=>finP i k u I J ms
      | [p]=>Zyw E F (ae u) (Zba E F R) R p.1 p.2 I J λr=>Zme r I J ms λI J ms=>finF E fn i k T I J ms
      |_=>False)
     |none=>False)
    |_=>False)
   |none=>False
  |none=>False
abbrev Rec(Y:Thy):=Nat->Nat->Code->Fr Y->Hp Y->Nat->List Nat->Kont Y->Prop
def Ydr:Callee->Bool
 | .builtin .len=>ac
 | .builtin .min=>ac
 | .builtin .max=>ac
 |_=>ab
def Zh6:Op->Bool
 | .move _=>ac
 | .pick _ _ _=>ac
 | .load _ _=>ac
 | .binOp _ _ _ _ _=>ac
 | .unOp _ _ _=>ac
 | .convert _ _ _=>ac
 | .fieldAddr _ _ _=>ac
 | .field _ _ _=>ac
 | .indexAddr _ _ _=>ac
 | .index _ _ _=>ac
 | .extract _ _=>ac
 | .call c=>Ydr c.callee
 |_=>ab
def Yk0(x:Operand) (d:Nat):Bool:=match x with| .tmp t=>aO t d|_=>ab
def Z80(d:Nat):List Oper->Option (List Nat)
 | []=>ae []
 |o::r=>
  match o.guard,o.op,o.dst,Z80 d r with
  |none,.assign x,ae I,ae l=>(match Yk0 x d with|true=>ae (I::l)|false=>au)
  |none,.move x,ae I,ae l=>(match Yk0 x d with|true=>ae (I::l)|false=>au)
  |_,_,_,_=>au
def Zmh(o:Oper) (r:List Oper):Option (Nat×List Nat):=
 match o.op,o.guard,o.dst with
 | .pick _ _ _,au,ae d=>(match Z80 d r with|some l=>ae (d,l)|none=>au)
 |_,_,_=>au
def Z2f:List Oper->Bool->Option (Nat×List Nat)
 | [],_=>au
 |o::r,g=>
  match Zh6 o.op with
  |true=>(match g,Zmh o r with|true,ae p=>ae p|_,_=>Z2f r (g||o.guard.isSome))
  |false=>au
def Zo6(b:Bool):List Nat->Fr Y->Fr Y
 | [],T=>T
 |d::r,T=>upd (Zo6 b r T) d (.bool ac b)
def Z2g(T:Fr Y) (b:Bool):List Nat->Prop
 | []=>True
 |d::r=>(match T d with| .bool _ I=>I=b|_=>False)/\Z2g T b r
def Z2h(d:Nat) (l:List Nat) (Q:Bool->Prop) (T:Fr Y):Prop:=match l with| []=>(match T d with| .bool _ b=>Q b|_=>False)|l=>(match T d with| .bool _ b=>Z2g T b l/\Q b|_=>False)
inductive MK(Y:Thy) where
 |mk
 |val (rd:List Nat) (v:SV Y)
 |ins (key:Value) (v:SV Y)
 |out
def esOf:List (MK Y)->List (Value×SV Y)
 | []=> []
 | .ins key v::r=>(key,v)::esOf r
 |_::r=>esOf r
def getO{α:Type}:List α->Nat->Option α
 | [],_=>au
 |x::_,0=>ae x
 |_::r,n+1=>getO r n
def Zkp(all:List Oper) (cs:List (MK Y)) (d:Nat):List Nat->Option (MK Y)
 | []=>au
 |k::r=>match getO all k,getO cs k with
  |some o,ae c=>(match o.dst with|some I=>(match aO I d with|true=>ae c|false=>Zkp all cs d r)|none=>Zkp all cs d r)
  |_,_=>Zkp all cs d r
def Yfj:Option (MK Y)->Bool
 |some .mk=>ac
 |_=>ab
def Zvl:Option (MK Y)->Bool
 |some .mk=>ac
 |some .out=>ac
 |_=>ab
noncomputable def Zk7(E:Eng Y) (call:Nat->List (SV Y)->Hp Y->Nat->(Res Y->Prop)->Prop) (J:Fr Y) (h:Hp Y) (i:Nat) (o:Oper) (k:MK Y->Prop):Prop:=
 match o.dst with
 |some _=>step E call o.op J h i λI=>
  (match I.n,I.mods,I.rd with
  |0,[],ae rd=>(match memB i rd with|false=>(match Za8 I.v with|none=>force I.v λv=>k (.val rd v)|some _=>False)|true=>False)
  |_,_,_=>False)
 |none=>False
noncomputable def Zgu(E:Eng Y) (call:Nat->List (SV Y)->Hp Y->Nat->(Res Y->Prop)->Prop) (all:List Oper) (t:TypeId) (I:Fr Y) (h:Hp Y) (i:Nat):List Oper->List (MK Y)->(List (MK Y)->Prop)->Prop
 | [],cs,k=>k cs
 |o::r,cs,k=>
  match o.op,o.dst with
  | .insert J (.tmp m) (.const key) (.tmp d),au=>
   (match aO J t&&Yfj (Zkp all cs m (waitsOf o)),Zkp all cs d (waitsOf o) with
   |true,ae (.val _ v)=>Zgu E call all t I h i r (cs++ [.ins key v]) k
   |_,_=>False)
  | .move (.tmp x),ae _=>(match Zvl (Zkp all cs x (waitsOf o)) with|true=>Zgu E call all t I h i r (cs++ [.out]) k|false=>Zk7 E call I h i o λc=>Zgu E call all t I h i r (cs++ [c]) k)
  | .assign (.tmp x),ae _=>(match Zvl (Zkp all cs x (waitsOf o)) with|true=>Zgu E call all t I h i r (cs++ [.out]) k|false=>Zk7 E call I h i o λc=>Zgu E call all t I h i r (cs++ [c]) k)
  |_,_=>Zk7 E call I h i o λc=>Zgu E call all t I h i r (cs++ [c]) k
def Z81:List Oper->Nat->Bool
 | [],_=>ac
 |o::r,k=>Zys k (waitsOf o)&&o.guard.isNone&&Z81 r (k+1)
def Zo7(N:Nat):List Oper->List Nat->Bool
 | [],_=>ac
 |o::r,seen=>match o.dst with|some d=>aU d N&& !(memB d seen)&&Zo7 N r (d::seen)|none=>Zo7 N r seen
def memI(n:Int):List Int->Bool
 | []=>ab
 |x::r=>match decide (n=x) with|true=>ac|false=>memI n r
def Zdc(kd:IntKind) (i:Nat):List (MK Y)->List Int->Bool
 | [],_=>ac
 | .ins (.int I n) v::r,seen=>decide (I=kd)&& !(memI n seen)&&nid i v&&Zdc kd i r (n::seen)
 | .ins _ _::_,_=>ab
 |_::r,seen=>Zdc kd i r seen
def Zmi(E:Eng Y):List Oper->Option (TypeId×IntKind)
 |o::_=>(match o.op,o.dst with
  | .makeMap t au,ae _=>(match E.ty t with
   |some ⟨.map I _,_,_,_⟩=>(match E.ty I with|some ⟨.int kd,_,_,_⟩=>ae (t,kd)|_=>au)
   |_=>au)
  |_,_=>au)
 | []=>au
def Z82{α:Type}:List α->Option α
 | []=>au
 | [x]=>ae x
 |_::r=>Z82 r
noncomputable def Yfk(E:Eng Y) (call:Nat->List (SV Y)->Hp Y->Nat->(Res Y->Prop)->Prop) (N:Nat) (ops:List Oper) (t:TypeId) (kd:IntKind) (T:Fr Y) (h:Hp Y) (i:Nat) (ms:List Nat) (K:Fr Y->Hp Y->Nat->List Nat->Prop):Prop:=
 match Z81 ops 0&&Zo7 N ops [],Z82 ops with
 |true,ae ol=>Zgu E call ops t (Vh (Yd ops) T) h i ops.tail [.mk] λcs=>
  (match Zdc kd i cs [],Z82 cs,ol.dst with
  |true,ae .out,ae dl=>Wt (i+1) λI=>K (upd (Vh (Yd ops) T) dl (.pmap (esOf cs))) h I ms
  |_,_,_=>False)
 |_,_=>False
noncomputable def Zsc(E:Eng Y) (F:Fns Y) (I:Rec Y) (N:Nat) (ops:List Oper) (R:Bool) (T:Fr Y) (h:Hp Y) (i:Nat) (ms:List Nat) (K:Kont Y):Prop:=
 match R with
 |false=>
  (match E.lit,Z2f ops ab with
  |false,ae (d,[])=>∃Q:Bool->Prop,rgn E N (Zk E F I) ops ops T h i ms (λe J _ _ _=>match e with| .normal=>Z2h d [] Q J|_=>False)/\
   (Q ac->K .normal (Zo6 ac [d] (Vh (Yd ops) T)) h i ms)/\(Q ab->K .normal (Zo6 ab [d] (Vh (Yd ops) T)) h i ms)
  |_,_=>rgn E N (Zk E F I) ops ops T h i ms K)
 |true=>(match Zmi E ops with
  |some (t,kd)=>Yfk E (Zk E F I) N ops t kd T h i ms (K .normal)
  |none=>(match Zge ops (Xj ops []) ops 0 with|true=>rgnD E N (Zk E F I) ops (Xj ops []) ops 0 T h i ms [] K|false=>False))
def Zsd(I:Rec Y) (f N:Nat) (a b:Code) (T:Fr Y) (h:Hp Y) (i:Nat) (ms:List Nat) (K:Kont Y):Prop:=
 I f N a T h i ms λe T h i ms=>(match e with| .normal=>I f N b T h i ms K|e=>K e T h i ms)
def Zh7(I:Rec Y) (f N:Nat) (x:Operand) (a b:Code) (T:Fr Y) (h:Hp Y) (i:Nat) (ms:List Nat) (K:Kont Y):Prop:=
 match ev T x with| .bool l v=>split l v (λv=>match v with|true=>I f N a T h i ms K|false=>I f N b T h i ms K)|_=>False
def Zdd(I:Rec Y) (f N id:Nat) (b:Code) (T:Fr Y) (h:Hp Y) (i:Nat) (ms:List Nat) (K:Kont Y):Prop:=
 I f N b T h i ms λe T h i ms=>(match e with| .exit j=>(match aO j id with|true=>K .normal T h i ms|false=>K (.exit j) T h i ms)|e=>K e T h i ms)
def Z2i(I:Rec Y) (f N:Nat) (b:Code) (T:Fr Y) (h:Hp Y) (i:Nat) (ms:List Nat) (K:Kont Y):Prop:=
 I f N b T h i ms λe T h i ms=>(match e with| .goto _=>False|e=>K e T h i ms)
def Zh8(F:Fns Y) (I:Rec Y) (f N:Nat) (b:Code) (T:Fr Y) (h:Hp Y) (i:Nat) (ms:List Nat) (K:Kont Y):Prop:=
 match lpOf F f b with
 |some L=>L (I f N b) T h i ms K
 |none=>I f N b T h i ms λe T h i ms=>(match e with| .normal=>I f N (.loop b) T h i ms K|e=>K e T h i ms)
noncomputable def vcB(E:Eng Y) (F:Fns Y) (I:Rec Y):Rec Y:=λf N c T h i ms K=>
 match c with
 | .skip=>K .normal T h i ms
 | .region _ ops J=>Zsc E F I N ops.toList J T h i ms K
 | .seq a b=>Zsd I f N a b T h i ms K
 | .cond x a b=>Zh7 I f N x a b T h i ms K
 | .block id b=>Zdd I f N id b T h i ms K
 | .loop b=>Zh8 F I f N b T h i ms K
 | .exit id=>K (.exit id) T h i ms
 | .ret=>K .ret T h i ms
 | .label _=>K .normal T h i ms
 | .scope b=>Z2i I f N b T h i ms K
 |_=>False
noncomputable def vc(E:Eng Y) (F:Fns Y) (n:Nat):Nat->Nat->Code->Fr Y->Hp Y->Nat->List Nat->Kont Y->Prop:=
 Nat.rec (λ_ _ _ _ _ _ _ _=>False) (λ_ I=>vcB E F I) n
end
end
section
open Go.RowKit
structure GH where
 cell:Nat->Nat->Option Value
 obj:Nat->Option (Array MapEntry)
structure GH.le(g g':GH):Prop where
 c:∀r o v,g.cell r o=ae v->g'.cell r o=ae v
 m:∀r es,g.obj r=ae es->g'.obj r=ae es
theorem GH.le.refl(g:GH):g.le g:=⟨λ_ _ _ h=>h,λ_ _ h=>h⟩
theorem GH.le.trans{a b c:GH} (h:a.le b) (k:b.le c):a.le c:=⟨λr o v x=>k.c r o v (h.c r o v x),λr I x=>k.m r I (h.m r I x)⟩
abbrev Pl:=Nat->Option (Nat×Nat)
def Pl.le(σ σ':Pl):Prop:=∀b p,σ b=ae p->σ' b=ae p
theorem Pl.le.refl(σ:Pl):Pl.le σ σ:=λ_ _ h=>h
theorem Pl.le.trans{a b c:Pl} (h:Pl.le a b) (k:Pl.le b c):Pl.le a c:=λx p e=>k x p (h x p e)
section
variable {Y:Thy}
theorem Zdw(b:ByteArray):(toL b).length=b.size:=by
 show(b.data.toList.map db).length=b.data.size;rw[List.length_map,eY]
theorem Zn6{a b:ByteArray} (h:toL a=toL b):a=b:=by
 apply ByteArray.ext;have key:∀l l':List UInt8,l.map db=l'.map db->l=l':=by
  intro l
  induction l with
  |nil=>intro l' h;cases l' with|nil=>rfl|cons y r=>simp at h
  |cons x r I=>
   intro l' h;cases l' with
   |nil=>simp at h
   |cons y r'=>
    simp only[bQ,List.cons.injEq] at h;rw[I r' h.2,iA.1 h.1]
 have:=key _ _ h;cases a;cases b
 simpa using this
theorem Zdx(b:ByteArray):mkS (toL b)=b:=by
 cases b with
 |mk d=>
  simp only[mkS,toL,List.map_map];have:(gq ∘ db)=id:=by funext x;simp
  rw[this,List.map_id]
theorem Z03(a b:ByteArray):toL (a++b)=toL a++toL b:=by
 simp only[toL,ByteArray.data_append,Array.toList_append,List.map_append]
theorem Zuw(s:ByteArray) (a b:Nat):toL (s.extract a b)=((toL s).take b).drop a:=by
 simp only[toL,ByteArray.data_extract,Array.toList_extract,List.extract_eq_take_drop,List.map_take,List.map_drop];rw[List.drop_take]
theorem Yj5(s:ByteArray) (n:Nat) (y:Nat) (h:(toL s)[n]? =ae y):∃x,s[n]? =ae x/\x.toNat=y:=by
 simp only[toL,bv] at h;obtain⟨x,I,R⟩:=br.1 h;refine⟨x,?_,R⟩;have J:n<s.data.toList.length:=(ai.1 I).1;have U:n<s.size:=by rw[eY] at J;exact J
 rw[getElem?_pos s n U];rw[ao J] at I;rw[<-bd I];rfl
theorem Zj8(a b:ByteArray):(toL a==toL b)=(a==b):=by
 have J:(a==b)=(a.data==b.data):=rfl;rw[J];by_cases h:a=b
 ·subst h;simp
 ·have I:toL a≠toL b:=λe=>h (Zn6 e)
  have R:a.data≠b.data:=λe=>h (ByteArray.ext e);rw[fV.2 I,fV.2 R]
theorem Yc7(a b:ByteArray):Zoz (toL a) (toL b)=dY a.toList b.toList:=by
 have key:∀l l':List UInt8,Zoz (l.map db) (l'.map db)=dY l l':=by
  intro l
  induction l with
  |nil=>intro l';cases l'<;>rfl
  |cons x r U=>
   intro l';cases l' with
   |nil=>rfl
   |cons y r'=>
    simp only[bQ,Zoz,dY];rw[U r'];have J:aU x.toNat y.toNat=decide (x<y):=by
     simp only[dQ];rw[aU];by_cases h:x.toNat<y.toNat
     ·rw[jq h,bu];exact h
     ·rw[jI h,<-bg,bu];exact h
    have R:aO x.toNat y.toNat=(x==y):=by
     by_cases h:x=y
     ·subst h;simp
     ·rw[fV.2 h,<-bg,fp]
      exactλe=>h (iA.1 e)
    rw[J,R];cases decide (x<y)<;>cases(x==y)<;>rfl
 have I:∀a:ByteArray,a.toList=a.data.toList:=gK;rw[I,I,toL,toL,key]
def KeyIs(q:Option IntKind) (k:Value):Prop:=match q with|some kd=>∃b,k= .int kd b|none=>∃s,k= .string s
inductive Den(E:Eng Y) (σ:Pl) (g:GH):SV Y->Value->Prop
 |unk (v):Den E σ g .unk v
 |val (v):Den E σ g (.val v) v
 |int (l k n):Den E σ g (.int l k n) (.int k n)
 |bool (l b):Den E σ g (.bool l b) (.bool b)
 |str (l:Bool) {s:List Nat} {b:ByteArray} (h:toL b=s):Den E σ g (.str l s) (.string b)
 |ptr {b off r z:Nat} (h:σ b=ae (r,z)):Den E σ g (.ptr b off) (.pointer (ae ⟨r,off,au⟩))
 |eptr {b i w off r z:Nat} (h:σ b=ae (r,z)):Den E σ g (.eptr b i w off) (.pointer (ae ⟨r,i*w+off,au⟩))
 |pptr {th:Y.Th} {x:Y.dom th} {off r o:Nat} (c:Nat->Value) (hc:∀j,j<(E.enc th x).length->g.cell r (o+j)=ae (c j))
  (hd:∀j sv,(E.enc th x)[j]? =ae sv->Den E σ g sv (c j)):Den E σ g (.pptr th x off) (.pointer (ae ⟨r,o+off,au⟩))
 |sl {b off len w c r z:Nat} {cap:Option Nat} (h:σ b=ae (r,z)) (hz:(off+c)*w<=z) (hl:len<=c) (hm:c<=maxLen) (hc:∀m,cap=ae m->c=m):
  Den E σ g (.sl b off len w cap) (.slice (ae ⟨r,off*w,au⟩) len c)
 |psl {th:Y.Th} {l:List (Y.dom th)} {full:Bool} {base:Option Addr} {c:Nat} (cv:Nat->Nat->Value) (hl:l.length<=c) (hm:c<=maxLen) (hf:full=ac->c=l.length) (hn:base=au->c=0)
  (hb:0<l.length->∃r o,base=ae ⟨r,o,au⟩/\∀i x,l[i]? =ae x->∀j,j<(E.enc th x).length->g.cell r (o+i*E.w th+j)=ae (cv i j))
  (hd:∀i x,l[i]? =ae x->∀j sv,(E.enc th x)[j]? =ae sv->Den E σ g sv (cv i j)):Den E σ g (.psl th l full) (.slice base l.length c)
 |agg {cs:List (SV Y)} {arr:Array Value} (c:Nat->Value) (hs:arr.size=cs.length) (hc:∀j,j<cs.length->arr[j]? =ae (c j)) (hd:∀j sv,cs[j]? =ae sv->Den E σ g sv (c j)):Den E σ g (.agg cs) (.agg arr)
 |tup {cs:List (SV Y)} {arr:Array Value} (c:Nat->Value) (hs:arr.size=cs.length) (hc:∀j,j<cs.length->arr[j]? =ae (c j)) (hd:∀j sv,cs[j]? =ae sv->Den E σ g sv (c j)):Den E σ g (.tup cs) (.tuple arr)
 |fn {f:Fn} {a b:List (SV Y)} {va vb:Array Value} (ca cb:Nat->Value) (hsa:va.size=a.length) (hca:∀j,j<a.length->va[j]? =ae (ca j)) (hda:∀j sv,a[j]? =ae sv->Den E σ g sv (ca j))
  (hsb:vb.size=b.length) (hcb:∀j,j<b.length->vb[j]? =ae (cb j)) (hdb:∀j sv,b[j]? =ae sv->Den E σ g sv (cb j)):Den E σ g (.fn f a b) (.func f va vb)
 |map {b r z:Nat} (h:σ b=ae (r,z)):Den E σ g (.map b) (.map (ae r))
 |pmap {es:List (Value×SV Y)} {r:Nat} {ents:Array MapEntry} (c:Nat->Value) (q:Option IntKind) (hg:g.obj r=ae ents) (hq:∀(j:Nat) (k:Value) (sv:SV Y),es[j]? =ae (k,sv)->KeyIs q k)
  (hn:∀(j j':Nat) (k:Value) (sv sv':SV Y),es[j]? =ae (k,sv)->es[j']? =ae (k,sv')->j=j') (h1:∀e∈ents.toList,∃(j:Nat) (sv:SV Y),es[j]? =ae (e.key,sv)/\e.val=c j) (h2:∀(j:Nat) (k:Value) (sv:SV Y),es[j]? =ae (k,sv)->∃e∈ents.toList,e.key=k)
  (hd:∀(j:Nat) (k:Value) (sv:SV Y),es[j]? =ae (k,sv)->Den E σ g sv (c j)):Den E σ g (.pmap es) (.map (ae r))
 |iface {t:TypeId} {sv:SV Y} {v:Value} (h:Den E σ g sv v):Den E σ g (.iface t sv) (.iface t v)
theorem Den.mono{E:Eng Y} {σ σ':Pl} {g g':GH} (R:Pl.le σ σ') (U:g.le g') {sv:SV Y} {v:Value} (h:Den E σ g sv v):Den E σ' g' sv v:=by
 induction h with
 |unk v=>exact .unk v
 |val v=>exact .val v
 |int l k n=>exact .int l k n
 |bool l b=>exact .bool l b
 |str l h=>exact .str l h
 |ptr h=>exact .ptr (R _ _ h)
 |eptr h=>exact .eptr (R _ _ h)
 |pptr c J _ I=>exact .pptr c (λj hj=>U.c _ _ _ (J j hj)) I
 |sl h hz hl hm J=>exact .sl (R _ _ h) hz hl hm J
 |psl cv hl hm hf hn hb _ I=>exact .psl cv hl hm hf hn (λhp=>let⟨r,o,e,h⟩:=hb hp;⟨r,o,e,λi x hx j hj=>U.c _ _ _ (h i x hx j hj)⟩) I
 |agg c hs J _ I=>exact .agg c hs J I
 |tup c hs J _ I=>exact .tup c hs J I
 |fn ca cb a2 a0 _ a3 a1 _ a4 a5=>exact .fn ca cb a2 a0 a4 a3 a1 a5
 |map h=>exact .map (R _ _ h)
 |pmap c q ho hq hn h1 h2 _ I=>exact .pmap c q (U.m _ _ ho) hq hn h1 h2 I
 |iface _ I=>exact .iface I
def Blk.cells(E:Eng Y):Blk Y->List (SV Y)
 | .raw cs _ _=>cs
 | .rows th l _=>l.flatMap (E.enc th)
 | .map _=> []
def Blk.fzc(E:Eng Y):Blk Y->Nat
 | .raw _ fz _=>fz
 | .rows th _ fz=>fz*E.w th
 | .map _=>0
def DenL(E:Eng Y) (σ:Pl) (g:GH) (cs:List (SV Y)) (vs:List Value):Prop:=cs.length=vs.length/\∀(j:Nat) I v,cs[j]? =ae I->vs[j]? =ae v->Den E σ g I v
def ElOk(E:Eng Y) (e:TypeId):Blk Y->Prop
 | .raw _ _ (ae th)=>e=E.el th
 | .rows th _ _=>e=E.el th
 |_=>True
def BlkOk(E:Eng Y) (σ:Pl) (g:GH) (w:World) (r z:Nat):Blk Y->Prop
 | .map J=>∃ents c,w.heap[r]? =ae (.map ents c)/\ents.size=J.length/\∀(j:Nat) k I,J[j]? =ae (k,I)->∃v R,ents[j]? =ae (MapEntry.mk k v R)/\Den E σ g I v
 |b=>∃arr e,w.heap[r]? =ae (.cells arr e (0,0))/\arr.size=z/\(b.cells E).length<=z/\(∀(j:Nat) I,(b.cells E)[j]? =ae I->∃v,arr[j]? =ae v/\Den E σ g I v)/\ElOk E e b
structure Inv(E:Eng Y) (B:Nat) (σ:Pl) (h:Hp Y) (g:GH) (w:World):Prop where
 gc:∀r o v,g.cell r o=ae v->w.cell? ⟨r,o,au⟩=ae v
 gm:∀r es,g.obj r=ae es->∃c,w.heap[r]? =ae (.map es c)
 blk:∀b x,h b=ae x->∃r z,σ b=ae (r,z)/\BlkOk E σ g w r z x
 inj:∀b b' r z z',h b≠au->h b'≠au->σ b=ae (r,z)->σ b'=ae (r,z')->b=b'
 base:∀b r z,σ b=ae (r,z)->B<=r/\r<w.heap.size
 fz:∀b x r z o v,h b=ae x->σ b=ae (r,z)->g.cell r o=ae v->o<x.fzc E
 fm:∀b x r z,h b=ae x->σ b=ae (r,z)->g.obj r=au
 glob:∀n sv,E.glob n=ae sv->∀(j:Nat) s,sv.cells[j]? =ae s->∃v,g.cell n j=ae v/\Den E (λ_=>au) g s v
structure Stp(i n:Nat) (mods:List Nat) (σ:Pl) (g:GH) (w:World) (σ':Pl) (g':GH) (w':World):Prop where
 sig:Pl.le σ σ'
 snew:∀b p,σ' b=ae p->σ b=ae p\/(i<=b/\b<i+n)
 gle:g.le g'
 gcnew:∀r o v,g'.cell r o=ae v->g.cell r o=ae v\/w.heap.size<=r\/∃b∈mods,∃z,σ b=ae (r,z)
 gmnew:∀r es,g'.obj r=ae es->g.obj r=ae es\/w.heap.size<=r
 heap:∀r,r<w.heap.size->(∀b∈mods,∀z,σ b≠ae (r,z))->w'.heap[r]? =w.heap[r]?
 size:w.heap.size<=w'.heap.size
 os:w'.os=w.os
 tape:w'.tape=w.tape
 output:w'.output=w.output
 blk:∀b r z,σ b=au->σ' b=ae (r,z)->w.heap.size<=r\/∃b'∈mods,∃z',σ b'=ae (r,z')
theorem Stp.refl(i:Nat) (σ:Pl) (g:GH) (w:World):Stp i 0 [] σ g w σ g w:=
 ⟨.refl _,λ_ _ h=> .inl h,.refl _,λ_ _ _ h=> .inl h,λ_ _ h=> .inl h,λ_ _ _=>rfl,av _,rfl,rfl,rfl,λ_ _ _ h k=>by rw[h] at k;cases k⟩
noncomputable def Z77:ExtK->Array Value->Sem Value
 | .add64=>add64Entry
 | .indexByteS=>Extern.BytealgIndexByte.indexByte
 | .same=>Extern.AbiNoEscape.same
def ExtGood(P:Program) (f:FuncId) (x:ExtK):Prop:=∃fn,P.funcs[f]? =ae fn/\(fn.name== "runtime.NumGoroutine")=ab/\fn.body.isNone=ac/\Extern.findNext fn=au/\Extern.find fn=ae (Z77 x)
structure EngOk(E:Eng Y):Prop where
 ty:∀t i,E.ty t=ae i->E.P.underlying t=ae i.d/\∃info,E.P.info? t=ae info/\info.size=i.size/\info.bytes=i.bytes/\info.zero=ae i.zero
 enc:∀th x,(E.enc th x).length=E.w th
 pos:∀th,0<E.w th
 dec:∀th cs x,E.dec th cs=ae x->cs.length=E.w th/\∀σ g (j:Nat) sv sv' v,cs[j]? =ae sv->(E.enc th x)[j]? =ae sv'->Den E σ g sv v->Den E σ g sv' v
 leaf:∀th x,leaves (E.enc th x)=ac
 thOf:∀el th i,E.thOf el=ae th->E.ty el=ae i->i.size=E.w th
 encI:∀i th x,nidL i (E.enc th x)=ac
 mix:E.P.follows .mixedOrders=ac
 arr:∀t th,E.arrOf t=ae th->E.el th=t
 eqs:∀t,memB t E.eqs=ac->E.P.stoodInHeld t=ab/\E.P.eqGuardType E.P.depth t=ab
 ext:∀f x,E.ext f=ae x->ExtGood E.P f x:=by intro f x h;cases h
theorem Uo{E:Eng Y} {σ:Pl} {g:GH} {J:SV Y} {v:Value} (I:leaf J=ac) (h:Den E σ g J v):v.oneCell'=true:=by
 cases h<;>first|rfl|(simp[leaf] at I;done)|(cases v<;>first|rfl|(simp[leaf,Yku] at I;done))
theorem Zcp(E:Eng Y) (σ:Pl) (g:GH) (v:Value):Den E σ g (Zhw v) v:=by
 cases v<;>first|exact .int _ _ _|exact .bool _ _|exact .str _ rfl|exact .val _
theorem X0(E:Eng Y) (σ:Pl) (g:GH) (v:Value):Den E σ g (Yn v) v:=by
 cases v with
 |agg cs=>
  refine .agg (λj=>cs.toList.getD j undef) (by simp) (λj I=> ?_) (λj U h=> ?_)
  ·have J:j<cs.size:=by simpa using I
   simp[bN,J]
  ·rw[bv] at h
   obtain⟨u,R,rfl⟩:=br.1 h;rw[bN,R];exact Zcp E σ g u
 |_=>simp only[Yn];exact Zcp E σ g _
end
end
section
open Go.RowKit
def OpPost(P:Program) (o:Oper) (ρ:Operand->Value) (w:World) (F:Value->World->Prop):Prop:=
 match(execOp ρ o).run P w with
 | .ok (.value v) I=>F v I
 | .ok .skip I=>F undef I
 | .ok (.enter f args) I=>Calls P f args I λJ R=>∃v,J= .returned v/\F v R
 |_=>False
theorem OpPost.mono{P:Program} {o:Oper} {ρ:Operand->Value} {w:World} {F F':Value->World->Prop} (h:OpPost P o ρ w F) (k:∀u I,F u I->F' u I):OpPost P o ρ w F':=by
 unfold OpPost at h⊢;split at h
 ·exact k _ _ h
 ·exact k _ _ h
 ·exact h.mono λU a0 ⟨v,R,J⟩=>⟨v,R,k _ _ J⟩
 ·exact h.elim
theorem OpPost.wp{P:Program} {o:Oper} {a:Act} {w:World} {F:Value->World->Prop} {K:Act->World->Prop} {Q:Exit->Act->World->Prop} (h:OpPost P o a.eval w F) (k:∀u J,F u J->K (a.put o.dst u) J):o.wp P a w K Q:=by
 unfold OpPost at h;unfold Oper.wp;split at h
 ·rename_i v J I;rw[I];exact k _ _ h
 ·rename_i J I;rw[I];exact k _ _ h
 ·rename_i f args J I
  rw[I];rw[Oper.upon_enter];refine h.mono ?_;rintro U a0 ⟨v,rfl,R⟩;exact k _ _ R
 ·exact h.elim
theorem Yp{P:Program} {o:Oper} {ρ:Operand->Value} {w I:World} {u:Value} {F:Value->World->Prop} (h:(execOp ρ o).run P w= .ok (.value u) I) (J:F u I):OpPost P o ρ w F:=by
 unfold OpPost;rw[h];exact J
theorem Zbe{P:Program} {o:Oper} {ρ:Operand->Value} {w I:World} {F:Value->World->Prop} (h:(execOp ρ o).run P w= .ok .skip I) (J:F undef I):OpPost P o ρ w F:=by
 unfold OpPost;rw[h];exact J
theorem Zze{P:Program} {o:Oper} {ρ:Operand->Value} {w I:World} {f:FuncId} {args:Array Value} {F:Value->World->Prop} (h:(execOp ρ o).run P w= .ok (.enter f args) I) (R:Calls P f args I λJ U=>∃v,J= .returned v/\F v U):OpPost P o ρ w F:=by
 unfold OpPost;rw[h];exact R
section
variable {Y:Thy} {E:Eng Y}
def Rd(r:Res Y) (b:Nat):Prop:=match r.rd with|none=>True|some l=>b∈l
def ROk(h:Hp Y) (r:Res Y):Prop:=∀b∈r.mods,h b≠au
def OpTri(E:Eng Y) (o:Oper) (T:Fr Y) (h:Hp Y) (i:Nat) (r:Res Y):Prop:=
 ROk h r/\∀(B:Nat) (σ:Pl) (g:GH) (w:World) (ρ:Operand->Value) (J:Hp Y),(∀b,Rd r b->J b=h b)->Inv E B σ J g w->B<=w.heap.size->(∀b,i<=b->b<i+r.n->σ b=au)->
  (∀x∈o.op.operands.toList,Den E σ g (ev T x) (ρ x))->OpPost E.P o ρ w λu R=>∃σ' I,Stp i r.n r.mods σ g w σ' I R/\Inv E B σ' (patch J i r) I R/\Den E σ' I r.v u
def PanPost(P:Program) (o:Oper) (p:Value) (ρ:Operand->Value) (w:World) (F:World->Prop):Prop:=
 match(execOp ρ o).run P w with
 | .ok (.enter f args) I=>Calls P f args I λJ R=>J= .panicked [{v:=p,recovered:=false}]/\F R
 | .halt (.panic v) I=>v=p/\F I
 |_=>False
theorem PanPost.wp{P:Program} {o:Oper} {p:Value} {a:Act} {w:World} {F:World->Prop} {K:Act->World->Prop} {Q:Exit->Act->World->Prop} (h:PanPost P o p a.eval w F) (k:∀I,F I->Q (.panic [{v:=p,recovered:=false}]) a I):o.wp P a w K Q:=by
 unfold PanPost at h;unfold Oper.wp;split at h
 ·rename_i f args I R
  rw[R,Oper.upon_enter];refine h.mono ?_;rintro U a0 ⟨rfl,J⟩;exact k _ J
 ·rename_i v I R
  obtain⟨rfl,J⟩:=h;rw[R];exact k _ J
 ·exact h.elim
def Yll(E:Eng Y) (o:Oper) (T:Fr Y) (h:Hp Y) (i:Nat) (r:Res Y):Prop:=
 ROk h r/\∃p,r.v= .pan p/\∀(B:Nat) (σ:Pl) (g:GH) (w:World) (ρ:Operand->Value),Inv E B σ h g w->B<=w.heap.size->(∀b,i<=b->b<i+r.n->σ b=au)->
  (∀x∈o.op.operands.toList,Den E σ g (ev T x) (ρ x))->PanPost E.P o p ρ w λJ=>∃σ' I,Stp i r.n r.mods σ g w σ' I J/\Inv E B σ' (patch h i r) I J
def OpTri2(E:Eng Y) (o:Oper) (T:Fr Y) (h:Hp Y) (i:Nat) (r:Res Y):Prop:=OpTri E o T h i r\/Yll E o T h i r
theorem OpTri2.tri{o:Oper} {T:Fr Y} {h:Hp Y} {i:Nat} {r:Res Y} (I:OpTri2 E o T h i r) (J:Za8 r.v=au):OpTri E o T h i r:=by
 rcases I with I|⟨_,p,R,_⟩
 ·exact I
 ·rw[R] at J;cases J
theorem Zwc{v:SV Y} {p:Value} (h:Za8 v=ae p):v= .pan p:=by
 unfold Za8 at h;split at h
 ·cases h;rfl
 ·cases h
theorem OpTri2.pan{o:Oper} {T:Fr Y} {h:Hp Y} {i:Nat} {r:Res Y} {p:Value} (ht:OpTri2 E o T h i r) (hp:Za8 r.v=ae p):
 ROk h r/\∀(B:Nat) (σ:Pl) (g:GH) (w:World) (a:Act) (K:Act->World->Prop) (Q:Exit->Act->World->Prop),Inv E B σ h g w->B<=w.heap.size->(∀b,i<=b->b<i+r.n->σ b=au)->
 (∀x∈o.op.operands.toList,Den E σ g (ev T x) (a.eval x))->(∀I,(∃σ' J,Stp i r.n r.mods σ g w σ' J I/\Inv E B σ' (patch h i r) J I)->Q (.panic [{v:=p,recovered:=false}]) a I)->o.wp E.P a w K Q:=by
 have hv:=Zwc hp
 rcases ht with⟨R,U⟩|⟨R,p',a1,U⟩
 ·refine⟨R,λB σ g w a K Q hI hB a0 hx _=> ?_⟩
  refine(U B σ g w a.eval h (λ_ _=>rfl) hI hB a0 hx).wp ?_
  rintro u I ⟨σ',J,_,_,hd⟩
  rw[hv] at hd
  cases hd
 ·rw[hv] at a1
  cases a1
  exact⟨R,λB σ g w a K Q hI hB a0 hx hQ=>(U B σ g w a.eval hI hB a0 hx).wp hQ⟩
theorem Y4(h:Hp Y) (i:Nat) (rd:List Nat) (v:SV Y):patch h i (quiet rd v)=h:=by
 funext b;simp only[patch,quiet,memB,dG,ei];have:(bP i b&&aU b i)=false:=by
  rw[bp];by_cases I:i<=b
  ·right;simp only[aU];rw[<-bg,bu];omega
  ·left;rw[<-bg,bu];exact I
 rw[this]
theorem Zr{o:Oper} {T:Fr Y} {h:Hp Y} {i:Nat} {rd:List Nat} {v:SV Y}
 (H:∀(B:Nat) (σ:Pl) (g:GH) (w:World) (ρ:Operand->Value) (I:Hp Y),(∀b∈rd,I b=h b)->Inv E B σ I g w->(∀x∈o.op.operands.toList,Den E σ g (ev T x) (ρ x))->
  ∃u,(execOp ρ o).run E.P w= .ok (.value u) w/\Den E σ g v u):OpTri E o T h i (quiet rd v):=by
 refine⟨λb R=>by simp[quiet] at R,?_⟩
 intro B σ g w ρ I U J _ _ hx
 obtain⟨u,hu,hd⟩:=H B σ g w ρ I U J hx
 refine Yp hu ⟨σ,g,.refl _ _ _ _,?_,hd⟩
 rw[Y4];exact J
theorem Zu{l:Bool} {p:Prop} [Decidable p] {K:Prop} (h:need l p K):p/\K:=by
 cases l with
 |true=>simp only[need] at h;split at h<;>first|exact⟨jk ‹_›,h⟩|exact h.elim
 |false=>exact h
theorem Y5{l b:Bool} {K:Bool->Prop} (h:split l b K):K b:=by
 cases l with
 |true=>exact h
 |false=>cases b with
  |true=>exact h.1 rfl
  |false=>exact h.2 rfl
theorem Zpr{I l b:Bool} {K:Bool->Prop} (h:Zhy I l b K):split l b K:=by
 unfold Zhy at h;split at h
 ·rename_i e
  simp only[aq,bj] at e;rw[e.2];exact h b rfl
 ·exact h
theorem Ziq{J l b:Bool} {K K':Bool->Prop} (I:∀v,K v->K' v) (h:Zhy J l b K):Zhy J l b K':=by
 unfold Zhy at*;split at h
 ·exactλv e=>⟨λq=>I _ ((h v e).1 q),λq=>I _ ((h v e).2 q)⟩
 ·unfold split at*
  split at h
  ·exact I _ h
  ·exact⟨λq=>I _ (h.1 q),λq=>I _ (h.2 q)⟩
theorem Zir{b:Bool} {k:Bool->Prop}:Zhx b k↔k b:=by cases b<;>exact fZ
theorem Zis{c:Option Nat} {k:Option Nat->Prop}:Zvd c k↔k c:=by cases c<;>exact fZ
theorem Xx{n:Nat} {k:Nat->Prop}:Wt n k↔k n:=by cases n<;>exact fZ
theorem Z3s{n:Int} {k:Int->Prop}:Zk1 n k↔k n:=by cases n<;>simp[Zk1,Xx]
theorem X5:∀{l:List Nat} {k:List Nat->Prop},Uq l k↔k l
 | [],k=>fZ
 |x::r,k=>by simp only[Uq,Xx,X5 (l:=r)]
theorem Zdm{l:Bool} {kd:IntKind} {n:Int} {k:SV Y->Prop}:(match l with|true=>Zk1 n λn=>k (.int ac kd n)|false=>k (.int ab kd n))↔k (.int l kd n):=by cases l<;>simp[Z3s]
theorem Z3t{α:Type} {lit:Bool} {l:List α} {j:Nat} {k:α->Prop} (h:getK lit l j k):j<l.length/\∃x,l[j]? =ae x/\k x:=by
 unfold getK at h;split at h
 ·split at h
  ·rename_i x J;exact⟨(ai.1 J).1,x,J,h⟩
  ·exact h.elim
 ·obtain⟨I,R⟩:=h
  exact⟨I,_,ao I,R _ (ao I)⟩
theorem Zwd{α:Type} {lit:Bool} {l:List α} {n:Int} {k:α->Prop} (h:ixK lit l n k):0<=n/\n<l.length/\∃x,l[n.toNat]? =ae x/\k x:=by
 unfold ixK at h;split at h
 ·split at h
  ·rename_i x J R
   have I:=jk J;have:=(ai.1 R).1;exact⟨I,by omega,x,R,h⟩
  ·exact h.elim
 ·obtain⟨I,J,U⟩:=h
  have:n.toNat<l.length:=by omega
  exact⟨I,J,_,ao this,U _ (ao this)⟩
theorem Zcc{n:Int} {k:Nat->Prop}:∀{c j:Nat},Zl7 n k c j->(j:Int)<=n->n<j+c->k n.toNat
 |0,j,_,I,J=>by omega
 |c+1,j,h,I,J=>by
  obtain⟨R,U⟩:=h
  by_cases e:n=j
  ·have:=R (by simpa using e)
   rw[e];simpa using this
  ·exact Zcc (U (by simpa using e)) (by omega) (by omega)
theorem Wf{a b:Nat} {K:Prop} (h:Zcv a b K):a=b/\K:=by
 unfold Zcv at h;split at h
 ·exact⟨ax ‹_›,h⟩
 ·exact h.elim
theorem Zit{l:Bool} {s:List Nat} {k:SV Y->Prop}:Zve l s k↔k (.str l s):=by
 cases l with
 |true=>exact X5
 |false=>exact fZ
theorem Zps{v:SV Y} {k:SV Y->Prop}:Zow v k↔k v:=by
 cases v
 case int l kd n=>exact Zdm
 all_goals simp only[Zow,Zit,Zir,Xx,Zis]
theorem Zfy{l:List (SV Y)} {k:List (SV Y)->Prop}:Ur l k↔k l:=by
 induction l generalizing k with
 |nil=>exact fZ
 |cons x r I=>
  show Zow x (λx=>Ur r λr=>k (x::r))↔_;rw[Zps,I]
theorem Zpt{v:SV Y} {k:SV Y->Prop}:Zox v k↔k v:=by
 cases v
 case int l kd n=>exact Zdm
 all_goals simp only[Zox,Zit,Zps,Zfy,Zir,Xx,Zis]
theorem V4{l:List (SV Y)} {k:List (SV Y)->Prop}:Zd6 l k↔k l:=by
 induction l generalizing k with
 |nil=>exact fZ
 |cons x r I=>
  show Zox x (λx=>Zd6 r λr=>k (x::r))↔_;rw[Zpt,I]
theorem Zej{v:SV Y} {k:SV Y->Prop}:force v k↔k v:=by
 cases v
 case int l kd n=>exact Zdm
 all_goals simp only[force,Zit,Zpt,V4,Zfy,Zir,Xx,Zis]
theorem Ztg{b:Option (Blk Y)} {k:Option (Blk Y)->Prop}:Zl5 b k↔k b:=by
 rcases b with _|⟨cs,fz,tg⟩|⟨th,l,fz⟩|I<;>simp[Zl5,Zfy]
variable {o:Oper} {T:Fr Y} {h:Hp Y} {i:Nat} {k:Res Y->Prop} {call:Nat->List (SV Y)->Hp Y->Nat->(Res Y->Prop)->Prop}
theorem Zlf{x:Operand} (I:o.op= .move x\/o.op= .assign x) (J:k (quiet [] (ev T x))):∃r,k r/\OpTri E o T h i r:=by
 refine⟨_,J,Zr λB σ g w ρ hh _ U R=>⟨ρ x,?_,R x (by rcases I with I|I<;>simp[I,aQ])⟩⟩
 unfold execOp;rcases I with I|I<;>simp[I,go_sem]
theorem Zzf{c a b:Operand} (R:o.op= .pick c a b) (I:step E call o.op T h i k):∃r,k r/\OpTri E o T h i r:=by
 rw[R] at I;simp only[step,Zd8,Us,Zh1,Zo0,Zd9,Zo2,Zmb,Zmc,stMm,Zo3,Zga,Zmd,Za5,Za6,W8,Zgb,Za7] at I;split at I
 ·rename_i l x hc
  have I:=Y5 I;cases x with
  |true=>
   refine⟨_,I,Zr λB σ g w ρ hh _ hI U=>⟨ρ a,?_,U a (by simp[R,aQ])⟩⟩;have J:=U c (by simp[R,aQ]);rw[hc] at J;generalize hv:ρ c=v at J;cases J;unfold execOp;simp[R,hv,asBool,go_sem]
  |false=>
   refine⟨_,I,Zr λB σ g w ρ hh _ hI U=>⟨ρ b,?_,U b (by simp[R,aQ])⟩⟩;have J:=U c (by simp[R,aQ]);rw[hc] at J;generalize hv:ρ c=v at J;cases J;unfold execOp;simp[R,hv,asBool,go_sem]
 ·exact I.elim
end
end
section
open Go.RowKit
section
variable {Y:Thy} {E:Eng Y} {o:Oper} {T:Fr Y} {h:Hp Y} {i:Nat} {k:Res Y->Prop}
theorem Z6{x y:Operand} {v:SV Y} (J:x∈o.op.operands.toList) (R:y∈o.op.operands.toList)
 (H:∀(σ:Pl) (g:GH) (w:World) (ρ:Operand->Value),Den E σ g (ev T x) (ρ x)->Den E σ g (ev T y) (ρ y)->∃u,(execOp ρ o).run E.P w= .ok (.value u) w/\Den E σ g v u) (I:k (quiet [] v)):∃r,k r/\OpTri E o T h i r:=
 ⟨_,I,Zr λB σ g w ρ hh _ U hd=>H σ g w ρ (hd x J) (hd y R)⟩
theorem W5{x:Operand} {v:SV Y} (J:x∈o.op.operands.toList)
 (H:∀(σ:Pl) (g:GH) (w:World) (ρ:Operand->Value),Den E σ g (ev T x) (ρ x)->∃u,(execOp ρ o).run E.P w= .ok (.value u) w/\Den E σ g v u) (I:k (quiet [] v)):∃r,k r/\OpTri E o T h i r:=
 ⟨_,I,Zr λB σ g w ρ U _ R hd=>H σ g w ρ (hd x J)⟩
theorem Zkx{P:Program} {t:TypeId} (I:P.underlying t=ae .bool) (a b:Bool) (w:World):(Op.equal t (.bool a) (.bool b)).run P w= .ok (a==b) w:=by
 show(iG (9999+1) t (.bool a) (.bool b)).run P w=_;rw[iG];rw[aF,run_underlying I];rfl
set_option maxHeartbeats 1000000 in
theorem Yir(hE:EngOk E) {op:BinOp} {t t':TypeId} {x y:Operand} (ho:o.op= .binOp op t x y t') (hk:sbin E op t (ev T x) (ev T y) k):∃r,k r/\OpTri E o T h i r:=by
 have mx:x∈o.op.operands.toList:=by simp[ho,aQ]
 have my:y∈o.op.operands.toList:=by simp[ho,aQ]
 unfold sbin at hk;split at hk
 ·rename_i l kd a m kd' b hX hY
  unfold Z16 at hk;split at hk
  ·obtain⟨hp,hk⟩:=Zu hk
   refine Z6 mx my (λσ g w ρ h1 h2=> ?_) hk;rw[hX] at h1;rw[hY] at h2;generalize hv1:ρ x=v1 at h1;generalize hv2:ρ y=v2 at h2;cases h1;cases h2;have hp':¬b<0:=by omega
   exact⟨.int kd (wr kd (a*2^min b.toNat kd.bits)),by unfold execOp;simp[ho,hv1,hv2,eqGuard,binOp,Op.shift,hp',wr,go_sem],.int _ _ _⟩
  ·obtain⟨hp,hk⟩:=Zu hk
   refine Z6 mx my (λσ g w ρ h1 h2=> ?_) hk;rw[hX] at h1;rw[hY] at h2;generalize hv1:ρ x=v1 at h1;generalize hv2:ρ y=v2 at h2;cases h1;cases h2;have hp':¬b<0:=by omega
   exact⟨.int kd (a.fdiv (2^min b.toNat kd.bits)),by unfold execOp;simp[ho,hv1,hv2,eqGuard,binOp,Op.shift,hp',wr,go_sem],.int _ _ _⟩
  ·split at hk
   ·exact hk.elim
   ·rename_i hkd
    obtain rfl:kd=kd':=by simpa using hkd
    unfold Z15 at hk;split at hk
    case h_4|h_5=>
     obtain⟨hp,hk⟩:=Zu hk;refine Z6 mx my (λσ g w ρ h1 h2=> ?_) hk;rw[hX] at h1;rw[hY] at h2;generalize hv1:ρ x=v1 at h1;generalize hv2:ρ y=v2 at h2;cases h1;cases h2;refine⟨_,?_,.int _ _ _⟩;unfold execOp;simp[ho,hv1,hv2,eqGuard,binOp,Op.intDiv,hp,wr,go_sem]
    case h_1|h_2|h_3=>
     refine Z6 mx my (λσ g w ρ h1 h2=> ?_) hk;rw[hX] at h1;rw[hY] at h2;generalize hv1:ρ x=v1 at h1;generalize hv2:ρ y=v2 at h2;cases h1;cases h2;refine⟨_,?_,.int _ _ _⟩;unfold execOp;simp[ho,hv1,hv2,eqGuard,binOp,lj,wr,go_sem]
    case h_12=>
     refine Z6 mx my (λσ g w ρ h1 h2=> ?_) hk;rw[hX] at h1;rw[hY] at h2;generalize hv1:ρ x=v1 at h1;generalize hv2:ρ y=v2 at h2;cases h1;cases h2;refine⟨_,?_,.int _ _ _⟩
     cases op<;>first|(rename_i hn1 hn2 hn3 hn4 hn5 hn6 hn7 hn8 hn9 I J R U;first|exact(hn1 rfl).elim|exact(hn2 rfl).elim|exact(hn3 rfl).elim|exact(hn4 rfl).elim|exact(hn5 rfl).elim|exact(hn6 rfl).elim|exact(hn7 rfl).elim|exact(hn8 rfl).elim|exact(hn9 rfl).elim|exact(I rfl).elim|exact(J rfl).elim|exact(R rfl).elim|exact(U rfl).elim)|(unfold execOp;simp only[ho,hv1,hv2];simp only[eqGuard,binOp,lq,Zan,wr,ne_eq,iU,kM,ite_false];rfl)
    all_goals
     have hk:=Y5 hk;refine Z6 mx my (λσ g w ρ h1 h2=> ?_) hk;rw[hX] at h1;rw[hY] at h2;generalize hv1:ρ x=v1 at h1;generalize hv2:ρ y=v2 at h2;cases h1;cases h2;refine⟨_,?_,.bool _ _⟩;unfold execOp;simp[ho,hv1,hv2,eqGuard,binOp,Op.intCmp,wr,go_sem]
 ·rename_i l a m b hX hY
  unfold Z17 at hk;split at hk
  ·rename_i sz by_ z ht
   have hu:=(hE.ty _ _ ht).1;split at hk
   case h_3=>exact hk.elim
   all_goals
    have hk:=Y5 hk;refine Z6 mx my (λσ g w ρ h1 h2=> ?_) hk;rw[hX] at h1;rw[hY] at h2;generalize hv1:ρ x=v1 at h1;generalize hv2:ρ y=v2 at h2;cases h1;cases h2;refine⟨_,?_,.bool _ _⟩;unfold execOp;simp only[ho,hv1,hv2];rw[aF,aF];rw[show(eqGuard _ t x y (.bool a) (.bool b)).run E.P w= .ok () w by simp[eqGuard,go_sem]];simp only[aA,binOp,aF,Zkx hu,aJ]
  ·exact hk.elim
 ·rename_i l a m b hX hY
  unfold Z18 at hk;split at hk
  ·obtain⟨hp,hk⟩:=Zu hk
   refine Z6 mx my (λσ g w ρ h1 h2=> ?_) hk;rw[hX] at h1;rw[hY] at h2;generalize hv1:ρ x=v1 at h1;generalize hv2:ρ y=v2 at h2;cases h1;cases h2;rename_i a' ha' b' hb';subst ha' hb';refine⟨.string (a'++b'),?_,.str _ (Z03 _ _)⟩;have hp':¬((a'.size+b'.size:Nat):Int)>IntKind.i64.max:=by
    have:IntKind.i64.max=9223372036854775807:=by decide
    rw[Zdw,Zdw] at hp;rw[this];omega
   unfold execOp;simp only[ho,hv1,hv2,eqGuard,binOp,lk];rw[jJ hp'];simp[go_sem]
  case h_8=>exact hk.elim
  all_goals
   have hk:=Y5 hk;refine Z6 mx my (λσ g w ρ h1 h2=> ?_) hk;rw[hX] at h1;rw[hY] at h2;generalize hv1:ρ x=v1 at h1;generalize hv2:ρ y=v2 at h2;cases h1;cases h2;rename_i a' ha' b' hb';subst ha' hb';refine⟨_,?_,.bool _ _⟩;have eqq:(a'.toList==b'.toList)=(toL a'==toL b'):=by
    rw[gK,gK];by_cases e:a'=b'
    ·subst e;rw[iR,iR]
    ·have h1:toL a'≠toL b':=λq=>e (Zn6 q)
     have h3:a'.data.toList≠b'.data.toList:=λq=>e (ByteArray.ext (Array.toList_inj.1 q));rw[fV.2 h1,fV.2 h3]
   have tot:∀u v:List UInt8,(dY u v||u==v)= !(dY v u):=by
    intro u
    induction u with
    |nil=>intro v;cases v<;>rfl
    |cons p r ih=>
     intro v;cases v with
     |nil=>rfl
     |cons q r'=>
      simp only[dY,List.cons_beq_cons];rcases gj p.toNat q.toNat with hl|he|hl
      ·have h1:p<q:=dQ.2 hl
       have h2:¬q<p:=λc=>by have:=dQ.1 c;omega
       have h3:(q==p)=false:=by rw[fV];rintro rfl;omega
       simp[h1,h2,h3]
      ·obtain rfl:=iA.1 he
       have h1:¬p<p:=λc=>by have:=dQ.1 c;omega
       have:=ih r';simp only[h1,decide_false,BEq.rfl,cz,dG];exact this
      ·have h1:q<p:=dQ.2 hl
       have h2:¬p<q:=λc=>by have:=dQ.1 c;omega
       have h3:(p==q)=false:=by rw[fV];rintro rfl;omega
       simp[h1,h2,h3]
   have t2:(dY a'.toList b'.toList||toL a'==toL b')= !(dY b'.toList a'.toList):=by rw[<-eqq];exact tot _ _
   have t3:(!(dY a'.toList b'.toList)&& !(toL a'==toL b'))=dY b'.toList a'.toList:=by rw[<-Bool.not_or,t2,Bool.not_not]
   unfold execOp;simp[ho,hv1,hv2,eqGuard,binOp,lk,go_sem,Yc7,eqq,t2,t3]
 ·exact hk.elim
theorem Ym0{op:UnOp} {t:TypeId} {x:Operand} (R:o.op= .unOp op t x) (I:sun op (ev T x) k):∃r,k r/\OpTri E o T h i r:=by
 have mx:x∈o.op.operands.toList:=by simp[R,aQ]
 unfold sun at I;split at I
 case h_4=>exact I.elim
 all_goals
  rename_i U;refine W5 mx (λσ g w ρ J=> ?_) I;rw[U] at J;generalize a0:ρ x=v1 at J;cases J;refine⟨_,?_,by first|exact .int _ _ _|exact .bool _ _⟩;unfold execOp;simp[R,a0,Op.unary,lj,lq,Zan,wr,go_sem]
theorem Zt3(hE:EngOk E) {src R:TypeId} {x:Operand} (hs:(E.P.underlying src).isSome=ac) (U:o.op= .convert src R x) (I:Zb7 E R (ev T x) k):∃r,k r/\OpTri E o T h i r:=by
 have mx:x∈o.op.operands.toList:=by simp[U,aQ]
 obtain⟨d,hd⟩:=Option.isSome_iff_exists.1 hs;unfold Zb7 at I;split at I
 case h_3=>exact I.elim
 all_goals
  rename_i ht hX;have hu:=(hE.ty _ _ ht).1;refine W5 mx (λσ g w ρ J=> ?_) I;rw[hX] at J;generalize a0:ρ x=v1 at J;cases J;refine⟨_,?_,by first|exact .int _ _ _|exact .str _ ‹_›⟩;unfold execOp;simp[U,a0,convert,run_underlying hu,run_underlying hd,Conv.intToInt,wr,go_sem]
end
end
section
open Go.RowKit
section
variable {Y:Thy} {E:Eng Y} {o:Oper} {T:Fr Y} {h:Hp Y} {i:Nat} {k:Res Y->Prop}
theorem Z8m(R:EngOk E) {t:TypeId} {i:TyI} (U:E.ty t=ae i):(E.P.info? t).map (·.size)=ae i.size:=by
 obtain⟨_,info,I,J,_⟩:=R.ty _ _ U;simp[I,J]
theorem Zz(R:EngOk E) {t:TypeId} {i:TyI} (U:E.ty t=ae i) (w:World):(sizeOf t).run E.P w= .ok i.size w:=by
 obtain⟨_,info,I,J,_⟩:=R.ty _ _ U;simp[sizeOf,typeInfo,I,J,go_sem]
theorem Zx(I:EngOk E) {t:TypeId} {i:TyI} (J:E.ty t=ae i) (w:World):(underlying t).run E.P w= .ok i.d w:=run_underlying (I.ty _ _ J).1 w
theorem Zb1(I:EngOk E) {t:TypeId} {i:TyI} (J:E.ty t=ae i) (w:World):(isAgg t).run E.P w= .ok (Zh i.d) w:=by
 unfold isAgg;rw[aF,Zx I J];cases hd:i.d<;>simp[Zh,go_sem]
theorem Y1(b o n:Nat):(⟨b,o,au⟩:Addr).add n=⟨b,o+n,au⟩:=by unfold Addr.add;split<;>simp_all
theorem Zok(R:EngOk E) {s:TypeId} {x:Operand} {f:Nat} (U:o.op= .fieldAddr s x f) (I:Vw E s (ev T x) f k):∃r,k r/\OpTri E o T h i r:=by
 have mx:x∈o.op.operands.toList:=by simp[U,aQ]
 unfold Vw at I;split at I
 ·rename_i fs sz a5 z hs
  split at I
  ·rename_i fd a0
   split at I
   ·rename_i ti a3
    split at I
    ·exact I.elim
    ·rename_i a1
     have a2:¬ti.size=0:=λe=>a1 e;have run:∀(w:World) (ρ:Operand->Value) (r n:Nat),ρ x= .pointer (ae ⟨r,n,au⟩)->(execOp ρ o).run E.P w= .ok (.value (.pointer (ae ⟨r,n+fd.offset,au⟩))) w:=by
      intro w ρ r n hv;unfold execOp;simp only[U,hv,Instr.fieldAt,aF,Zx R hs,aA,a0,eH,aJ,fieldPlace,Zz R a3,a2,kM,Y1]
     split at I
     case h_4=>exact I.elim
     all_goals
      rename_i hX;refine W5 mx (λσ g w ρ J=> ?_) I;rw[hX] at J;generalize a4:ρ x=v1 at J;cases J;refine⟨_,run w ρ _ _ a4,?_⟩
     ·exact .ptr (by assumption)
     ·rw[dH];exact .eptr (by assumption)
     ·rw[dH];exact .pptr _ (by assumption) (by assumption)
   ·exact I.elim
  ·exact I.elim
 ·exact I.elim
theorem Vf{σ:Pl} {g:GH} {isRow:Bool} {n off:Nat} {cs:List (SV Y)} {v:SV Y} (J:Uy isRow n off cs=ae v) (u:Nat->Value) (hu:∀j U,cs[j]? =ae U->Den E σ g U (u j)):
 match isRow with|true=>off+n<=cs.length/\Den E σ g v (.agg ((dk n).map λj=>u (off+j)).toArray)|false=>off<cs.length/\Den E σ g v (u off):=by
 cases isRow with
 |true=>
  simp only[Uy] at J
  split at J
  ·rename_i R
   have R:=jk R
   obtain rfl:=bd J
   refine⟨R,.agg (λj=>u (off+j)) ?_ ?_ ?_⟩
   ·simp;omega
   ·intro j I
    have a0:j<n:=by simp at I;omega
    simp[a0]
   ·intro j U I
    rw[bO] at I
    split at I
    ·rw[cO] at I;exact hu _ _ I
    ·cases I
  ·cases J
 |false=>
  simp only[Uy] at J
  exact⟨(ai.1 J).1,hu _ _ J⟩
theorem Zb2(J:EngOk E) {t:TypeId} {I:TyI} (U:E.ty t=ae I) (hd:Zh I.d=ab) (w:World) (r n:Nat) (v:Value) (R:w.cell? ⟨r,n,au⟩=ae v):(loadVar t ⟨r,n,au⟩).run E.P w= .ok v w:=by
 unfold loadVar;rw[aF,Zb1 J U,hd];simp[go_sem,load,hZ,R]
theorem Xe(R:EngOk E) {t:TypeId} {I:TyI} (U:E.ty t=ae I) (w:World) (r n:Nat) (u:Nat->Value) (J:∀j,j<(match Zh I.d with|true=>I.size|false=>1)->w.cell? ⟨r,n+j,au⟩=ae (u (n+j))):
 (loadVar t ⟨r,n,au⟩).run E.P w= .ok (match Zh I.d with|true=> .agg ((dk I.size).map λj=>u (n+j)).toArray|false=>u n) w:=by
 cases hd:Zh I.d with
 |true=>
  rw[hd] at J
  refine run_loadVar_mid w r n t _ I.d (λj v hj=> ?_) (R.ty _ _ U).1 (by cases hq:I.d<;>rw[hq] at hd<;>first|rfl|cases hd) (by simpa using Z8m R U)
  rw[bv] at hj
  obtain⟨j',a0,rfl⟩:=br.1 hj
  obtain⟨a1,rfl⟩:j<I.size/\j=j':=by
   have:=ai.1 a0
   obtain⟨h1,h2⟩:=this
   simp at h1 h2
   exact⟨h1,h2⟩
  exact J j a1
 |false=>
  rw[hd] at J
  exact Zb2 R U hd w r n _ (by simpa using J 0 (by simp))
theorem Wq{σ:Pl} {g:GH} {w:World} {r z:Nat} {b:Blk Y} (hm:∀J,b≠ .map J) (R:BlkOk E σ g w r z b):∃u:Nat->Value,(∀j,j<(b.cells E).length->w.cell? ⟨r,j,au⟩=ae (u j))/\∀j I,(b.cells E)[j]? =ae I->Den E σ g I (u j):=by
 have a0:∃arr e,w.heap[r]? =ae (.cells arr e (0,0))/\arr.size=z/\(b.cells E).length<=z/\(∀(j:Nat) I,(b.cells E)[j]? =ae I->∃v,arr[j]? =ae v/\Den E σ g I v)/\ElOk E e b:=by
  cases b with
  |map J=>exact ka rfl (hm J)
  |raw cs fz tg=>exact R
  |rows th l fz=>exact R
 obtain⟨arr,e,h1,h2,h3,h4,_⟩:=a0;refine⟨λj=>arr.getD j undef,λj U=> ?_,λj I U=> ?_⟩
 ·have:j<arr.size:=by omega
  simp[World.cell?,h1,ee,this]
 ·obtain⟨v,hv,hd⟩:=h4 j I U
  have:arr.getD j undef=v:=by rw[aS,hv];rfl
  show Den E σ g I (arr.getD j undef);rw[this];exact hd
theorem Y7(I:EngOk E) (th:Y.Th) (l:List (Y.dom th)) (i:Nat) (x:Y.dom th) (J:l[i]? =ae x) (j:Nat) (R:j<E.w th):(l.flatMap (E.enc th))[i*E.w th+j]? =(E.enc th x)[j]? :=by
 induction l generalizing i with
 |nil=>simp at J
 |cons y l U=>
  rw[ir];cases i with
  |zero=>
   obtain rfl:y=x:=by simpa using J
   rw[Nat.zero_mul,bq,bJ (by rw[I.enc];exact R)]
  |succ i=>
   rw[bx (by rw[I.enc,cp];omega),I.enc,<-U i (by simpa using J)]
   congr 1
   rw[cp];omega
theorem Zv(I:EngOk E) (th:Y.Th) (l:List (Y.dom th)):(l.flatMap (E.enc th)).length=l.length*E.w th:=by
 induction l with
 |nil=>simp
 |cons y l J=>rw[ir,az,J,I.enc,aE,cp];omega
theorem Zyc(hE:EngOk E) {t:TypeId} {x:Operand} (ho:o.op= .load t x) (I:Zr3 E t (ev T x) h k):∃r,k r/\OpTri E o T h i r:=by
 have mx:x∈o.op.operands.toList:=by simp[ho,aQ]
 have run:∀(w:World) (ρ:Operand->Value) (a:Addr) (v:Value),ρ x= .pointer (ae a)->(loadVar t a).run E.P w= .ok v w->(execOp ρ o).run E.P w= .ok (.value v) w:=by
  intro w ρ a v hv hl;unfold execOp;simp only[ho,hv,Instr.loadAt,aF,eH,aJ,aA,hl]
 unfold Zr3 at I;split at I
 ·exact I.elim
 ·rename_i ti ht
  split at I
  ·rename_i b off hX
   split at I
   ·rename_i cs fz tg hb
    split at I
    ·rename_i v hr
     refine⟨_,I,Zr λB σ g w ρ hh a1 hI hx=> ?_⟩;have J:=hx x mx;rw[hX] at J;generalize a0:ρ x=v1 at J;cases J;rename_i r z a6;obtain⟨r',z',a2,a5⟩:=hI.blk b _ ((a1 b (by simp)).trans hb);rw[a6] at a2;cases a2;obtain⟨u,a3,a4⟩:=Wq (by intro es e;cases e) a5;have:=Vf hr u a4;refine⟨_,run w ρ _ _ a0 (Xe hE ht w r off u ?_),?_⟩
     ·intro j R
      refine a3 _ ?_;cases hd:Zh ti.d with
      |true=>rw[hd] at this R;have:=this.1;show _<cs.length;simp at R;omega
      |false=>rw[hd] at this R;have:=this.1;show _<cs.length;simp at R;omega
     ·cases hd:Zh ti.d with
      |true=>rw[hd] at this;exact this.2
      |false=>rw[hd] at this;exact this.2
    ·exact I.elim
   ·exact I.elim
  ·rename_i b j w' off hX
   split at I
   ·rename_i th l fz hb
    obtain⟨b0,a9⟩:=Wf I;clear I;subst b0;obtain⟨R,y,hy,I⟩:=Z3t a9;split at I
    ·rename_i v hr
     refine⟨_,I,Zr λB σ g w ρ hh a1 hI hx=> ?_⟩;have J:=hx x mx;rw[hX] at J;generalize a0:ρ x=v1 at J;cases J;rename_i r z a6;obtain⟨r',z',a2,a5⟩:=hI.blk b _ ((a1 b (by simp)).trans hb);rw[a6] at a2;cases a2;obtain⟨u,a3,a4⟩:=Wq (by intro es e;cases e) a5;simp only[Blk.cells] at a3 a4;have:=Vf hr (λm=>u (j*E.w th+m)) (λm sv hm=>a4 _ _ (by rw[Y7 hE th l j y hy m (by rw[<-hE.enc th y];exact(ai.1 hm).1)];exact hm));have b1:j*E.w th+E.w th<=l.length*E.w th:=by
      have:=bb (E.w th) (show j+1<=l.length from R)
      rwa[cp,iH] at this
     have he:=hE.enc th y;refine⟨_,run w ρ _ _ a0 (Xe hE ht w r (j*E.w th+off) u ?_),?_⟩
     ·intro m hm
      refine a3 _ ?_;rw[Zv hE];cases hd:Zh ti.d with
      |true=>rw[hd] at this hm;have:=this.1;simp at hm;omega
      |false=>rw[hd] at this hm;have:=this.1;simp at hm;omega
     ·cases hd:Zh ti.d with
      |true=>rw[hd] at this;simpa only[dH] using this.2
      |false=>rw[hd] at this;exact this.2
    ·exact I.elim
   ·exact I.elim
  ·rename_i th y off hX
   split at I
   ·rename_i v hr
    refine⟨_,I,Zr λB σ g w ρ hh a1 hI hx=> ?_⟩;have J:=hx x mx;rw[hX] at J;generalize a0:ρ x=v1 at J;cases J;rename_i r U c hc a7;have:=Vf hr c a7;have:=Vf hr (λm=>c m) a7;refine⟨_,run w ρ _ _ a0 (Xe hE ht w r (U+off) (λm=>c (m-U)) ?_),?_⟩
    ·intro j R
     rw[show U+off+j-U=off+j by omega,show U+off+j=U+(off+j) by omega];refine hI.gc _ _ _ (hc _ ?_);cases hd:Zh ti.d with
     |true=>rw[hd] at this R;have:=this.1;simp at R;omega
     |false=>rw[hd] at this R;have:=this.1;simp at R;omega
    ·cases hd:Zh ti.d with
     |true=>rw[hd] at this;simp only[show∀j,U+off+j-U=off+j fromλj=>by omega];exact this.2
     |false=>rw[hd] at this;simp only[show U+off-U=off by omega];exact this.2
   ·exact I.elim
  ·rename_i gl off hX
   split at I
   ·rename_i v hg hd
    split at I
    ·rename_i s hs
     refine⟨_,I,Zr λB σ g w ρ hh a1 hI hx=> ?_⟩;have J:=hx x mx;rw[hX] at J;generalize a0:ρ x=v1 at J;cases J;obtain⟨u,hu,a8⟩:=hI.glob _ _ hg _ _ hs;exact⟨u,run w ρ _ _ a0 (Zb2 hE ht hd w gl off u (hI.gc _ _ _ hu)),a8.mono (λ_ _ e=>by cases e) (.refl _)⟩
    ·exact I.elim
   ·exact I.elim
  ·exact I.elim
end
end
section
open Go.RowKit
section
variable {Y:Thy} {E:Eng Y} {o:Oper} {T:Fr Y} {h:Hp Y} {i:Nat} {k:Res Y->Prop}
theorem Yk{σ:Pl} {g:GH} {cs:List (SV Y)} {v:Value} (h:Den E σ g (.agg cs) v):∃(arr:Array Value) (c:Nat->Value),v= .agg arr/\arr.size=cs.length/\(∀j,j<cs.length->arr[j]? =ae (c j))/\∀j I,cs[j]? =ae I->Den E σ g I (c j):=by
 cases h with
 |agg c R J hd=>exact⟨_,c,rfl,R,J,hd⟩
theorem Znx{σ:Pl} {g:GH} {cs:List (SV Y)} {v:Value} (h:Den E σ g (.tup cs) v):∃(arr:Array Value) (c:Nat->Value),v= .tuple arr/\arr.size=cs.length/\(∀j,j<cs.length->arr[j]? =ae (c j))/\∀j I,cs[j]? =ae I->Den E σ g I (c j):=by
 cases h with
 |tup c R J hd=>exact⟨_,c,rfl,R,J,hd⟩
theorem Yq{a b:Nat} (h:aU a b=ac):a<b:=gY h
theorem Zak(J:EngOk E) {t:TypeId} {I:TyI} (ht:E.ty t=ae I) {σ:Pl} {g:GH} {cs:List (SV Y)} {arr:Array Value} (hd:Den E σ g (.agg cs) (.agg arr)) {off:Nat} {v:SV Y} (hr:Uy (Zh I.d) I.size off cs=ae v) (w:World):
 ∃u,(part t arr off).run E.P w= .ok u w/\Den E σ g v u:=by
 obtain⟨arr',c,e,hs,R,hd⟩:=Yk hd
 cases e
 have:=Vf hr c hd
 unfold part
 rw[aF,Zb1 J ht]
 cases hq:Zh I.d with
 |true=>
  rw[hq] at this
  refine⟨_,by simp only[aA,kL,aF,Zz J ht,aJ];rfl,?_⟩
  have he:arr.extract off (off+I.size)=((dk I.size).map λj=>c (off+j)).toArray:=by
   apply Array.ext_getElem?
   intro j
   rw[Array.getElem?_extract]
   by_cases U:j<I.size
   ·rw[jM (by omega),R _ (by omega)];simp[U]
   ·rw[jJ (by omega)];simp[U]
  rw[he];exact this.2
 |false=>
  rw[hq] at this
  refine⟨c off,?_,this.2⟩
  simp[R off this.1,go_sem]
theorem Z7f(R:EngOk E) {s:TypeId} {x:Operand} {f:Nat} (U:o.op= .field s x f) (I:Zk2 E s (ev T x) f k):∃r,k r/\OpTri E o T h i r:=by
 have mx:x∈o.op.operands.toList:=by simp[U,aQ]
 unfold Zk2 at I;split at I
 ·rename_i fs sz a3 z cs hs hX
  split at I
  ·rename_i fd a0
   split at I
   ·rename_i ti a1
    split at I
    ·rename_i v hr
     refine W5 mx (λσ g w ρ J=> ?_) I;rw[hX] at J;generalize a2:ρ x=v1 at J;obtain⟨arr,_,rfl,_⟩:=Yk J;obtain⟨u,hu,hd⟩:=Zak R a1 J hr w;refine⟨u,?_,hd⟩;unfold execOp;simp only[U,a2,Instr.field,aF,Zx R hs,aA,a0,asAgg,aJ,hu]
    ·exact I.elim
   ·exact I.elim
  ·exact I.elim
 ·exact I.elim
theorem Z0i{kd : IntKind} : ∀ {cs : List (SV Y)} {I : List Int}, Zoy kd cs = ae I → I.length = cs.length ∧ ∀ (j : Nat) y, I[j]? = ae y → ∃ l, cs[j]? = ae (.int l kd y) := by
  intro cs
  induction cs with
  | nil => intro I h; simp[Zoy] at h; subst h; simp
  | cons x r ih =>
    intro I h;cases x <;> simp only[Zoy] at h <;> try(cases h; done)
    rename_i l k n;split at h
    ·rename_i l' hk a0
     obtain rfl := jk hk;obtain rfl := bd h;obtain⟨R, U⟩ := ih a0;refine⟨by simp[R], λj y J => ?_⟩;cases j with
     | zero => obtain rfl : n = y := by simpa using J
               exact⟨l, rfl⟩
     | succ j => exact U j y (by simpa using J)
    ·cases h
theorem Zq9(U:EngOk E) {t:TypeId} {x ix:Operand} (ho:o.op= .index t x ix) (I:Zhz E t (ev T x) (ev T ix) k):∃r,k r/\OpTri E o T h i r:=by
 have mx:x∈o.op.operands.toList:=by simp[ho,aQ]
 have my:ix∈o.op.operands.toList:=by simp[ho,aQ]
 unfold Zhz at I;split at I
 ·rename_i len el sz a8 z cs l kd n ht hX a3
  split at I
  ·rename_i ti a0
   split at I
   ·rename_i v hb hr
    simp only[aq,fO] at hb;have a7:n.toNat<len:=Yq hb.2;refine Z6 mx my (λσ g w ρ J R=> ?_) I;rw[hX] at J;rw[a3] at R;generalize a1:ρ x=v1 at J;generalize a2:ρ ix=v2 at R;obtain⟨arr,_,rfl,_⟩:=Yk J;cases R;obtain⟨u,hu,hd⟩:=Zak U a0 J hr w;refine⟨u,?_,hd⟩;unfold execOp;have h0:0<=n/\n<(len:Int):=by omega
    simp only[ho,a1,a2,jd,aF,asIntOf,aJ,aA,Zx U ht];rw[jM h0];simp only[aF,Zz U a0,aA,hu,aJ]
   ·exact I.elim
  ·rename_i b4 b5 by' z' a0
   split at I
   ·rename_i ls b2 a4
    simp only[aq] at a4;obtain rfl:b5=1:=ax a4.2;have a4:cs.length=len:=ax a4.1;obtain⟨h0,a7,I⟩:=I;obtain⟨b9,b1⟩:=Z0i b2;obtain⟨y,hy⟩:∃y,ls[n.toNat]? =ae y:=⟨_,ao (by omega)⟩;obtain⟨l',b0⟩:=b1 _ _ hy;refine Z6 mx my (λσ g w ρ J R=> ?_) (I y hy);rw[hX] at J;rw[a3] at R;generalize a1:ρ x=v1 at J;generalize a2:ρ ix=v2 at R;cases R;obtain⟨arr,c,rfl,hs,hc,hd⟩:=Yk J;have a6:=hd _ _ b0;have a5:=hc n.toNat (by omega);generalize c n.toNat=cv at a6 a5;cases a6;refine⟨.int b4 y,?_,.int _ _ _⟩
    have a9:0<=n/\n<(len:Int):=⟨h0,a7⟩;obtain⟨hu,info,b7,b8,_⟩:=U.ty _ _ a0;unfold execOp;simp only[ho,a1,a2,jd,aF,asIntOf,aJ,aA,Zx U ht];rw[jM a9];simp only[aF,Zz U a0,aA,part,Zb1 U a0,Zh,Nat.mul_one,a5];rfl
   ·exact I.elim
  ·exact I.elim
 ·rename_i sz a8 z l s m kd n ht hX a3
  obtain⟨h0,b6,y,hy,I⟩:=Zwd I;refine Z6 mx my (λσ g w ρ J R=> ?_) I;rw[hX] at J;rw[a3] at R;generalize a1:ρ x=v1 at J;generalize a2:ρ ix=v2 at R;cases J;cases R;rename_i b hb;subst hb;obtain⟨q,hq,b3⟩:=Yj5 _ _ _ hy;subst b3;refine⟨.int .u8 q.toNat,?_,.int _ _ _⟩;unfold execOp;simp only[ho,a1,a2,jd,aF,asIntOf,aJ,aA,Zx U ht,jM h0,hq]
 ·exact I.elim
end
end
section
open Go.RowKit
section
variable {Y:Thy} {E:Eng Y} {o:Oper} {T:Fr Y} {h:Hp Y} {i:Nat} {k:Res Y->Prop} {call:Nat->List (SV Y)->Hp Y->Nat->(Res Y->Prop)->Prop}
theorem Zy8{x:Operand} {n:Nat} (R:o.op= .extract x n) (I:step E call o.op T h i k):∃r,k r/\OpTri E o T h i r:=by
 have mx:x∈o.op.operands.toList:=by simp[R,aQ]
 have a1:=mx;rw[R] at I;simp only[step,Zd8,Us,Zh1,Zo0,Zd9,Zo2,Zmb,Zmc,stMm,Zo3,Zga,Zmd,Za5,Za6,W8,Zgb,Za7] at I;split at I
 ·rename_i vs hX
  split at I
  ·rename_i v U
   refine W5 mx (λσ g w ρ J=> ?_) I;rw[hX] at J;generalize a0:ρ x=v1 at J;obtain⟨arr,c,rfl,hs,hc,hd⟩:=Znx J;refine⟨c n,?_,hd _ _ U⟩;have:=hc n (ai.1 U).1;unfold execOp;simp[R,a0,Instr.extract,this,go_sem]
  ·exact I.elim
 ·exact I.elim
theorem Zsu{x:Operand} (R:o.op= .nilCheck x) (J:step E call o.op T h i k):∃r,k r/\OpTri E o T h i r:=by
 have mx:x∈o.op.operands.toList:=by simp[R,aQ]
 rw[R] at J;simp only[step,Zd8,Us,Zh1,Zo0,Zd9,Zo2,Zmb,Zmc,stMm,Zo3,Zga,Zmd,Za5,Za6,W8,Zgb,Za7] at J;split at J
 ·rename_i b n U
  refine W5 mx (λσ g w ρ I=> ?_) J;rw[U] at I;refine⟨ρ x,?_,I⟩;generalize a0:ρ x=v1 at I;cases I;unfold execOp;simp[R,a0,go_sem]
 ·rename_i f a b U
  refine W5 mx (λσ g w ρ I=> ?_) J;rw[U] at I;refine⟨ρ x,?_,I⟩;generalize a0:ρ x=v1 at I;cases I;unfold execOp;simp[R,a0,go_sem]
 ·exact J.elim
theorem Zij{σ:Pl} {g:GH} {T:Fr Y} {ρ:Operand->Value} {xs:Array Operand} (hx:∀x∈xs.toList,Den E σ g (ev T x) (ρ x)):
 (xs.map ρ).size=(xs.toList.map (ev T)).length/\(∀j,j<(xs.toList.map (ev T)).length->(xs.map ρ)[j]? =ae (ρ (xs.getD j default)))/\∀(j:Nat) U,(xs.toList.map (ev T))[j]? =ae U->Den E σ g U (ρ (xs.getD j default)):=by
 refine⟨by simp,λj I=> ?_,λj U I=> ?_⟩
 ·have J:j<xs.size:=by simpa using I
  simp[J,ee]
 ·rw[bv] at I
  obtain⟨x,R,rfl⟩:=br.1 I
  have J:j<xs.size:=by have:=(ai.1 R).1;simpa using this
  have:xs.getD j default=x:=by
   have h2:=(ai.1 R).2
   simp[ee,J];simpa using h2
  rw[this]
  exact hx x (aL R)
theorem Zsv{fn:Fn} {a b:Array Operand} (J:o.op= .makeFunc fn a b) (R:step E call o.op T h i k):∃r,k r/\OpTri E o T h i r:=by
 rw[J] at R;simp only[step,Zd8,Us,Zh1,Zo0,Zd9,Zo2,Zmb,Zmc,stMm,Zo3,Zga,Zmd,Za5,Za6,W8,Zgb,Za7] at R;refine⟨_,R,Zr λB σ g w ρ hh _ hI U=>⟨.func fn (a.map ρ) (b.map ρ),?_,?_⟩⟩
 ·unfold execOp;simp[J,Instr.makeFunc,go_sem]
 ·obtain⟨h1,h2,h3⟩:=Zij (E:=E) (σ:=σ) (g:=g) (T:=T) (ρ:=ρ) (xs:=a) (λx I=>U x (by simp[J,aQ] at I⊢;exact .inl I))
  obtain⟨k1,k2,k3⟩:=Zij (E:=E) (σ:=σ) (g:=g) (T:=T) (ρ:=ρ) (xs:=b) (λx I=>U x (by simp[J,aQ] at I⊢;exact .inr I));exact .fn _ _ h1 h2 h3 k1 k2 k3
theorem Ygf(hE:EngOk E) {c:Call} (hc:c.callee= .builtin .len) (ho:o.op= .call c) {t:TypeId} {x:Operand} (ht:c.argTypes[0]? =ae t) (a1:c.args[0]? =ae x) (hk:slen E t (ev T x) h k):∃r,k r/\OpTri E o T h i r:=by
 have mx:x∈o.op.operands.toList:=by
  have:x∈c.args:=Array.mem_of_getElem? a1;simp[ho,aQ,Call.operands,this]
 have run:∀(w:World) (ρ:Operand->Value) (u:Value),(fF c.argTypes o.type (c.args.map ρ)).run E.P w= .ok u w->(execOp ρ o).run E.P w= .ok (.value u) w:=by
  intro w ρ u hl;unfold execOp;simp only[ho,resolve,hc,aF,aJ,aA,invoke,builtin,hl]
 have ha:∀ρ:Operand->Value,(c.args.map ρ)[0]? =ae (ρ x):=λρ=>by simp[a1]
 unfold slen at hk;split at hk
 case h_6=>exact hk.elim
 all_goals
  refine W5 mx (λσ g w ρ I=> ?_) hk
 ·rename_i el sz a0 z th l f J R
  rw[R] at I;generalize U:ρ x=v1 at I;cases I;refine⟨_,run w ρ _ ?_,.int _ _ _⟩;simp[fF,ht,ha,U,Zx hE J,goInt,go_sem]
 ·rename_i el sz a0 z b off n wd cap J R
  rw[R] at I;generalize U:ρ x=v1 at I;cases I;refine⟨_,run w ρ _ ?_,.int _ _ _⟩;simp[fF,ht,ha,U,Zx hE J,goInt,go_sem]
 ·rename_i el sz a0 z n cap J R
  rw[R] at I;generalize U:ρ x=v1 at I;cases I;refine⟨_,run w ρ _ ?_,.int _ _ _⟩;simp[fF,ht,ha,U,Zx hE J,goInt,go_sem]
 ·rename_i sz a0 z l s J R
  rw[R] at I;generalize U:ρ x=v1 at I;cases I;rename_i b hb;subst hb;rw[Zdw];refine⟨_,run w ρ _ ?_,.int _ _ _⟩;simp[fF,ht,ha,U,Zx hE J,goInt,go_sem]
 ·rename_i n el sz a0 z J
  refine⟨_,run w ρ _ ?_,.int _ _ _⟩;simp[fF,ht,ha,Zx hE J,goInt,go_sem]
theorem Ygg(mx:Bool) {σ:Pl} {g:GH} (w:World):∀(R:List (SV Y)) (x:SV Y) (v:Value) (vs:List Value) (sv:SV Y),Den E σ g x v->DenL E σ g R vs->smm mx x R=ae sv->
 ∃u,(match mx with|true=>vs.foldlM km v|false=>vs.foldlM kn v:Sem Value).run E.P w= .ok u w/\Den E σ g sv u:=by
 intro R
 induction R with
 |nil=>
  intro x v vs sv hx J I
  have:vs= []:=by have:=J.1;cases vs<;>first|rfl|simp at this
  subst this
  obtain rfl:x=sv:=by cases x<;>simpa[smm] using I
  refine⟨v,?_,hx⟩
  cases mx<;>simp[go_sem]
 |cons y R ih=>
  intro x v vs sv hx J I
  cases vs with
  |nil=>have:=J.1;simp at this
  |cons u vs=>
   have hy:Den E σ g y u:=J.2 0 y u rfl rfl
   have a1:DenL E σ g R vs:=⟨by have:=J.1;simpa using this,λj sv v h1 U=>J.2 (j+1) sv v (by simpa using h1) (by simpa using U)⟩
   cases x<;>cases y<;>simp only[smm] at I<;>try(cases I;done)
   rename_i l kd a m a2 b
   split at I
   ·rename_i a0
    obtain rfl:=jk a0
    cases hx;cases hy
    obtain⟨u,U,h3⟩:=ih _ (.int kd (mm2 mx a b)) vs sv (.int _ _ _) a1 I
    refine⟨u,?_,h3⟩
    cases mx<;>simpa[km,kn,mm2,go_sem] using U
   ·cases I
theorem Zld(mx:Bool) {c:Call} (hc:c.callee= .builtin (if mx then .max else .min)) (ho:o.op= .call c) {x:Operand} {r:List Operand} (a0:c.args.toList=x::r) (R:Zfq mx (ev T x) (r.map (ev T)) k):∃r,k r/\OpTri E o T h i r:=by
 unfold Zfq at R;split at R
 ·rename_i sv hs
  refine⟨_,R,Zr λB σ g w ρ hh _ hI hx=> ?_⟩
  have hm:∀y∈x::r,Den E σ g (ev T y) (ρ y):=λy U=>hx y (by
   have:y∈c.args.toList:=a0▸U
   simp[ho,aQ,Call.operands];exact .inr (by simpa using this))
  obtain⟨u,I,J⟩:=Ygg (E:=E) mx w (r.map (ev T)) (ev T x) (ρ x) (r.map ρ) sv (hm x (by simp)) ⟨by simp,λj sv v I J=>by
   rw[bv] at I J;obtain⟨y,U,rfl⟩:=br.1 I;rw[U] at J;obtain rfl:ρ y=v:=by simpa using J
   exact hm y (by simp[aL U])⟩ hs
  refine⟨u,?_,J⟩;have ha:(c.args.map ρ).toList=ρ x::r.map ρ:=by simp[a0]
  unfold execOp;cases mx with
  |true=>simp only[ho,resolve,hc,kL,aF,aJ,aA,invoke,builtin,Builtin.max_,ha];rw[I];rfl
  |false=>simp only[ho,resolve,hc,kM,Bool.false_eq_true,aF,aJ,aA,invoke,builtin,Builtin.min_,ha];rw[I];rfl
 ·exact R.elim
theorem V2{σ:Pl} {g:GH} {th:Y.Th} {l:List (Y.dom th)} {full:Bool} {v:Value} (h:Den E σ g (.psl th l full) v):∃(base:Option Addr) (c:Nat) (I:Nat->Nat->Value),v= .slice base l.length c/\l.length<=c/\c<=maxLen/\(full=ac->c=l.length)/\(base=au->c=0)/\
 (0<l.length->∃r o,base=ae ⟨r,o,au⟩/\∀i x,l[i]? =ae x->∀j,j<(E.enc th x).length->g.cell r (o+i*E.w th+j)=ae (I i j))/\∀i x,l[i]? =ae x->∀j J,(E.enc th x)[j]? =ae J->Den E σ g J (I i j):=by
 cases h with
 |psl I hl hm U hn R hd=>exact⟨_,_,I,rfl,hl,hm,U,hn,R,hd⟩
theorem Z9z{l:Bool} {n:Int} {len:Nat} {k:Nat->Prop} (h:Zyq l n len k):(0<=n/\n<len)/\k n.toNat:=by
 unfold Zyq at h;split at h
 ·exact Zu h
 ·exact⟨⟨h.1,h.2.1⟩,Zcc h.2.2 (by omega) (by omega)⟩
theorem We(hE:EngOk E) {t:TypeId} {x ix:Operand} (ho:o.op= .indexAddr t x ix) (I:Xp E t (ev T x) (ev T ix) h k):∃r,k r/\OpTri E o T h i r:=by
 have mx:x∈o.op.operands.toList:=by simp[ho,aQ]
 have my:ix∈o.op.operands.toList:=by simp[ho,aQ]
 unfold Xp at I;split at I
 ·rename_i len el sz a6 z l kd n ht a2
  have run:∀(w:World) (ρ:Operand->Value) (ti:TyI) (a:Addr),E.ty el=ae ti->0<=n/\n<(len:Int)->ρ x= .pointer (ae a)->ρ ix= .int kd n->(execOp ρ o).run E.P w= .ok (.value (.pointer (ae (a.add (n.toNat*ti.size))))) w:=by
   intro w ρ ti a a1 h0 U a0;unfold execOp;simp only[ho,U,a0,iS,aF,asIntOf,aJ,aA,Zx hE ht,eH,jM h0,Zz hE a1]
  split at I
  ·rename_i ti b off a1 hX
   split at I
   ·rename_i hb
    simp only[aq,fO] at hb;have a5:n.toNat<len:=Yq hb.2;have h0:0<=n/\n<(len:Int):=by omega
    refine Z6 mx my (λσ g w ρ J R=> ?_) I;rw[hX] at J;rw[a2] at R;generalize U:ρ x=v1 at J;generalize a0:ρ ix=v2 at R;cases R;cases J;refine⟨_,run w ρ ti _ a1 h0 U a0,?_⟩;rw[Y1];exact .ptr (by assumption)
   ·exact I.elim
  ·rename_i ti th y off a1 hX
   split at I
   ·rename_i hb
    simp only[aq,fO] at hb;have a5:n.toNat<len:=Yq hb.2;have h0:0<=n/\n<(len:Int):=by omega
    refine Z6 mx my (λσ g w ρ J R=> ?_) I;rw[hX] at J;rw[a2] at R;generalize U:ρ x=v1 at J;generalize a0:ρ ix=v2 at R;cases R;cases J;refine⟨_,run w ρ ti _ a1 h0 U a0,?_⟩;rw[Y1,dH];exact .pptr _ (by assumption) (by assumption)
   ·exact I.elim
  ·rename_i ti gl off a1 hX
   split at I
   ·rename_i hb
    simp only[aq,fO] at hb;have a5:n.toNat<len:=Yq hb.2;have h0:0<=n/\n<(len:Int):=by omega
    refine Z6 mx my (λσ g w ρ J R=> ?_) I;rw[hX] at J;rw[a2] at R;generalize U:ρ x=v1 at J;generalize a0:ρ ix=v2 at R;cases R;cases J;refine⟨_,run w ρ ti _ a1 h0 U a0,?_⟩;rw[Y1];exact .val _
   ·exact I.elim
  ·rename_i ti gl off a1 hX
   obtain⟨a4,a3,I⟩:=I;have I:=Zcc I (by omega) (by omega);refine Z6 mx my (λσ g w ρ J R=> ?_) I;rw[hX] at J;rw[a2] at R;generalize U:ρ x=v1 at J;generalize a0:ρ ix=v2 at R;cases R;cases J;refine⟨_,run w ρ ti _ a1 ⟨a4,a3⟩ U a0,?_⟩;rw[Y1];exact .val _
  ·rename_i ti b off a1 hX
   obtain⟨a4,a3,I⟩:=I;have I:=Zcc I (by omega) (by omega);refine Z6 mx my (λσ g w ρ J R=> ?_) I;rw[hX] at J;rw[a2] at R;generalize U:ρ x=v1 at J;generalize a0:ρ ix=v2 at R;cases R;cases J;refine⟨_,run w ρ ti _ a1 ⟨a4,a3⟩ U a0,?_⟩;rw[Y1];exact .ptr (by assumption)
  ·rename_i ti th y off a1 hX
   obtain⟨a4,a3,I⟩:=I;have I:=Zcc I (by omega) (by omega);refine Z6 mx my (λσ g w ρ J R=> ?_) I;rw[hX] at J;rw[a2] at R;generalize U:ρ x=v1 at J;generalize a0:ρ ix=v2 at R;cases R;cases J;refine⟨_,run w ρ ti _ a1 ⟨a4,a3⟩ U a0,?_⟩;rw[Y1,dH];exact .pptr _ (by assumption) (by assumption)
  ·rename_i ti b q w' off a1 hX
   split at I
   ·rename_i hb
    simp only[aq,fO] at hb;have a5:n.toNat<len:=Yq hb.2;have h0:0<=n/\n<(len:Int):=by omega
    refine Z6 mx my (λσ g w ρ J R=> ?_) I;rw[hX] at J;rw[a2] at R;generalize U:ρ x=v1 at J;generalize a0:ρ ix=v2 at R;cases R;cases J;refine⟨_,run w ρ ti _ a1 h0 U a0,?_⟩;rw[Y1,dH];exact .eptr (by assumption)
   ·exact I.elim
  ·rename_i ti b q w' off a1 hX
   obtain⟨a4,a3,I⟩:=I;have I:=Zcc I (by omega) (by omega);refine Z6 mx my (λσ g w ρ J R=> ?_) I;rw[hX] at J;rw[a2] at R;generalize U:ρ x=v1 at J;generalize a0:ρ ix=v2 at R;cases R;cases J;refine⟨_,run w ρ ti _ a1 ⟨a4,a3⟩ U a0,?_⟩;rw[Y1,dH];exact .eptr (by assumption)
  ·exact I.elim
 ·rename_i el sz a6 z l kd n ht a2
  split at I
  ·rename_i ti a1
   split at I
   ·rename_i th ls full hX
    obtain⟨hw,I⟩:=Wf I;obtain⟨h0,a5,y,hy,I⟩:=Zwd I;refine Z6 mx my (λσ g w ρ J R=> ?_) I;rw[hX] at J;rw[a2] at R;generalize U:ρ x=v1 at J;generalize a0:ρ ix=v2 at R;cases R;obtain⟨base,c,cv,rfl,hl,hm,hf,hn,hb,hd⟩:=V2 J;obtain⟨r,o',rfl,a8⟩:=hb (by omega);refine⟨.pointer (ae ⟨r,o'+n.toNat*E.w th+0,au⟩),?_,.pptr (λj=>cv n.toNat j) (λj hj=>a8 _ _ hy j hj) (λj sv hj=>hd _ _ hy j sv hj)⟩;have a7:0<=n/\n<(ls.length:Int):=⟨h0,a5⟩;unfold execOp;simp only[ho,U,a0,iS,aF,asIntOf,aJ,aA,Zx hE ht,jM a7,Zz hE a1,hw,Y1,ei]
   ·rename_i b off len w' cap hX
    have run:∀(w:World) (ρ:Operand->Value) (r c:Nat),(0<=n/\n<(len:Int))->ti.size=w'->ρ x= .slice (ae ⟨r,off*w',au⟩) len c->ρ ix= .int kd n->(execOp ρ o).run E.P w= .ok (.value (.pointer (ae ⟨r,(off+n.toNat)*w',au⟩))) w:=by
     intro w ρ r c h0 hw U a0;unfold execOp;simp only[ho,U,a0,iS,aF,asIntOf,aJ,aA,Zx hE ht,jM h0,Zz hE a1,hw,Y1,cp]
    split at I
    ·obtain⟨hp,I⟩:=Z9z I
     obtain⟨hw,I⟩:=Wf I;refine Z6 mx my (λσ g w ρ J R=> ?_) I;rw[hX] at J;rw[a2] at R;generalize U:ρ x=v1 at J;generalize a0:ρ ix=v2 at R;cases R;cases J;exact⟨_,run w ρ _ _ hp hw U a0,.ptr (by assumption)⟩
    ·obtain⟨hp,I⟩:=Zu I
     obtain⟨hw,I⟩:=Wf I;obtain⟨_,I⟩:=Wf I;refine Z6 mx my (λσ g w ρ J R=> ?_) I;rw[hX] at J;rw[a2] at R;generalize U:ρ x=v1 at J;generalize a0:ρ ix=v2 at R;cases R;cases J;exact⟨_,run w ρ _ _ hp hw U a0,by simpa using Den.eptr (off:=0) (i:=off+n.toNat) (w:=w') (by assumption)⟩
    ·exact I.elim
   ·exact I.elim
  ·exact I.elim
 ·exact I.elim
end
end
section
open Go.RowKit
section
variable {Y:Thy} {E:Eng Y} {o:Oper} {T:Fr Y} {h:Hp Y} {i:Nat} {k:Res Y->Prop} {call:Nat->List (SV Y)->Hp Y->Nat->(Res Y->Prop)->Prop}
theorem BlkOk.cells_iff{σ:Pl} {g:GH} {w:World} {r z:Nat} {b:Blk Y} (R:∀I,b≠ .map I):BlkOk E σ g w r z b↔
 ∃arr e,w.heap[r]? =ae (.cells arr e (0,0))/\arr.size=z/\(b.cells E).length<=z/\(∀(j:Nat) J,(b.cells E)[j]? =ae J->∃v,arr[j]? =ae v/\Den E σ g J v)/\ElOk E e b:=by
 cases b with
 |map I=>exact ka rfl (R I)
 |raw cs fz tg=>exact fZ
 |rows th l fz=>exact fZ
theorem BlkOk.mono{σ σ':Pl} {g g':GH} {w w':World} {r z:Nat} {b:Blk Y} (a0:Pl.le σ σ') (hg:g.le g') (hw:w'.heap[r]? =w.heap[r]?) (hb:BlkOk E σ g w r z b):BlkOk E σ' g' w' r z b:=by
 cases b with
 |map es=>
  obtain⟨ents,c,I,J,R⟩:=hb;exact⟨ents,c,hw.trans I,J,λj k sv hj=>let⟨v,bo,U,h5⟩:=R j k sv hj;⟨v,bo,U,h5.mono a0 hg⟩⟩
 |raw cs fz tg=>
  obtain⟨arr,e,I,J,R,U,h0⟩:=hb;exact⟨arr,e,hw.trans I,J,R,λj sv hj=>let⟨v,h5,h6⟩:=U j sv hj;⟨v,h5,h6.mono a0 hg⟩,h0⟩
 |rows th l fz=>
  obtain⟨arr,e,I,J,R,U,h0⟩:=hb;exact⟨arr,e,hw.trans I,J,R,λj sv hj=>let⟨v,h5,h6⟩:=U j sv hj;⟨v,h5,h6.mono a0 hg⟩,h0⟩
def updσ(σ:Pl) (i:Nat) (p:Nat×Nat):Pl:=λj=>if j=i then ae p else σ j
theorem Zmy{σ:Pl} {i:Nat} {p:Nat×Nat} (h:σ i=au):Pl.le σ (updσ σ i p):=by
 intro b q I;unfold updσ;by_cases e:b=i
 ·rw[e,h] at I;cases I
 ·rw[jJ e];exact I
theorem Zaa(h:Hp Y) (i:Nat) (v:SV Y) (b:Blk Y) (rd:List Nat):patch h i (fresh i v b rd)=upd h i (ae b):=by
 funext j;simp only[patch,fresh,memB,dG,upd];by_cases R:j=i
 ·subst R
  have I:bP j j=true:=by rw[bu];omega
  have J:aU j (j+1)=true:=by rw[aU,bu];omega
  simp[I,J]
 ·have I:aO j i=false:=by rw[<-bg,fp];exact R
  have J:(bP i j&&aU j (i+1))=false:=by
   rw[bp,<-bg,bu,<-bg,aU,bu];omega
  rw[I,J]
theorem Yc(h:Hp Y) (i b:Nat) (x:Option (Blk Y)) (v:SV Y) (rd:List Nat):patch h i (change b x v rd)=upd h b x:=by
 funext j;simp only[patch,change,memB,upd,ei];have I:(bP i j&&aU j i)=false:=by
  rw[bp,<-bg,bu,<-bg,aU,bu];omega
 rw[I];cases aO j b<;>rfl
theorem Ze{α:Type} (h:Nat->α) (i:Nat) (x:α) (j:Nat):upd h i x j=if j=i then x else h j:=by
 unfold upd;by_cases e:j=i
 ·subst e;simp
 ·have:aO j i=false:=by rw[<-bg,fp];exact e
  rw[this,jJ e]
theorem Zil{B:Nat} {σ:Pl} {g:GH} {w:World} {hh:Hp Y} (U:Inv E B σ hh g w) (hB:B<=w.heap.size) (hi:σ i=au) {arr:Array Value} {e:TypeId} {blk:Blk Y} (hm:∀es,blk≠ .map es)
 (a5:ElOk E e blk) (hl:(blk.cells E).length<=arr.size) (hd:∀(j:Nat) sv,(blk.cells E)[j]? =ae sv->∃v,arr[j]? =ae v/\Den E σ g sv v):
 Inv E B (updσ σ i (w.heap.size,arr.size)) (upd hh i (ae blk)) g (w.alloc (.cells arr e))/\Stp i 1 [] σ g w (updσ σ i (w.heap.size,arr.size)) g (w.alloc (.cells arr e)):=by
 have a0:Pl.le σ (updσ σ i (w.heap.size,arr.size)):=Zmy hi
 have a1:∀r,r<w.heap.size->(w.alloc (.cells arr e)).heap[r]? =w.heap[r]? :=λr hr=>by first|exact heap_alloc_old w _ hr|exact heap_alloc_old w _ r hr
 have a6:(w.alloc (.cells arr e)).heap.size=w.heap.size+1:=by show(w.heap.push _).size=_;simp
 have a3:∀r n v,g.cell r n=ae v->r<w.heap.size:=λr n v hc=>block_lt_of_cell (U.gc r n v hc)
 have a4:∀r es,g.obj r=ae es->r<w.heap.size:=λr es hc=>by obtain⟨c,h⟩:=U.gm r es hc;exact(Array.getElem?_eq_some_iff.1 h).1
 refine⟨⟨?_,?_,?_,?_,?_,?_,?_,U.glob⟩,⟨a0,?_,.refl _,λ_ _ _ h=> .inl h,λ_ _ h=> .inl h,λr hr _=>a1 r hr,by omega,rfl,rfl,rfl,?_⟩⟩
 ·intro r n v hc
  rw[World.cell?_of_block (w:=w) (a1 r (a3 _ _ _ hc))];exact U.gc _ _ _ hc
 ·intro r es hc
  obtain⟨c,h⟩:=U.gm r es hc
  exact⟨c,(a1 r (a4 _ _ hc)).trans h⟩
 ·intro b x hx
  rw[Ze] at hx
  by_cases hb:b=i
  ·rw[jM hb] at hx
   obtain rfl:=bd hx
   refine⟨w.heap.size,arr.size,by simp[updσ,hb],(BlkOk.cells_iff hm).2 ⟨arr,e,heap_alloc_new w _,rfl,hl,λj sv hj=> ?_,a5⟩⟩
   obtain⟨v,I,R⟩:=hd j sv hj
   exact⟨v,I,R.mono a0 (.refl _)⟩
  ·rw[jJ hb] at hx
   obtain⟨r,z,I,R⟩:=U.blk b x hx
   exact⟨r,z,a0 _ _ I,R.mono a0 (.refl _) (a1 r (U.base _ _ _ I).2)⟩
 ·intro b b' r z z' hb a2 I R
  rw[Ze] at hb a2
  unfold updσ at I R
  by_cases J:b=i<;>by_cases e2:b'=i
  ·rw[J,e2]
  ·rw[jM J] at I;rw[jJ e2] at R;cases I
   have:=(U.base _ _ _ R).2;omega
  ·rw[jJ J] at I;rw[jM e2] at R;cases R
   have:=(U.base _ _ _ I).2;omega
  ·rw[jJ J] at I hb;rw[jJ e2] at R a2
   exact U.inj _ _ _ _ _ hb a2 I R
 ·intro b r z I
  unfold updσ at I
  by_cases J:b=i
  ·rw[jM J] at I;cases I;exact⟨hB,by omega⟩
  ·rw[jJ J] at I;have:=U.base _ _ _ I;exact⟨this.1,by omega⟩
 ·intro b x r z n v hx I hc
  rw[Ze] at hx
  unfold updσ at I
  by_cases J:b=i
  ·rw[jM J] at I;cases I;have:=a3 _ _ _ hc;omega
  ·rw[jJ J] at I hx;exact U.fz _ _ _ _ _ _ hx I hc
 ·intro b x r z hx I
  rw[Ze] at hx
  unfold updσ at I
  by_cases J:b=i
  ·rw[jM J] at I;cases I
   cases hg:g.obj w.heap.size with
   |none=>rfl
   |some es=>have:=a4 _ _ hg;omega
  ·rw[jJ J] at I hx;exact U.fm _ _ _ _ hx I
 ·intro b p hb
  unfold updσ at hb
  by_cases J:b=i
  ·right;omega
  ·rw[jJ J] at hb;exact .inl hb
 ·intro b r z I R
  unfold updσ at R
  by_cases J:b=i
  ·rw[jM J] at R;cases R;exact .inl (av _)
  ·rw[jJ J,I] at R;cases R
theorem U1{σ : Pl} {g : GH} {I : SV Y} {v : Value} (hd : Den E σ g I v) (R : leaves I.cells = ac) : I.cells.length = v.cells.size ∧ (∀ (j : Nat) s, I.cells[j]? = ae s → ∃ u, v.cells[j]? = ae u ∧ Den E σ g s u) := by
  by_cases ha : ∃ cs, I = .agg cs
  ·obtain⟨cs, rfl⟩ := ha
   obtain⟨arr, c, rfl, hs, U, hd⟩ := Yk hd;exact⟨hs.symm, λj s J => ⟨c j, U j (ai.1 J).1, hd j s J⟩⟩
  ·have U : I.cells = [I] := by cases I <;> first | rfl | exact ka ⟨_, rfl⟩ ha
   rw[U] at R ⊢;have a0 : leaf I = true := by simp only[leaves] at R; split at R <;> first | assumption | cases R
   have hv : v.cells = #[v] := by have := Uo a0 hd; cases v <;> first | rfl | cases this
   rw[hv];refine⟨rfl, λj s J => ?_⟩;cases j with
   | zero => obtain rfl : I = s := by simpa using J
             exact⟨v, rfl, hd⟩
   | succ j => simp at J
theorem Vx{cs : List (SV Y)} (h : leaves cs = ac) {j : Nat} {s : SV Y} (I : cs[j]? = ae s) : leaf s = true := by
  induction cs generalizing j with
  | nil => simp at I
  | cons x r J =>
    simp only[leaves] at h;split at h
    ·cases j with
     | zero => obtain rfl : x = s := by simpa using I
               assumption
     | succ j => exact J h (by simpa using I)
    ·cases h
theorem Zab{rd:List Nat} {v:SV Y} {blk:Blk Y} (hm:∀J,blk≠ .map J)
 (H:∀(σ:Pl) (g:GH) (w:World) (ρ:Operand->Value),(∀x∈o.op.operands.toList,Den E σ g (ev T x) (ρ x))->
  ∃arr e u,(execOp ρ o).run E.P w= .ok (.value u) (w.alloc (.cells arr e))/\ElOk E e blk/\(blk.cells E).length<=arr.size/\(∀(j:Nat) I,(blk.cells E)[j]? =ae I->∃v,arr[j]? =ae v/\Den E σ g I v)/\
   ∀σ',σ' i=ae (w.heap.size,arr.size)->Den E σ' g v u) (hk:k (fresh i v blk rd)):∃r,k r/\OpTri E o T h i r:=by
 refine⟨_,hk,λb hb=>by simp[fresh] at hb,?_⟩
 intro B σ g w ρ hh a3 hI hB a1 hx
 obtain⟨arr,e,u,a2,a0,hl,hd,hv⟩:=H σ g w ρ hx
 obtain⟨R,U⟩:=Zil (i:=i) hI hB (a1 i (av _) (dC _)) (arr:=arr) (e:=e) hm a0 hl hd
 refine Yp a2 ⟨_,_,U,?_,hv _ (by simp[updσ])⟩
 rw[Zaa];exact R
theorem V3(U:EngOk E) {t:TypeId} {I:TyI} (ht:E.ty t=ae I) (w:World):(zeroValue t).run E.P w= .ok I.zero w:=by
 obtain⟨_,info,J,_,_,R⟩:=U.ty _ _ ht;simp[zeroValue,typeInfo,J,R,go_sem]
theorem Yi(v : Value) : (Yn v : SV Y).cells.length = v.cells.size ∧ ∀ (σ : Pl) (g : GH) (j : Nat) s, (Yn v : SV Y).cells[j]? = ae s → ∃ u, v.cells[j]? = ae u ∧ Den E σ g s u := by
  by_cases J : ∃ cs, v = .agg cs
  ·obtain⟨cs, rfl⟩ := J
   refine⟨by simp[Yn, SV.cells, Value.cells], λσ g j s I => ?_⟩;simp only[Yn, SV.cells, bv] at I;obtain⟨u, hu, rfl⟩ := br.1 I;exact⟨u, by simpa[Value.cells] using hu, Zcp E σ g u⟩
  ·have R : (Yn v : SV Y) = Zhw v := by cases v <;> first | rfl | exact ka ⟨_, rfl⟩ J
   have U : (Zhw v : SV Y).cells = [Zhw v] := by cases v <;> rfl
   have h3 : v.cells = #[v] := by cases v <;> first | rfl | exact ka ⟨_, rfl⟩ J
   rw[R, U, h3];refine⟨rfl, λσ g j s I => ?_⟩;cases j with
   | zero => obtain rfl : Zhw v = s := by simpa using I
             exact⟨v, rfl, Zcp E σ g v⟩
   | succ j => simp at I
theorem Z96(hE:EngOk E) {t:TypeId} (ho:o.op= .alloc t) (I:Us E t i k):∃r,k r/\OpTri E o T h i r:=by
 unfold Us at I;split at I
 ·rename_i J ht
  refine Zab (by intro es e;cases e) (λσ g w ρ hx=> ?_) I;obtain⟨R,U⟩:=Yi (E:=E) J.zero;refine⟨J.zero.cells,t,.pointer (ae ⟨w.heap.size,0,au⟩),?_,jX,iI R,λj sv hj=>U σ g j sv hj,λσ' a0=> .ptr a0⟩;unfold execOp;simp only[ho,Instr.alloc,aF,V3 hE ht,aA,newVar,newRow,newObj,hZ,aJ];rfl
 ·exact I.elim
theorem Ylh{t:TypeId} {x:Operand} (J:o.op= .box t x) (I:Zh1 (ev T x) i k):∃r,k r/\OpTri E o T h i r:=by
 unfold Zh1 at I;split at I
 ·rename_i hl
  refine Zab (by intro es e;cases e) (λσ g w ρ hx=> ?_) I;obtain⟨R,U⟩:=U1 (hx x (by simp[J,aQ])) hl;refine⟨(ρ x).cells,t,.pointer (ae ⟨w.heap.size,0,au⟩),?_,jX,iI R,λj sv hj=>U j sv hj,λσ' a0=> .ptr a0⟩;unfold execOp;simp only[J,Instr.box,aF,aA,newVar,newRow,newObj,hZ,aJ];rfl
 ·exact I.elim
end
end
section
open Go.RowKit
section
variable {Y:Thy} {E:Eng Y} {o:Oper} {T:Fr Y} {h:Hp Y} {i:Nat} {k:Res Y->Prop} {call:Nat->List (SV Y)->Hp Y->Nat->(Res Y->Prop)->Prop}
theorem Y3(I:EngOk E) (th:Y.Th) (l:List (Y.dom th)) {m:Nat} {s:SV Y} (h:(l.flatMap (E.enc th))[m]? =ae s):∃q p x,m=q*E.w th+p/\p<E.w th/\l[q]? =ae x/\(E.enc th x)[p]? =ae s:=by
 have a0:m<l.length*E.w th:=by rw[<-Zv I];exact(ai.1 h).1
 have U:=I.pos th;have J:m=m/E.w th*E.w th+m%E.w th:=by rw[Nat.mul_comm];exact(Nat.div_add_mod _ _).symm
 have hq:m/E.w th<l.length:=(Nat.div_lt_iff_lt_mul U).2 a0;have R:m%E.w th<E.w th:=ja _ U;have hx:=ao hq;refine⟨_,_,_,J,R,hx,?_⟩;rw[<-Y7 I th l _ _ hx _ R,<-J];exact h
theorem Zdg{B : Nat} {σ : Pl} {g : GH} {w : World} {hh : Hp Y} (U : Inv E B σ hh g w) {b r z : Nat} {blk blk' : Blk Y} (hb : hh b = ae blk) (a0 : σ b = ae (r, z)) {arr arr' : Array Value} {e : TypeId} (ha : w.heap[r]? = ae (.cells arr e (0, 0))) (hs : arr'.size = arr.size)
    (hz : arr.size = z) (a3 : ElOk E e blk') (hm : ∀ es, blk' ≠ .map es) (hf : blk'.fzc E = blk.fzc E) (a4 : ∀ n, n < blk.fzc E → arr'[n]? = arr[n]?) (hl : (blk'.cells E).length ≤ z) (hd : ∀ (j : Nat) sv, (blk'.cells E)[j]? = ae sv → ∃ v, arr'[j]? = ae v ∧ Den E σ g sv v) :
    Inv E B σ (upd hh b (ae blk')) g (w.setRow r arr') ∧ Stp i 0 [b] σ g w σ g (w.setRow r arr') := by
  have a1 : ∀ q, q ≠ r → (w.setRow r arr').heap[q]? = w.heap[q]? := λq hq => setRow_other w r q arr' hq
  have a5 : ∀ R r' z', hh R ≠ au → σ R = ae (r', z') → R ≠ b → r' ≠ r := by
    intro R r' z' I h2 h3 e
    subst e
    exact h3 (U.inj _ _ _ _ _ I (by rw[hb]; simp) h2 a0)
  refine⟨⟨?_, ?_, ?_, ?_, ?_, ?_, ?_, U.glob⟩, ⟨.refl _, λb p h => .inl h, .refl _, λ_ _ _ h => .inl h, λ_ _ h => .inl h, λq hq a6 => a1 q λe => a6 b (by simp) z (e ▸ a0), by simp, rfl, rfl, rfl, λR r' z' I h2 => by rw[I] at h2; cases h2⟩⟩
  ·intro q n v hc
   have a2 := U.gc _ _ _ hc
   by_cases e : q = r
   ·subst e
    rw[cell_setRow_same w q n arr arr' _ _ ha, a4 n (U.fz _ _ _ _ _ _ hb a0 hc)]
    simpa[World.cell?, ha] using a2
   ·rw[cell_setRow_other w r arr' _ (by simpa using e)]; exact a2
  ·intro q es hc
   obtain⟨c, h⟩ := U.gm _ _ hc
   have : q ≠ r := by rintro rfl; rw[ha] at h; cases h
   exact⟨c, (a1 q this).trans h⟩
  ·intro R x J
   rw[Ze] at J
   by_cases e1 : R = b
   ·rw[jM e1] at J
    obtain rfl := bd J
    subst e1
    exact⟨r, z, a0, (BlkOk.cells_iff hm).2 ⟨arr', e, setRow_heap w r arr arr' _ _ ha, by omega, hl, hd, a3⟩⟩
   ·rw[jJ e1] at J
    obtain⟨r', z', I, h2⟩ := U.blk _ _ J
    exact⟨r', z', I, h2.mono (.refl _) (.refl _) (a1 _ (a5 _ _ _ (by rw[J]; simp) I e1))⟩
  ·intro b1 b2 r' z1 z2 I h2 k1 k2
   rw[Ze] at I h2
   have q1 : hh b1 ≠ none := by by_cases e : b1 = b; · rw[e, hb]; simp
                                ·rw[jJ e] at I; exact I
   have q2 : hh b2 ≠ none := by by_cases e : b2 = b; · rw[e, hb]; simp
                                ·rw[jJ e] at h2; exact h2
   exact U.inj _ _ _ _ _ q1 q2 k1 k2
  ·intro R r' z' I
   have := U.base _ _ _ I
   exact⟨this.1, by simpa using this.2⟩
  ·intro R x r' z' n v J I hc
   rw[Ze] at J
   by_cases e1 : R = b
   ·rw[jM e1] at J
    obtain rfl := bd J
    subst e1
    rw[hf]; exact U.fz _ _ _ _ _ _ hb I hc
   ·rw[jJ e1] at J; exact U.fz _ _ _ _ _ _ J I hc
  ·intro R x r' z' J I
   rw[Ze] at J
   by_cases e1 : R = b
   ·subst e1; exact U.fm _ _ _ _ hb I
   ·rw[jJ e1] at J; exact U.fm _ _ _ _ J I
theorem Yw{α:Type} (cs I:List α) (off:Nat) (a0:off+I.length<=cs.length) (j:Nat):(cs.take off++I++cs.drop (off+I.length))[j]? =if j<off then cs[j]? else if j<off+I.length then I[j-off]? else cs[j]? :=by
 by_cases J:j<off
 ·rw[jM J,be,bJ (by simp;omega),bO,jM J]
 ·rw[jJ J,be,bx (by simp;omega)]
  have U:(List.take off cs).length=off:=by simp;omega
  rw[U];by_cases R:j<off+I.length
  ·rw[jM R,bJ (by omega)]
  ·rw[jJ R,bx (by omega),cO]
   congr 1;omega
theorem Zbc(R:EngOk E) {t:TypeId} {I:TyI} (ht:E.ty t=ae I) {x v:Operand} (ho:o.op= .store t x v) (w:World) (ρ:Operand->Value) (r off:Nat) (arr:Array Value) (e:TypeId) (hx:ρ x= .pointer (ae ⟨r,off,au⟩)) (U:w.heap[r]? =ae (.cells arr e (0,0)))
 (hs:(ρ v).cells.size=I.size) (hf:off+(ρ v).cells.size<=arr.size) (J:∀u∈(ρ v).cells.toList,u.oneCell'=ac):
 (execOp ρ o).run E.P w= .ok .skip (w.setRow r (arr.toList.take off++(ρ v).cells.toList++arr.toList.drop (off+(ρ v).cells.toList.length)).toArray):=by
 have:=run_storeCells_at (P:=E.P) r off e (ρ v).cells.toList 0 arr w U (by simpa using hf) J
 unfold execOp
 simp only[ho,Instr.storeAt,hx,aF,eH,aJ,aA,storeVar,Zz R ht,hs]
 simp only[ne_eq,iU,kM]
 simp only[aF,aJ,aA,this,ei]
theorem Zpe(hE:EngOk E) {t:TypeId} {x v:Operand} (ho:o.op= .store t x v) (J:Zvg E t (ev T x) (ev T v) h k):∃r,k r/\OpTri E o T h i r:=by
 have mx:x∈o.op.operands.toList:=by simp[ho,aQ]
 have mv:v∈o.op.operands.toList:=by simp[ho,aQ]
 unfold Zvg at J;split at J
 ·exact J.elim
 ·rename_i ti ht
  split at J
  ·exact J.elim
  ·rename_i a3
   simp only[aq,fO] at a3;obtain⟨c5,a3⟩:=a3;split at J
   ·rename_i b off hX
    split at J
    ·rename_i cs fz tg hb
     split at J
     ·rename_i b9
      simp only[aq,bu] at b9;refine⟨_,J,λb' U=>by(simp[change] at U;subst U;rw[hb];simp),?_⟩;intro B σ g w ρ hh c1 hI hB c9 hx;have U:hh b=ae (.raw cs fz tg):=(c1 b (by simp[Rd,change])).trans hb;have h1:=hx x mx;rw[hX] at h1;generalize c4:ρ x=v1 at h1;cases h1;rename_i r z b1;obtain⟨r',z',b2,b4⟩:=hI.blk b _ U;rw[b1] at b2;cases b2;obtain⟨arr,e,ha,hz,a6,a4,a7⟩:=(BlkOk.cells_iff (by intro es e;cases e)).1 b4;obtain⟨a1,a5⟩:=U1 (hx v mv) a3;have d8:cs.length<=arr.size:=by rw[hz];exact a6
      have c0:∀u∈(ρ v).cells.toList,u.oneCell'=true:=by
       intro u I;obtain⟨j,R,rfl⟩:=dd I;have a8:j<(ev T v).cells.length:=by rw[a1];simpa using R
       obtain⟨u',a2,b5⟩:=a5 j _ (ao a8);have:(ρ v).cells.toList[j]=u':=by
        have b6:j<(ρ v).cells.size:=by simpa using R
        rw[cX b6] at a2
        simpa using bd a2
       rw[this];exact Uo (Vx a3 (ao a8)) b5
      have c2:=Zbc hE ht ho w ρ r off arr e c4 ha (by rw[<-a1,c5]) (by rw[<-a1];omega) c0;have c3:=Yw cs (ev T v).cells off (by omega);have b0:(ρ v).cells.toList.length=(ev T v).cells.length:=by rw[a1];simp
      have a9:=Yw arr.toList (ρ v).cells.toList off (by rw[b0];simp;omega);obtain⟨b3,hS⟩:=Zdg (i:=i) hI (blk':= .raw (Wa cs off (ev T v).cells) fz tg) U b1 (arr':=(arr.toList.take off++(ρ v).cells.toList++arr.toList.drop (off+(ρ v).cells.toList.length)).toArray) ha (by simp;omega) hz (by first|exact a7|(cases tg<;>exact a7)) (by intro es e;cases e) rfl
       (λn hn=>by rw[bU,a9,jM (by simp only[Blk.fzc] at hn;omega)];simp) (by simp only[Blk.cells,Wa,az,List.length_take,List.length_drop];omega)
       (λj sv R=>by
        simp only[Blk.cells,Wa] at R;rw[c3] at R;rw[bU,a9,b0];by_cases q1:j<off
        ·rw[jM q1] at R⊢
         obtain⟨u,I,hd⟩:=a4 j sv R;exact⟨u,by simpa using I,hd⟩
        ·rw[jJ q1] at R⊢
         by_cases q2:j<off+(ev T v).cells.length
         ·rw[jM q2] at R⊢
          obtain⟨u,I,hd⟩:=a5 _ _ R;exact⟨u,by simpa using I,hd⟩
         ·rw[jJ q2] at R⊢
          obtain⟨u,I,hd⟩:=a4 j sv R
          exact⟨u,by simpa using I,hd⟩)
      refine Zbe c2 ⟨σ,g,hS,?_,.unk _⟩;rw[Yc];exact b3
     ·exact J.elim
    ·exact J.elim
   ·rename_i b j w' off hX
    split at J
    ·rename_i th l fz hb
     obtain⟨d7,b7⟩:=Wf J;clear J;subst d7;obtain⟨d4,b7⟩:=Zu b7;obtain⟨R,y,hy,J⟩:=Z3t b7;split at J
     ·rename_i y' b9 c8
      rw[bu,hE.enc] at b9;refine⟨_,Zvf J,λb' U=>by(simp[change] at U;subst U;rw[hb];simp),?_⟩;intro B σ g w ρ hh c1 hI hB c9 hx;have U:hh b=ae (.rows th l fz):=(c1 b (by simp[Rd,change])).trans hb;have h1:=hx x mx;rw[hX] at h1;generalize c4:ρ x=v1 at h1;cases h1;rename_i r z b1;obtain⟨r',z',b2,b4⟩:=hI.blk b _ U;rw[b1] at b2;cases b2;obtain⟨arr,e,ha,hz,a6,a4,a7⟩:=(BlkOk.cells_iff (by intro es e;cases e)).1 b4;simp only[Blk.cells] at a6 a4;rw[Zv hE] at a6;obtain⟨a1,a5⟩:=U1 (hx v mv) a3;obtain⟨d9,c7⟩:=hE.dec _ _ _ c8;have e0:j*E.w th+E.w th<=l.length*E.w th:=by
       have:=bb (E.w th) (show j+1<=l.length from R)
       rwa[cp,iH] at this
      have c0:∀u∈(ρ v).cells.toList,u.oneCell'=true:=by
       intro u I;obtain⟨j,R,rfl⟩:=dd I;have a8:j<(ev T v).cells.length:=by rw[a1];simpa using R
       obtain⟨u',a2,b5⟩:=a5 j _ (ao a8);have:(ρ v).cells.toList[j]=u':=by
        have b6:j<(ρ v).cells.size:=by simpa using R
        rw[cX b6] at a2
        simpa using bd a2
       rw[this];exact Uo (Vx a3 (ao a8)) b5
      have b0:(ρ v).cells.toList.length=(ev T v).cells.length:=by rw[a1];simp
      have c2:=Zbc hE ht ho w ρ r (j*E.w th+off) arr e c4 ha (by rw[<-a1,c5]) (by rw[<-a1];omega) c0;have c3:=Yw (E.enc th y) (ev T v).cells off (by rw[hE.enc];omega);have a9:=Yw arr.toList (ρ v).cells.toList (j*E.w th+off) (by rw[b0];simp;omega);obtain⟨b3,hS⟩:=Zdg (i:=i) hI (blk':= .rows th (l.set j y') fz) U b1 (arr':=(arr.toList.take (j*E.w th+off)++(ρ v).cells.toList++arr.toList.drop (j*E.w th+off+(ρ v).cells.toList.length)).toArray) ha (by simp;omega) hz (by first|exact a7|(cases tg<;>exact a7)) (by intro es e;cases e) rfl
       (λn hn=>by
        simp only[Blk.fzc] at hn;have:=bb (E.w th) d4
        rw[bU,a9,jM (by omega)];simp) (by simp only[Blk.cells];rw[Zv hE,List.length_set];exact a6)
       (λm sv hm=>by
        simp only[Blk.cells] at hm;obtain⟨q,p,x,rfl,hp,hq,hs⟩:=Y3 hE th _ hm;rw[bU,a9,b0];by_cases e1:q=j
        ·subst e1
         rw[List.getElem?_set_self (by omega)] at hq;obtain rfl:=bd hq;have a0:(Wa (E.enc th y) off (ev T v).cells)[p]? =ae (Wa (E.enc th y) off (ev T v).cells)[p]:=ao (by omega);generalize (Wa (E.enc th y) off (ev T v).cells)[p]=s0 at a0;have b8:∀u,Den E σ g s0 u->Den E σ g sv u:=λu I=>c7 σ g p s0 sv u a0 hs I;simp only[Wa] at a0;rw[c3] at a0;have c6:∀s,(E.enc th y)[p]? =ae s->∃u,arr.toList[q*E.w th+p]? =ae u/\Den E σ g s u:=by
          intro s hs;obtain⟨u,I,hd⟩:=a4 (q*E.w th+p) s (by rw[Y7 hE th l q y hy p hp];exact hs);exact⟨u,by simpa using I,hd⟩
         by_cases q1:p<off
         ·rw[jM q1] at a0;rw[jM (by omega)]
          obtain⟨u,I,hd⟩:=c6 _ a0;exact⟨u,I,b8 u hd⟩
         ·rw[jJ q1] at a0;rw[jJ (by omega)]
          by_cases q2:p<off+(ev T v).cells.length
          ·rw[jM q2] at a0;rw[jM (by omega)]
           obtain⟨u,I,hd⟩:=a5 _ _ a0;refine⟨u,?_,b8 u hd⟩;rw[show q*E.w th+p-(q*E.w th+off)=p-off by omega]
           simpa using I
          ·rw[jJ q2] at a0;rw[jJ (by omega)]
           obtain⟨u,I,hd⟩:=c6 _ a0;exact⟨u,I,b8 u hd⟩
        ·rw[List.getElem?_set_ne (λe=>e1 e.symm)] at hq
         obtain⟨u,I,hd⟩:=a4 (q*E.w th+p) sv (by rw[Y7 hE th l q x hq p hp];exact hs);refine⟨u,?_,hd⟩;have a2:arr.toList[q*E.w th+p]? =ae u:=by simpa using I
         rcases Nat.lt_or_gt_of_ne e1 with d6|d5
         ·have:=bb (E.w th) (show q+1<=j from d6)
          rw[cp,iH] at this;rw[jM (by omega)];exact a2
         ·have:=bb (E.w th) (show j+1<=q from d5)
          rw[cp,iH] at this
          rw[jJ (by omega),jJ (by omega)];exact a2)
      refine Zbe c2 ⟨σ,g,hS,?_,.unk _⟩;rw[Yc];exact b3
     ·exact J.elim
    ·exact J.elim
   ·exact J.elim
end
end
section
open Go.RowKit
section
variable {Y:Thy} {E:Eng Y} {o:Oper} {T:Fr Y} {h:Hp Y} {i:Nat} {k:Res Y->Prop} {call:Nat->List (SV Y)->Hp Y->Nat->(Res Y->Prop)->Prop}
def DenA(E:Eng Y) (σ:Pl) (g:GH) (cs:List (SV Y)) (arr:Array Value):Prop:=cs.length=arr.size/\∀(j:Nat) s,cs[j]? =ae s->∃u,arr[j]? =ae u/\Den E σ g s u
theorem Z4b(off:Nat):∀(l:List Value) (n:Nat) (cells:Array Value),off+n+l.length<=cells.size->
 ((l.zipIdx n).foldl (λcs p=>cs.setIfInBounds (off+p.2) p.1) cells).size=cells.size/\
 ∀j,((l.zipIdx n).foldl (λcs p=>cs.setIfInBounds (off+p.2) p.1) cells)[j]? =if off+n<=j/\j<off+n+l.length then l[j-(off+n)]? else cells[j]? :=by
 intro l
 induction l with
 |nil=>intro n cells _;refine⟨rfl,λj=> ?_⟩;rw[jJ (by rintro⟨J,I⟩;simp at I;omega)];rfl
 |cons x l U=>
  intro n cells R
  simp only[aE] at R
  obtain⟨J,I⟩:=U (n+1) (cells.setIfInBounds (off+n) x) (by simp;omega)
  simp only[List.zipIdx_cons,List.foldl_cons]
  refine⟨by rw[J];simp,λj=> ?_⟩
  rw[I j]
  simp only[aE]
  by_cases e:j=off+n
  ·subst e
   rw[jJ (by omega),jM (by omega),cY,jM rfl,jM (by omega)]
   simp
  ·by_cases c:off+(n+1)<=j/\j<off+(n+1)+l.length
   ·rw[jM c,jM (by omega),show j-(off+n)=(j-(off+(n+1)))+1 by omega,List.getElem?_cons_succ]
   ·rw[jJ c,jJ (by omega),cY,jJ (λh=>e h.symm)]
theorem Zen{σ:Pl} {g:GH} {place:Nat->Option (Nat×Nat)}:∀(parts:List (Nat×SV Y)) (I:List (Nat×Value)) (cells cs:List (SV Y)) (arr:Array Value),DenA E σ g cells arr->
 parts.length=I.length->(∀(j:Nat) p q,parts[j]? =ae p->I[j]? =ae q->p.1=q.1/\Den E σ g p.2 q.2)->Zd7 place cells parts=ae cs->
 ∃arr',jF place arr I=ae arr'/\DenA E σ g cs arr':=by
 intro parts
 induction parts with
 |nil=>
  intro I cells cs arr U hl _ R
  have:I= []:=by cases I<;>first|rfl|simp at hl
  subst this
  obtain rfl:cells=cs:=by simpa[Zd7] using R
  exact⟨arr,rfl,U⟩
 |cons p parts ih=>
  intro I cells cs arr U hl hP R
  cases I with
  |nil=>simp at hl
  |cons q I=>
   obtain⟨n,sv⟩:=p
   obtain⟨n',v⟩:=q
   obtain⟨rfl,hd⟩:=hP 0 _ _ rfl rfl
   simp only[Zd7] at R
   split at R
   ·cases R
   ·rename_i off size a5
    split at R
    ·rename_i hc
     simp only[aq,fO,bu] at hc
     obtain⟨⟨hs,a4⟩,a8⟩:=hc
     obtain⟨a0,a2⟩:=U1 hd a4
     have a0:sv.cells.length=v.cells.size:=a0
     have a7:=U.1
     have hb:off+0+v.cells.toList.length<=arr.size:=by simp;omega
     obtain⟨f1,f2⟩:=Z4b off v.cells.toList 0 arr hb
     have a3:(v.cells.zipIdx.foldl (λcs (x:Value×Nat)=>cs.setIfInBounds (off+x.2) x.1) arr)=((v.cells.toList.zipIdx 0).foldl (λcs p=>cs.setIfInBounds (off+p.2) p.1) arr):=by
      rw[<-Array.foldl_toList];simp
     have a6:=Yw cells sv.cells off (by omega)
     have a1:DenA E σ g (Wa cells off sv.cells) ((v.cells.toList.zipIdx 0).foldl (λcs p=>cs.setIfInBounds (off+p.2) p.1) arr):=by
      refine⟨by rw[f1];simp[Wa];omega,λj s J=> ?_⟩
      simp only[Wa] at J
      rw[a6] at J
      rw[f2]
      by_cases q1:j<off
      ·rw[jM q1] at J;rw[jJ (by omega)];exact U.2 j s J
      ·rw[jJ q1] at J
       by_cases q2:j<off+sv.cells.length
       ·rw[jM q2] at J
        obtain⟨u,hu,hd⟩:=a2 _ _ J
        rw[jM (by simp;omega)]
        exact⟨u,by simpa using hu,hd⟩
       ·rw[jJ q2] at J
        rw[jJ (by simp;omega)]
        exact U.2 j s J
     obtain⟨arr',h1,h2⟩:=ih I _ cs _ a1 (by simpa using hl) (λj p q h1 h2=>hP (j+1) p q (by simpa using h1) (by simpa using h2)) R
     refine⟨arr',?_,h2⟩
     simp only[jF,a5]
     rw[jJ (by simp;omega),a3]
     exact h1
    ·cases R
theorem Zzm(J:EngOk E):∀(I:List Field) (pl:List (Nat×Nat)),Zh0 E I=ae pl->I.mapM (λf=>(E.P.info? f.type).map λi=>(f.offset,i.size))=ae pl:=by
 intro I
 induction I with
 |nil=>intro pl h;simp[Zh0] at h;subst h;rfl
 |cons f r ih=>
  intro pl h;simp only[Zh0] at h;split at h
  ·rename_i ti l ht R
   obtain rfl:=bd h;have:=Z8m J ht;obtain⟨info,hi,U⟩:=br.1 this;simp only[List.mapM_cons,hi,ih _ R,cm,U];rfl
  ·cases h
theorem Zeo{σ:Pl} {g:GH} {ρ:Operand->Value} {parts:Array (Nat×Operand)} (U:∀x∈(parts.toList.map (·.2)),Den E σ g (ev T x) (ρ x)):
 (parts.toList.map λp=>(p.1,ev T p.2)).length=(parts.map λ(n,x)=>(n,ρ x)).toList.length/\∀(j:Nat) p q,(parts.toList.map λp=>(p.1,ev T p.2))[j]? =ae p->(parts.map λ(n,x)=>(n,ρ x)).toList[j]? =ae q->p.1=q.1/\Den E σ g p.2 q.2:=by
 refine⟨by simp,λj p q I J=> ?_⟩
 rw[bv] at I
 obtain⟨y,R,rfl⟩:=br.1 I
 simp only[Array.toList_map,bv,R,cm,cr] at J
 subst J
 exact⟨rfl,U _ (List.mem_map_of_mem (aL R))⟩
theorem Zli{σ:Pl} {g:GH} (v:Value):DenA E σ g (Yn v).cells v.cells:=by
 obtain⟨I,J⟩:=Yi (E:=E) v;exact⟨I,λj s R=>J σ g j s R⟩
theorem Zwl{σ:Pl} {g:GH} {cs:List (SV Y)} {arr:Array Value} (h:DenA E σ g cs arr):Den E σ g (.agg cs) (.agg arr):=by
 refine .agg (λj=>arr.getD j undef) h.1.symm (λj I=> ?_) (λj s I=> ?_)
 ·have:j<arr.size:=by rw[<-h.1];exact I
  simp[ee,this]
 ·obtain⟨u,J,hd⟩:=h.2 j s I
  rw[aS,J];exact hd
theorem Z4c(R:EngOk E) {t:TypeId} {parts:Array (Nat×Operand)} (ho:o.op= .build t parts) (I:Z19 E t (parts.toList.map λp=>(p.1,ev T p.2)) k):∃r,k r/\OpTri E o T h i r:=by
 have mx:∀x,x∈parts.toList.map (·.2)->x∈o.op.operands.toList:=by intro x J;simpa[ho,aQ] using J
 unfold Z19 at I;split at I
 ·rename_i fs sz a0 z ht
  split at I
  ·rename_i pl a3
   split at I
   ·rename_i cs hf
    refine⟨_,I,Zr λB σ g w ρ hh _ hI J=> ?_⟩;obtain⟨p1,p2⟩:=Zeo (E:=E) (σ:=σ) (g:=g) (T:=T) (ρ:=ρ) (parts:=parts) (λx hm=>J x (mx x hm));obtain⟨arr',U,h2⟩:=Zen _ _ _ _ _ (Zli z) p1 p2 hf;refine⟨.agg arr',?_,Zwl h2⟩;obtain⟨hu,info,hi,_,_,hz⟩:=R.ty _ _ ht;have hb:E.P.built t (parts.map λ(n,x)=>(n,ρ x)).toList=ae arr':=by
     unfold Program.built;rw[hi,hu];simp only[hz,Zzm R _ _ a3,bU];exact U
    unfold execOp;simp only[ho,aF,run_build w t _ arr' hb,aA,aJ]
   ·exact I.elim
  ·exact I.elim
 ·rename_i n el sz a0 z ht
  split at I
  ·rename_i ti a1
   split at I
   ·rename_i cs hf
    refine⟨_,I,Zr λB σ g w ρ hh _ hI J=> ?_⟩;obtain⟨p1,p2⟩:=Zeo (E:=E) (σ:=σ) (g:=g) (T:=T) (ρ:=ρ) (parts:=parts) (λx hm=>J x (mx x hm));obtain⟨arr',U,h2⟩:=Zen _ _ _ _ _ (Zli z) p1 p2 hf;refine⟨.agg arr',?_,Zwl h2⟩;obtain⟨hu,info,hi,_,_,hz⟩:=R.ty _ _ ht;obtain⟨_,a5,a2,a4,_⟩:=R.ty _ _ a1;have hb:E.P.built t (parts.map λ(n,x)=>(n,ρ x)).toList=ae arr':=by
     unfold Program.built;rw[hi,hu];simp only[hz,a2,a4];exact U
    unfold execOp;simp only[ho,aF,run_build w t _ arr' hb,aA,aJ]
   ·exact I.elim
  ·exact I.elim
 ·exact I.elim
theorem Z4d{α:Type} {z:List α} {s:Nat} (J:z.length=s) (U:0<s):∀(n j:Nat),((aR n z).flatten)[j]? =if j<n*s then z[j%s]? else none:=by
 intro n
 induction n with
 |zero=>intro j;simp
 |succ n R=>
  intro j;rw[List.replicate_succ,List.flatten_cons];by_cases I:j<s
  ·rw[bJ (by omega),Nat.mod_eq_of_lt I,jM (by rw[cp];omega)]
  ·rw[bx (by omega),R,J,show j%s=(j-s)%s by rw[Nat.mod_eq_sub_mod (by omega)]]
   by_cases c:j-s<n*s
   ·rw[jM c,jM (by rw[cp];omega)]
   ·rw[jJ c,jJ (by rw[cp];omega)]
theorem Zwm{el:TypeId} {cs:List (SV Y)} {fz:Nat}:ElOk E el (.raw cs fz (Zcx E el)):=by
 unfold Zcx;split
 ·split
  ·rename_i h;exact(ax h).symm
  ·trivial
 ·trivial
theorem Zkv(hE:EngOk E) {t:TypeId} {len:Nat} {parts:Array (Nat×Operand)} (ho:o.op= .buildSlice t len parts) (J:Zda E t len (parts.toList.map λp=>(p.1,ev T p.2)) i k):∃r,k r/\OpTri E o T h i r:=by
 have mx:∀x,x∈parts.toList.map (·.2)->x∈o.op.operands.toList:=by intro x hx;simpa[ho,aQ] using hx
 unfold Zda at J;split at J
 ·rename_i el sz b3 z ht
  split at J
  ·rename_i I a7
   split at J
   ·rename_i cs hc hf
    simp only[aq,bu] at hc;obtain⟨⟨b6,b4⟩,h0,U⟩:=hc;have h0:0<I.size:=Yq h0;have U:(Yn I.zero:SV Y).cells.length=I.size:=ax U;have a4:I.zero.cells.size=I.size:=by rw[<-(Yi (E:=E) I.zero).1];exact U
    refine Zab (by intro es e;cases e) (λσ g w ρ hx=> ?_) J;obtain⟨p1,p2⟩:=Zeo (E:=E) (σ:=σ) (g:=g) (T:=T) (ρ:=ρ) (parts:=parts) (λx hm=>hx x (mx x hm));have hA:DenA E σ g ((aR len (Yn I.zero:SV Y).cells).flatten) ((iB (len*I.size)).map (I.zero.cells[· %I.zero.cells.size]!)):=by
     have hr:=Z4d U h0 len;refine⟨?_,λj s R=> ?_⟩
     ·rw[Array.size_map,Array.size_range]
      simp[U]
     ·rw[hr] at R
      by_cases c:j<len*I.size
      ·rw[jM c] at R
       obtain⟨u,hu,hd⟩:=(Yi (E:=E) I.zero).2 σ g _ s R;refine⟨u,?_,hd⟩;have b5:j%I.size<I.zero.cells.size:=by rw[a4];exact ja _ h0
       rw[Array.getElem?_map,Array.getElem?_range,jM c,cm,a4];have he:I.zero.cells[j%I.size]! =u:=by simp[getElem!_def,hu]
       rw[he]
      ·rw[jJ c] at R;cases R
    obtain⟨arr',h1,h2⟩:=Zen _ _ _ _ _ hA p1 p2 hf;obtain⟨hu,_⟩:=hE.ty _ _ ht;obtain⟨_,a5,a3,a0,_,b1⟩:=hE.ty _ _ a7;have a2:=h2.1;have a9:arr'.size=len*I.size:=by
     have:∀(ps:List (Nat×SV Y)) (cells cs:List (SV Y)) (pl:Nat->Option (Nat×Nat)),Zd7 pl cells ps=ae cs->cs.length=cells.length:=by
      intro ps
      induction ps with
      |nil=>intro cells cs pl h;simp[Zd7] at h;rw[h]
      |cons p ps ih=>
       intro cells cs pl h;simp only[Zd7] at h;split at h
       ·cases h
       ·split at h
        ·rename_i a6
         simp only[aq,bu,fO] at a6;rw[ih _ _ _ h];simp[Wa];omega
        ·cases h
     rw[<-a2,this _ _ _ _ hf,hA.1];simp
    refine⟨arr',el,.slice (ae ⟨w.heap.size,0,au⟩) len len,?_,Zwm,iI a2,λj s R=>h2.2 j s R,λσ' b2=> ?_⟩
    ·unfold execOp
     simp only[ho,aF];by_cases a1:len*a5.size=0
     ·have a8:len=0:=by
       rw[a0] at a1;rcases Nat.mul_eq_zero.1 a1 with h|h<;>omega
      have b0:(fq t len (parts.map λ(n,x)=>(n,ρ x))).run E.P w= .ok (.slice (ae ⟨w.heap.size,0,au⟩) len len) (w.alloc (.cells arr' el)):=by
       subst a8;have e0:∀f:Nat->Value,Array.map f (iB 0)= #[]:=λf=>by apply Array.ext';simp
       simp[e0] at h1;simp[e0,fq,run_underlying hu,sizeOf,typeInfo,a3,h1,a0,newRow]
      rw[b0];rfl
     ·rw[run_buildSlice w t el len _ arr' a5 I.zero hu a3 b1 (by rw[a0];omega) a1 (by rw[a0];exact h1)];rfl
    ·have:=Den.sl (E:=E) (g:=g) (b:=i) (off:=0) (len:=len) (w:=I.size) (c:=len) (cap:=some len) b2 (by rw[a9];simp) (av _) (by unfold maxLen;omega) (by intro m e;cases e;rfl)
     simpa using this
   ·exact J.elim
  ·exact J.elim
 ·exact J.elim
end
end
section
open Go.RowKit
section
variable {Y:Thy} {E:Eng Y} {F:Fns Y}
def DomLt(h:Hp Y) (i:Nat):Prop:=∀b,h b≠au->b<i
def Dom(h:Hp Y) (i:Nat) (I:Hp Y) (J:Nat):Prop:=DomLt I J/\∀b,I b≠au->h b≠au\/i<=b
def Xg(h:Hp Y) (i I:Nat) (m:List Nat):Prop:=∀b∈m,h b≠au\/(i<=b/\b<I)
theorem memB_iff{b:Nat}:∀{l:List Nat},memB b l=ac↔b∈l
 | []=>by simp[memB]
 |x::l=>by
  simp only[memB]
  by_cases e:b=x
  ·subst e;simp
  ·have:aO b x=false:=by rw[<-bg,fp];exact e
   rw[this];simp only[memB_iff (l:=l)];simp[e]
theorem inNew_iff{b i n:Nat}:(bP i b&&aU b (i+n))=ac↔i<=b/\b<i+n:=by
 rw[aq,bu,aU,bu];omega
theorem Zp(h:Hp Y) (i:Nat) (r:Res Y) (b:Nat):patch h i r b=if b∈r.mods\/(i<=b/\b<i+r.n) then r.h b else h b:=by
 unfold patch;by_cases c:b∈r.mods\/(i<=b/\b<i+r.n)
 ·rw[jM c]
  have:(memB b r.mods||(bP i b&&aU b (i+r.n)))=true:=by
   rw[bm,memB_iff,inNew_iff];exact c
  rw[this]
 ·rw[jJ c]
  have:(memB b r.mods||(bP i b&&aU b (i+r.n)))=false:=by
   rw[<-bg,bm,memB_iff,inNew_iff];exact c
  rw[this]
theorem DomLt.patch{h:Hp Y} {i:Nat} {r:Res Y} (hd:DomLt h i) (J:ROk h r):DomLt (patch h i r) (i+r.n):=by
 intro b I;rw[Zp] at I;split at I
 ·rename_i c
  rcases c with c|c
  ·have:=hd b (J b c);omega
  ·exact c.2
 ·have:=hd b I;omega
def Vi(E:Eng Y) (f:FuncId) (args:List (SV Y)) (h:Hp Y) (i:Nat) (r:Res Y):Prop:=
 ∀(B:Nat) (σ:Pl) (g:GH) (w:World) (R:Array Value) (J:Hp Y),(∀b,Rd r b->J b=h b)->Inv E B σ J g w->B<=w.heap.size->(∀b,i<=b->b<i+r.n->σ b=au)->DenL E σ g args R.toList->
  Calls E.P f R w λen U=>∃u,en= .returned u/\∃σ' I,Stp i r.n r.mods σ g w σ' I U/\Inv E B σ' (patch J i r) I U/\Den E σ' I r.v u
def Zs2(E:Eng Y) (f:FuncId) (args:List (SV Y)) (h:Hp Y) (i:Nat) (r:Res Y):Prop:=
 ∃p,r.v= .pan p/\∀(B:Nat) (σ:Pl) (g:GH) (w:World) (J:Array Value),Inv E B σ h g w->B<=w.heap.size->(∀b,i<=b->b<i+r.n->σ b=au)->DenL E σ g args J.toList->
  Calls E.P f J w λU R=>U= .panicked [{v:=p,recovered:=false}]/\∃σ' I,Stp i r.n r.mods σ g w σ' I R/\Inv E B σ' (patch h i r) I R
def CallTri2(E:Eng Y) (f:FuncId) (args:List (SV Y)) (h:Hp Y) (i:Nat) (r:Res Y):Prop:=Vi E f args h i r\/Zs2 E f args h i r
def Vb(E:Eng Y) (call:Nat->List (SV Y)->Hp Y->Nat->(Res Y->Prop)->Prop):Prop:=∀f args h i k,DomLt h i->call f args h i k->∃r,k r/\ROk h r/\CallTri2 E f args h i r
def FrOk(E:Eng Y) (σ:Pl) (g:GH) (T:Fr Y) (a:Act):Prop:=∀t,Den E σ g (T t) (a.eval (.tmp t))
theorem Stp.trans{i n1 n2:Nat} {m1 m2:List Nat} {σ σ1 σ2:Pl} {g g1 g2:GH} {w w1 w2:World} (h:Stp i n1 m1 σ g w σ1 g1 w1) (k:Stp (i+n1) n2 m2 σ1 g1 w1 σ2 g2 w2):Stp i (n1+n2) (m2++m1) σ g w σ2 g2 w2:=by
 have back:∀b∈m2,∀r z,σ1 b=ae (r,z)->w.heap.size<=r\/∃R∈m2++m1,∃z',σ R=ae (r,z'):=by
  intro b hb r z a0;cases hs:σ b with
  |none=>
   rcases h.blk b r z hs a0 with I|⟨R,I,z',J⟩
   ·exact .inl I
   ·exact .inr ⟨R,by simp[I],z',J⟩
  |some p=>
   have:=h.sig _ _ hs;rw[a0] at this;obtain rfl:=bd this;exact .inr ⟨b,by simp[hb],z,hs⟩
 refine⟨h.sig.trans k.sig,?_,h.gle.trans k.gle,?_,?_,?_,bS h.size k.size,k.os.trans h.os,k.tape.trans h.tape,k.output.trans h.output,?_⟩
 ·intro b p hb
  rcases k.snew b p hb with I|I
  ·rcases h.snew b p I with J|J
   ·exact .inl J
   ·right;omega
  ·right;omega
 ·intro r o v hv
  rcases k.gcnew r o v hv with I|I|⟨b,I,z,J⟩
  ·rcases h.gcnew r o v I with J|J|⟨b,J,z,U⟩
   ·exact .inl J
   ·exact .inr (.inl J)
   ·exact .inr (.inr ⟨b,by simp[J],z,U⟩)
  ·exact .inr (.inl (bS h.size I))
  ·exact .inr (back b I r z J)
 ·intro r es hv
  rcases k.gmnew r es hv with I|I
  ·exact h.gmnew r es I
  ·exact .inr (bS h.size I)
 ·intro r hr hm
  rw[k.heap r (ck hr h.size) (λb hb z a0=> ?_),h.heap r hr λb hb z=>hm b (by simp[hb]) z];rcases back b hb r z a0 with I|⟨R,I,z',J⟩
  ·omega
  ·exact hm R I z' J
 ·intro b r z I J
  cases hs:σ1 b with
  |none=>
   rcases k.blk b r z hs J with U|⟨R,U,z',h4⟩
   ·exact .inl (bS h.size U)
   ·exact back R U r z' h4
  |some p=>
   have:=k.sig _ _ hs;rw[J] at this;obtain rfl:=bd this;rcases h.blk b r z I hs with U|⟨R,U,z',h4⟩
   ·exact .inl U
   ·exact .inr ⟨R,by simp[U],z',h4⟩
theorem Stp.weaken{i n:Nat} {m m':List Nat} {σ σ1:Pl} {g g1:GH} {w w1:World} (h:Stp i n m σ g w σ1 g1 w1) (R:∀b∈m,b∈m'):Stp i n m' σ g w σ1 g1 w1:=
 ⟨h.sig,h.snew,h.gle,λr o v hv=>(h.gcnew r o v hv).imp id (Or.imp id λ⟨b,I,z,J⟩=>⟨b,R b I,z,J⟩),h.gmnew,λr hr hx=>h.heap r hr λb hb=>hx b (R b hb),h.size,h.os,h.tape,h.output,λb r z I J=>(h.blk b r z I J).imp id λ⟨U,I,z',J⟩=>⟨U,R U I,z',J⟩⟩
theorem FrOk.mono{σ σ':Pl} {g I:GH} {T:Fr Y} {a:Act} (h:FrOk E σ g T a) (R:Pl.le σ σ') (J:g.le I):FrOk E σ' I T a:=λt=>(h t).mono R J
theorem FrOk.ev{σ:Pl} {g:GH} {T:Fr Y} {a:Act} (h:FrOk E σ g T a) (x:Operand):Den E σ g (ev T x) (a.eval x):=by
 cases x with
 |tmp t=>exact h t
 |const v=>exact X0 E σ g v
 |global n=>exact .val _
 |func f=>exact .fn (λ_=>undef) (λ_=>undef) rfl (λj I=>by simp at I) (λj J I=>by simp at I) rfl (λj I=>by simp at I) (λj J I=>by simp at I)
theorem Zca(a:Act) (d:Option Nat) (u:Value) (t:Nat):(a.put d u).eval (.tmp t)=if d=ae t/\t<a.tmps.size then u else a.eval (.tmp t):=by
 cases d with
 |none=>simp[Act.put]
 |some d=>
  show(a.tmps.setIfInBounds d u).getD t undef=_;rw[aS,cY];by_cases h:d=t
  ·subst h
   by_cases I:d<a.tmps.size
   ·simp[I]
   ·simp only[kL,I,kM,Option.getD_none,and_false]
    show undef=a.tmps.getD d undef;rw[aS,gG (by omega)];rfl
  ·rw[jJ h,jJ (by simp[h])]
   show _=a.tmps.getD t undef;rw[aS]
theorem FrOk.put{σ:Pl} {g:GH} {T:Fr Y} {a:Act} (h:FrOk E σ g T a) {d:Nat} {I:SV Y} {u:Value} (hd:d<a.tmps.size) (R:Den E σ g I u):FrOk E σ g (upd T d I) (a.put (ae d) u):=by
 intro t;rw[Zca,Ze];by_cases e:t=d
 ·subst e;rw[jM rfl,jM ⟨rfl,hd⟩];exact R
 ·rw[jJ e,jJ (by rintro⟨J,_⟩;exact e (bd J).symm)];exact h t
theorem FrOk.skip{σ:Pl} {g:GH} {T:Fr Y} {a:Act} (h:FrOk E σ g T a) (d:Nat) (u:Value):FrOk E σ g (upd T d .unk) (a.put (ae d) u):=by
 intro t;rw[Zca,Ze];by_cases e:t=d
 ·subst e;rw[jM rfl];exact .unk _
 ·rw[jJ e,jJ (by rintro⟨I,_⟩;exact e (bd I).symm)];exact h t
theorem FrOk.skipU{σ:Pl} {g:GH} {T:Fr Y} {a:Act} (h:FrOk E σ g T a) (d:Nat):FrOk E σ g (upd T d (.val undef)) (a.put (ae d) undef):=by
 intro t;rw[Ze,Zca];by_cases e:t=d
 ·subst e
  rw[jM rfl];split
  ·exact .val _
  ·rename_i R
   have:a.eval (.tmp t)=undef:=by
    have:¬t<a.tmps.size:=λJ=>R ⟨rfl,J⟩;show a.tmps.getD t undef=undef;rw[aS,gG (by omega)];rfl
   rw[this];exact .val _
 ·rw[jJ e,jJ (by rintro⟨I,_⟩;exact e (bd I).symm)]
  exact h t
theorem Uj{a:Act} {d:Option Nat} {u:Value}:(a.put d u).tmps.size=a.tmps.size:=by cases d<;>simp[Act.put]
theorem W0{a:Act} {d:Option Nat} {u:Value}:(a.put d u).defers=a.defers:=by cases d<;>rfl
structure Aft(E:Eng Y) (B N i i':Nat) (ms:List Nat) (σ:Pl) (g:GH) (w:World) (df:List Deferred) (T':Fr Y) (h':Hp Y) (a':Act) (w':World):Prop where
 df:a'.defers=df
 sz:a'.tmps.size=N
 ex:∃σ' g',Stp i (i'-i) ms σ g w σ' g' w'/\Inv E B σ' h' g' w'/\FrOk E σ' g' T' a'
theorem Zei{I:Hp Y}:∀{m:List Nat} {h:Hp Y} {k:Hp Y->Prop},Zh2 I m h k↔k (λb=>if b∈m then I b else h b)
 | [],h,k=>by simp[Zh2]
 |b::m,h,k=>by
  simp only[Zh2,Xx,Ztg]
  rw[Zei (m:=m)]
  have:(λj=>if j∈m then I j else upd h b (I b) j)=λj=>if j∈b::m then I j else h j:=by
   funext j
   rw[Ze]
   by_cases c:j∈m
   ·rw[jM c,jM (by simp[c])]
   ·rw[jJ c]
    by_cases e:j=b
    ·rw[jM e,jM (by simp[e]),e]
    ·rw[jJ e,jJ (by simp[c,e])]
  rw[this]
theorem Zcb{J:Hp Y} {m:List Nat} {b:Nat}:∀{n i:Nat},b∈Zgc J m i n↔b∈m\/(i<=b/\b<i+n/\J b≠au)
  |0,i=>by simp[Zgc];omega
  |n+1,i=>by
    simp only[Zgc]
    split
    ·rename_i x I
     rw[aH,Zcb (n:=n)]
     constructor
     ·rintro(rfl|h|h)
      ·exact .inr ⟨av _,by omega,by rw[I];simp⟩
      ·exact .inl h
      ·exact .inr ⟨by omega,by omega,h.2.2⟩
     ·rintro(h|h)
      ·exact .inr (.inl h)
      ·by_cases e:b=i
       ·exact .inl e
       ·exact .inr (.inr ⟨by omega,by omega,h.2.2⟩)
    ·rename_i I
     rw[Zcb (n:=n)]
     constructor
     ·rintro(h|h)
      ·exact .inl h
      ·exact .inr ⟨by omega,by omega,h.2.2⟩
     ·rintro(h|h)
      ·exact .inl h
      ·refine .inr ⟨?_,by omega,h.2.2⟩
       rcases Nat.lt_or_ge i b with e|e
       ·exact e
       ·have:b=i:=by omega
        subst this
        exact ka I h.2.2
theorem Uk{r:Res Y} {h:Hp Y} {i:Nat} {ms:List Nat} {k:Hp Y->Nat->List Nat->Prop} (hD:DomLt h i) (J:Zme r h i ms k):k (patch h i r) (i+r.n) (r.mods++ms):=by
  obtain⟨v,n,R,I,rd⟩:=r;unfold Zme at J;simp only at J;split at J
  ·have e:patch h i ⟨v,0,R,I,rd⟩=λb=>if b∈R then I b else h b:=by
     funext j;rw[Zp];by_cases c:j∈R
     ·rw[jM (.inl c),jM c]
     ·rw[jJ (by rintro(e|e); · exact c e
                ·simp at e;omega),jJ c]
   split at J
   ·have e2:patch h i ⟨v,0,[],I,rd⟩=h:=by rw[e];funext j;simp
    rw[e2];exact J
   ·rw[Zei] at J
    rw[e];exact J
  ·rw[Xx,Zei] at J
   have:patch h i ⟨v,n,R,I,rd⟩=λb=>if b∈Zgc I R i n then I b else h b:=by
     funext j;rw[Zp];by_cases c:j∈Zgc I R i n
     ·rw[jM c]
      rw[Zcb] at c
      rw[jM (by rcases c with c|c; · exact .inl c
                ·exact .inr ⟨c.1,c.2.1⟩)]
     ·rw[jJ c]
      rw[Zcb] at c;by_cases e:j∈R\/(i<=j/\j<i+n)
      ·rw[jM e]
       have h1:i<=j/\j<i+n:=by
         rcases e with e|e
         ·exact ka (.inl e) c
         ·exact e
       have h2:I j=none:=by
         cases U:I j with
         |none=>rfl
         |some x=>exact ka (.inr ⟨h1.1,h1.2,by rw[U];simp⟩) c
       have h3:h j=none:=by
         cases U:h j with
         |none=>rfl
         |some x=>have:=hD j (by rw[U];simp);omega
       show I j=h j;rw[h2,h3]
      ·rw[jJ e]
   rw[this];exact J
theorem Z95{N:Nat} {d:Option Nat} {r:Res Y} {T:Fr Y} {h:Hp Y} {i:Nat} {ms:List Nat} {k:Fr Y->Hp Y->Nat->List Nat->Prop} (U:DomLt h i) (I:Zo4 N d r T h i ms k):∃R,k R (patch h i r) (i+r.n) (r.mods++ms)/\
 ∀σ g a u,FrOk E σ g T a->a.tmps.size=N->Den E σ g r.v u->FrOk E σ g R (a.put d u):=by
 unfold Zo4 at I
 split at I
 ·exact⟨T,Uk U I,λσ g a u J _ _=>J⟩
 ·rename_i d
  split at I
  ·rename_i hd
   rw[Zej] at I
   exact⟨_,Uk U I,λσ g a u J hN h2=>J.put (by rw[hN];exact Yq hd) h2⟩
  ·exact I.elim
def Ydy(E:Eng Y) (N:Nat) (all:Array Oper) (ops:List Oper) (T:Fr Y) (h:Hp Y) (i:Nat) (e:Exit) (U:Fr Y) (h':Hp Y) (J:Nat) (a0:List Nat):Prop:=
 ∀(B:Nat) (σ:Pl) (g:GH) (w:World) (a:Act) (Q:Exit->Act->World->Prop),Inv E B σ h g w->B<=w.heap.size->(∀b,i<=b->b<J->σ b=au)->FrOk E σ g T a->a.tmps.size=N->
  (∀I R,Aft E B N i J a0 σ g w a.defers U h' I R->Q e I R)->wpList E.P all Q ops a w
theorem Zv3(hE:EngOk E) {N:Nat} {call:Nat->List (SV Y)->Hp Y->Nat->(Res Y->Prop)->Prop} (b6:∀(o:Oper) T h i k,DomLt h i->step E call o.op T h i k->∃r,k r/\OpTri2 E o T h i r) (all:List Oper):
 ∀(ops:List Oper) (T:Fr Y) (h:Hp Y) (i:Nat) (ms:List Nat) (k:Kont Y),DomLt h i->rgn E N call all ops T h i ms k->
  ∃e T' h' J ms',k e T' h' J ms'/\i<=J/\Dom h i h' J/\(∃m,ms'=m++ms/\Xg h i J m)/\Ydy E N all.toArray ops T h i e T' h' J ms':=by
 intro ops
 induction ops with
 |nil=>
  intro T h i ms k hD R
  refine⟨.normal,T,h,i,ms,R,av _,⟨hD,λb hb=> .inl hb⟩,⟨[],rfl,λb hb=>by simp at hb⟩,λB σ g w a Q hI hB _ U hN hQ=> ?_⟩
  exact hQ a w ⟨rfl,hN,σ,g,by rw[Nat.sub_self];exact(Stp.refl i σ g w).weaken (by simp),hI,U⟩
 |cons o ops ih=>
  intro T h i ms k hD R
  have run:∀(T:Fr Y),step E call o.op T h i (λa7=>Zmf N o.dst a7 T h i ms k λT h i ms=>rgn E N call all ops T h i ms k)->
   ∃e T' h' J ms',k e T' h' J ms'/\i<=J/\Dom h i h' J/\(∃m,ms'=m++ms/\Xg h i J m)/\∀(B:Nat) (σ:Pl) (g:GH) (w:World) (a:Act) (Q:Exit->Act->World->Prop),Inv E B σ h g w->B<=w.heap.size->(∀b,i<=b->b<J->σ b=au)->FrOk E σ g T a->a.tmps.size=N->
    (∀a' w',Aft E B N i J ms' σ g w a.defers T' h' a' w'->Q e a' w')->o.wp E.P a w (wpList E.P all.toArray Q ops) Q:=by
   intro T R
   obtain⟨r,R,a4⟩:=b6 o T h i _ hD R
   unfold Zmf at R
   split at R
   ·rename_i p hp
    obtain⟨hR,a4⟩:=a4.pan hp
    have R:=Uk hD R
    refine⟨_,T,_,_,_,R,by omega,⟨hD.patch hR,λb I=> ?_⟩,⟨r.mods,rfl,λb hb=> .inl (hR b hb)⟩,?_⟩
    ·rw[Zp] at I
     split at I
     ·rename_i c
      rcases c with c|c
      ·exact .inl (hR b c)
      ·exact .inr c.1
     ·exact .inl I
    intro B σ g w a Q hI hB a0 U hN hQ
    refine a4 B σ g w a _ Q hI hB a0 (λx _=>U.ev x) ?_
    rintro w' ⟨σ',g',h3,h4⟩
    exact hQ a w' ⟨rfl,hN,σ',g',by rw[show i+r.n-i=r.n by omega];exact h3.weaken (by intro b;simp;intro hb;exact .inl hb),h4,U.mono h3.sig h3.gle⟩
   rename_i b5
   obtain⟨hR,a4⟩:=a4.tri b5
   obtain⟨T1,R,b1⟩:=Z95 (E:=E) hD R
   obtain⟨e,T',h',J,ms',b2,b9,a8,⟨m,rfl,hM⟩,hw⟩:=ih T1 _ _ _ k (hD.patch hR) R
   have b7:∀b,patch h i r b≠au->h b≠au\/i<=b:=by
    intro b I
    rw[Zp] at I
    split at I
    ·rename_i c
     rcases c with c|c
     ·exact .inl (hR b c)
     ·exact .inr c.1
    ·exact .inl I
   refine⟨e,T',h',J,_,b2,by omega,⟨a8.1,λb hb=> ?_⟩,⟨m++r.mods,by simp,?_⟩,?_⟩
   ·rcases a8.2 b hb with c|c
    ·exact b7 b c
    ·right;omega
   ·intro b hb
    rcases cf.1 hb with hb|hb
    ·rcases hM b hb with I|I
     ·rw[Zp] at I
      split at I
      ·rename_i c
       rcases c with c|c
       ·exact .inl (hR b c)
       ·right;omega
      ·exact .inl I
     ·right;omega
    ·exact .inl (hR b hb)
   intro B σ g w a Q hI hB a0 U hN hQ
   refine OpPost.wp (a4 B σ g w a.eval h (λ_ _=>rfl) hI hB (λb I h2=>a0 b I (by omega)) (λx _=>U.ev x)) ?_
   rintro u w1 ⟨σ1,g1,hS,b0,hv⟩
   refine hw B σ1 g1 w1 _ Q b0 (bS hB hS.size) ?_ (b1 σ1 g1 a u (U.mono hS.sig hS.gle) hN hv) (by rw[Uj];exact hN) ?_
   ·intro b I h2
    cases hs:σ1 b with
    |none=>rfl
    |some p=>
     rcases hS.snew b p hs with h3|h3
     ·rw[a0 b (by omega) h2] at h3;cases h3
     ·omega
   ·rintro a' w' ⟨I,h2,σ',g',h3,h4,h5⟩
    refine hQ a' w' ⟨by rw[I,W0],h2,σ',g',?_,h4,h5⟩
    have:=(hS.trans (by rw[show J-(i+r.n)=J-i-r.n by omega] at h3;exact h3))
    rw[show r.n+(J-i-r.n)=J-i by omega] at this
    exact this.weaken (by intro b;simp only[cf];rintro((h|h|h)|h)<;>simp[h])
  unfold rgn at R
  split at R
  ·rename_i hg
   obtain⟨e,T',h',J,ms',I,h2,a1,h3,h4⟩:=run T R
   refine⟨e,T',h',J,ms',I,h2,a1,h3,λB σ g w a Q hI hB a0 U hN hQ=> ?_⟩
   unfold wpList
   rw[jM (by unfold de;rw[hg])]
   exact .inl (h4 B σ g w a Q hI hB a0 U hN hQ)
  ·rename_i j b hg
   split at R
   ·rename_i d hd
    split at R
    ·rename_i l x hT
     have R:=Y5 R
     have yield:∀σ g a,FrOk E σ g T a->yielded all.toArray a.tmps j=ae x:=by
      intro σ g a U
      have I:=U d
      rw[hT] at I
      generalize hv:a.eval (.tmp d)=v at I
      cases I
      have a2:a.tmps.getD d undef= .bool x:=hv
      unfold Zh3 at hd
      split at hd
      ·rename_i oj a6
       unfold yielded
       rw[aS] at a2
       simp only[bU,a6,fj,hd]
       cases hq:a.tmps[d]? with
       |none=>rw[hq] at a2;cases a2
       |some u=>rw[hq] at a2;simp at a2;rw[a2]
      ·cases hd
     have a5:∀σ g a,FrOk E σ g T a->FrOk E σ g (upd T d (.bool ac x)) a:=by
      intro σ g a U t
      rw[Ze]
      by_cases e:t=d
      ·subst e
       rw[jM rfl]
       have I:=U t
       rw[hT] at I
       generalize a.eval (.tmp t)=v at I
       cases I;exact .bool _ _
      ·rw[jJ e];exact U t
     have go:x=b->step E call o.op (upd T d (.bool ac x)) h i (λa7=>Zmf N o.dst a7 (upd T d (.bool ac x)) h i ms k λT h i ms=>rgn E N call all ops T h i ms k)->
      ∃e T' h' J ms',k e T' h' J ms'/\i<=J/\Dom h i h' J/\(∃m,ms'=m++ms/\Xg h i J m)/\Ydy E N all.toArray (o::ops) T h i e T' h' J ms':=λb8 R=>by
      obtain⟨e,T',h',J,ms',I,h2,a1,h3,h4⟩:=run _ R
      refine⟨e,T',h',J,ms',I,h2,a1,h3,λB σ g w a Q hI hB a0 U hN hQ=> ?_⟩
      unfold wpList
      rw[jM (by unfold de;rw[hg];simp[yield σ g a U,b8])]
      exact .inl (h4 B σ g w a Q hI hB a0 (a5 σ g a U) hN hQ)
     split at R
     ·exact go rfl R
     ·exact go rfl R
     ·rename_i b3 b4
      have a9:x≠b:=by
       rintro rfl
       cases x
       ·exact b4 rfl rfl
       ·exact b3 rfl rfl
      split at R
      ·rename_i a3
       obtain⟨e,T',h',J,ms',I,h2,a1,h3,h4⟩:=ih _ _ _ _ k hD R
       refine⟨e,T',h',J,ms',I,h2,a1,h3,λB σ g w a Q hI hB a0 U hN hQ=> ?_⟩
       unfold wpList
       rw[jJ (by unfold de;rw[hg];simp[yield σ g a U,a9])]
       rw[a3]
       exact h4 B σ g w a Q hI hB a0 (a5 σ g a U) hN hQ
      ·rename_i d' a3
       obtain⟨e,T',h',J,ms',I,h2,a1,h3,h4⟩:=ih _ _ _ _ k hD R
       refine⟨e,T',h',J,ms',I,h2,a1,h3,λB σ g w a Q hI hB a0 U hN hQ=> ?_⟩
       unfold wpList
       rw[jJ (by unfold de;rw[hg];simp[yield σ g a U,a9])]
       rw[a3]
       exact h4 B σ g w _ Q hI hB a0 ((a5 σ g a U).skipU d') (by rw[Uj];exact hN) (λa' w' hA=>hQ a' w' ⟨by rw[hA.df];exact W0,hA.sz,hA.ex⟩)
    ·rename_i u hT
     split at R
     ·exact R.elim
     rename_i hu
     have yield:∀σ g a,FrOk E σ g T a->yielded all.toArray a.tmps j=none:=by
      intro σ g a U
      have I:=U d
      rw[hT] at I
      generalize hv:a.eval (.tmp d)=v at I
      cases I
      have a2:a.tmps.getD d undef=u:=hv
      unfold Zh3 at hd
      split at hd
      ·rename_i oj a6
       unfold yielded
       rw[aS] at a2
       simp only[bU,a6,fj,hd]
       cases hq:a.tmps[d]? with
       |none=>rfl
       |some y=>
        rw[hq] at a2
        simp at a2
        subst a2
        cases y<;>first|rfl|(simp[Z2d] at hu)
      ·cases hd
     split at R
     ·rename_i a3
      obtain⟨e,T',h',J,ms',I,h2,a1,h3,h4⟩:=ih _ _ _ _ k hD R
      refine⟨e,T',h',J,ms',I,h2,a1,h3,λB σ g w a Q hI hB a0 U hN hQ=> ?_⟩
      unfold wpList
      rw[jJ (by unfold de;rw[hg];simp[yield σ g a U])]
      rw[a3]
      exact h4 B σ g w a Q hI hB a0 U hN hQ
     ·rename_i d' a3
      obtain⟨e,T',h',J,ms',I,h2,a1,h3,h4⟩:=ih _ _ _ _ k hD R
      refine⟨e,T',h',J,ms',I,h2,a1,h3,λB σ g w a Q hI hB a0 U hN hQ=> ?_⟩
      unfold wpList
      rw[jJ (by unfold de;rw[hg];simp[yield σ g a U])]
      rw[a3]
      exact h4 B σ g w _ Q hI hB a0 (U.skipU d') (by rw[Uj];exact hN) (λa' w' hA=>hQ a' w' ⟨by rw[hA.df];exact W0,hA.sz,hA.ex⟩)
    ·exact R.elim
   ·exact R.elim
theorem Zik{B i n:Nat} {m:List Nat} {σ σ':Pl} {g g':GH} {w w':World} {h h':Hp Y} (hI:Inv E B σ h g w) (a0:Inv E B σ' h' g' w') (hS:Stp i n m σ g w σ' g' w') (hm:∀b∈m,h b≠au) (a5:∀b,i<=b->b<i+n->σ b=au)
 {r:Res Y} (h1:r.n=n) (h2:r.mods=m) (h3:r.h=h'):Inv E B σ' (patch h i r) g' w':=by
 subst h1;subst h2;subst h3
 have a1:∀b x,h b=ae x->b∉r.mods->∃p z,σ b=ae (p,z)/\σ' b=ae (p,z)/\BlkOk E σ g w p z x/\p<w.heap.size/\∀b'∈r.mods,∀z',σ b'≠ae (p,z'):=by
  intro b x I hb
  obtain⟨p,z,R,a4⟩:=hI.blk b x I
  refine⟨p,z,R,hS.sig _ _ R,a4,(hI.base _ _ _ R).2,λb' a2 z' a8=> ?_⟩
  exact hb (hI.inj _ _ _ _ _ (by rw[I];simp) (hm b' a2) R a8▸a2)
 refine⟨a0.gc,a0.gm,?_,?_,a0.base,?_,?_,a0.glob⟩
 ·intro b x I
  rw[Zp] at I
  split at I
  ·exact a0.blk b x I
  ·rename_i c
   obtain⟨p,z,k1,k2,k3,k4,k5⟩:=a1 b x I (λe=>c (.inl e))
   exact⟨p,z,k2,k3.mono hS.sig hS.gle (hS.heap p k4 λb' a2 z'=>k5 b' a2 z')⟩
 ·intro J U p z1 z2 q1 q2 s1 s2
  rw[Zp] at q1 q2
  have a3:∀J U z1 z2,(J∈r.mods\/(i<=J/\J<i+r.n))->¬(U∈r.mods\/(i<=U/\U<i+r.n))->h U≠au->σ' J=ae (p,z1)->σ' U=ae (p,z2)->False:=by
   intro J U z1 z2 c1 c2 q2 s1 s2
   obtain⟨x,I⟩:=aY.1 q2
   obtain⟨p',z',k1,k2,k3,k4,k5⟩:=a1 U x I (λe=>c2 (.inl e))
   rw[k2] at s2;cases s2
   cases hq:σ J with
   |some pq=>
    have:=hS.sig _ _ hq
    rw[s1] at this
    obtain rfl:=bd this
    rcases c1 with c1|c1
    ·exact k5 J c1 _ hq
    ·rw[a5 J c1.1 c1.2] at hq;cases hq
   |none=>
    rcases hS.blk J p z1 hq s1 with e|⟨b',e1,a9,e2⟩
    ·omega
    ·exact k5 b' e1 _ e2
  split at q1<;>split at q2
  ·exact a0.inj _ _ _ _ _ q1 q2 s1 s2
  ·exact(a3 J U z1 z2 ‹_› ‹_› q2 s1 s2).elim
  ·exact(a3 U J z2 z1 ‹_› ‹_› q1 s2 s1).elim
  ·rename_i c1 c2
   obtain⟨x1,a6⟩:=aY.1 q1
   obtain⟨x2,a7⟩:=aY.1 q2
   obtain⟨p1,y1,k1,k2,_⟩:=a1 J x1 a6 (λe=>c1 (.inl e))
   obtain⟨p2,y2,l1,l2,_⟩:=a1 U x2 a7 (λe=>c2 (.inl e))
   rw[k2] at s1;cases s1
   rw[l2] at s2;cases s2
   exact hI.inj _ _ _ _ _ q1 q2 k1 l1
 ·intro b x p z o v I R hv
  rw[Zp] at I
  split at I
  ·exact a0.fz b x p z o v I R hv
  ·rename_i c
   obtain⟨p',z',k1,k2,k3,k4,k5⟩:=a1 b x I (λe=>c (.inl e))
   rw[k2] at R;cases R
   rcases hS.gcnew _ _ _ hv with e|e|⟨b',e1,a9,e2⟩
   ·exact hI.fz b x p z o v I k1 e
   ·omega
   ·exact(k5 b' e1 _ e2).elim
 ·intro b x p z I R
  rw[Zp] at I
  split at I
  ·exact a0.fm b x p z I R
  ·rename_i c
   obtain⟨p',z',k1,k2,k3,k4,k5⟩:=a1 b x I (λe=>c (.inl e))
   rw[k2] at R;cases R
   cases hq:g'.obj p with
   |none=>rfl
   |some es=>
    rcases hS.gmnew _ _ hq with e|e
    ·rw[hI.fm b x p z I k1] at e;cases e
    ·omega
end
end
section
open Go.RowKit
section
variable {Y:Thy} {E:Eng Y}
def Wr(d:DR Y) (b:Nat):Prop:=b∈d.r.mods\/(d.i<=b/\b<d.i+d.r.n)
def memD:List (DR Y)->(Nat->Bool)->Hp Y->Hp Y
 | [],_,h=>h
 |d::I,D,h=>memD I (λm=>D (m+1)) (bif D 0 then patch h d.i d.r else h)
def tD:List Oper->List (DR Y)->(Nat->Bool)->Fr Y->Fr Y
 |o::os,d::I,D,T=>tD os I (λm=>D (m+1)) (bif D 0 then updO T o.dst d.r.v else T)
 |_,_,_,T=>T
theorem Zd1{h:Hp Y} {d:DR Y} {b:Nat} (I:¬Wr d b):patch h d.i d.r b=h b:=by rw[Zp];exact jJ I
theorem Zg2{h:Hp Y} {d:DR Y} {b:Nat} (I:Wr d b):patch h d.i d.r b=d.r.h b:=by rw[Zp];exact jM I
theorem Zb3:∀(R:List (DR Y)) (D J:Nat->Bool) (h I:Hp Y) (b:Nat),(∀m d,R[m]? =ae d->Wr d b->D m=J m)->h b=I b->memD R D h b=memD R J I b:=by
 intro R
 induction R with
 |nil=>intro D J h I b _ U;exact U
 |cons d R ih=>
  intro D J h I b hw U;refine ih _ _ _ _ b (λm d' hm=>hw (m+1) d' (by simpa using hm)) ?_;by_cases hd:Wr d b
  ·have:=hw 0 d rfl hd
   rw[<-this];cases D 0
   ·exact U
   ·simp only[cond_true];rw[Zg2 hd,Zg2 hd]
  ·have e1:(bif D 0 then patch h d.i d.r else h) b=h b:=by cases D 0<;>simp[Zd1 hd]
   have e2:(bif J 0 then patch I d.i d.r else I) b=I b:=by cases J 0<;>simp[Zd1 hd]
   rw[e1,e2,U]
theorem Zfl(I:List (DR Y)) (h:Hp Y):memD I (λ_=>ab) h=h:=by
 induction I generalizing h with
 |nil=>rfl
 |cons d I J=>simp only[memD];exact J h
theorem Z8o(b:Nat):∀(I:List (DR Y)) (D:Nat->Bool) (h:Hp Y) (m:Nat) (d:DR Y),I[m]? =ae d->D m=ab->(Wr d b->∀R U,m<R->I[R]? =ae U->Wr U b->D R=ab)->
 memD I (λx=>if x=m then ac else D x) h b=patch (memD I D h) d.i d.r b:=by
 intro I
 induction I with
 |nil=>intro D h m d hm;simp at hm
 |cons d0 I ih=>
  intro D h m d hm a2 a3
  cases m with
  |zero=>
   obtain rfl:d0=d:=by simpa using hm
   simp only[memD]
   have e:(λm=>if m+1=0 then ac else D (m+1))=λm=>D (m+1):=by funext m;simp
   rw[e,a2]
   simp only[kL,cond_true,cond_false]
   by_cases J:Wr d0 b
   ·rw[Zg2 J]
    have hl:=a3 J
    rw[Zb3 I _ (λ_=>ab) _ (patch h d0.i d0.r) b (λR U a0 a1=>hl (R+1) U (by omega) (by simpa using a0) a1) rfl,Zfl,Zg2 J]
   ·rw[Zd1 J]
    exact Zb3 I _ _ _ _ b (λ_ _ _ _=>rfl) (Zd1 J)
  |succ m=>
   simp only[memD]
   have e:(λx=>if x+1=m+1 then ac else D (x+1))=λx=>if x=m then ac else(λy=>D (y+1)) x:=by funext x;simp
   rw[e,show(if(0:Nat)=m+1 then ac else D 0)=D 0 from jJ (by omega)]
   exact ih (λy=>D (y+1)) _ m d (by simpa using hm) a2 λJ R U a4 a0 a1=>a3 J (R+1) U (by omega) (by simpa using a0) a1
theorem Xb(T:Fr Y) (d:Option Nat) (v:SV Y) (t:Nat):updO T d v t=if d=ae t then v else T t:=by
 cases d with
 |none=>simp[updO]
 |some d=>
  simp only[updO,Ze,cr];by_cases e:t=d
  ·subst e;simp
  ·rw[jJ e,jJ (λh=>e h.symm)]
theorem Zd2:∀(os:List Oper) (J:List (DR Y)) (D R:Nat->Bool) (T I:Fr Y) (t:Nat),(∀m o,os[m]? =ae o->o.dst=ae t->D m=R m)->T t=I t->tD os J D T t=tD os J R I t:=by
 intro os
 induction os with
 |nil=>intro J D R T I t _ U;simpa[tD] using U
 |cons o os ih=>
  intro J D R T I t hw U;cases J with
  |nil=>simpa[tD] using U
  |cons d J=>
   refine ih J _ _ _ _ t (λm o' hm=>hw (m+1) o' (by simpa using hm)) ?_;by_cases hd:o.dst=ae t
   ·have:=hw 0 o rfl hd
    rw[<-this];cases D 0
    ·exact U
    ·simp only[cond_true];rw[Xb,Xb,jM hd,jM hd]
   ·have e1:(bif D 0 then updO T o.dst d.r.v else T) t=T t:=by cases D 0<;>simp[Xb,hd]
    have e2:(bif R 0 then updO I o.dst d.r.v else I) t=I t:=by cases R 0<;>simp[Xb,hd]
    rw[e1,e2,U]
theorem Zd3(os:List Oper) (I:List (DR Y)) (T:Fr Y):tD os I (λ_=>ab) T=T:=by
 induction os generalizing I with
 |nil=>simp[tD]
 |cons o os J=>cases I with
  |nil=>simp[tD]
  |cons d I=>simp only[tD];exact J I
theorem Ydm(t:Nat):∀(os:List Oper) (I:List (DR Y)) (D:Nat->Bool) (T:Fr Y) (m:Nat) (o:Oper) (d:DR Y),os[m]? =ae o->I[m]? =ae d->D m=ab->(o.dst=ae t->∀R U,m<R->os[R]? =ae U->U.dst=ae t->D R=ab)->
 tD os I (λx=>if x=m then ac else D x) T t=updO (tD os I D T) o.dst d.r.v t:=by
 intro os
 induction os with
 |nil=>intro I D T m o d hm;simp at hm
 |cons o0 os ih=>
  intro I D T m o d hm a1 a3 a4
  cases I with
  |nil=>simp at a1
  |cons d0 I=>
   cases m with
   |zero=>
    obtain rfl:o0=o:=by simpa using hm
    obtain rfl:d0=d:=by simpa using a1
    simp only[tD]
    have e:(λm=>if m+1=0 then ac else D (m+1))=λm=>D (m+1):=by funext m;simp
    rw[e,a3]
    simp only[kL,cond_true,cond_false]
    by_cases J:o0.dst=ae t
    ·rw[Xb,jM J]
     have hl:=a4 J
     rw[Zd2 os I _ (λ_=>ab) _ (updO T o0.dst d0.r.v) t (λR U a0 a2=>hl (R+1) U (by omega) (by simpa using a0) a2) rfl,Zd3,Xb,jM J]
    ·rw[Xb,jJ J]
     exact Zd2 os I _ _ _ _ t (λ_ _ _ _=>rfl) (by rw[Xb,jJ J])
   |succ m=>
    simp only[tD]
    have e:(λx=>if x+1=m+1 then ac else D (x+1))=λx=>if x=m then ac else(λy=>D (y+1)) x:=by funext x;simp
    rw[e,show(if(0:Nat)=m+1 then ac else D 0)=D 0 from jJ (by omega)]
    exact ih I (λy=>D (y+1)) _ m o d (by simpa using hm) (by simpa using a1) a3 λJ R U a5 a0 a2=>a4 J (R+1) U (by omega) (by simpa using a0) a2
def Zl4(E:Eng Y) (all:List Oper) (o:Oper) (T:Fr Y) (view:Hp Y) (d:DR Y):Prop:=
 match o.guard with
 |none=>OpTri E o T view d.i d.r
 |some (g,b)=>∃s,Zh3 all g=ae s/\((∃l x,T s= .bool l x/\x=b/\OpTri E o T view d.i d.r)\/(((∃l x,T s= .bool l x/\x≠b)\/∃u,T s= .val u/\Z2d u=ab)/\(d.r=quiet [] .unk\/d.r=quiet [] (.val undef))))
def POk(E:Eng Y) (all:List Oper) (I:List Nat):List Oper->Nat->Fr Y->Hp Y->Nat->List (Nat×DR Y)->List (DR Y)->Prop
 | [],_,_,_,_,_,[]=>True
 |o::os,j,T,h,i,prev,d::J=>(d.i=i/\DomLt h i/\ROk h d.r/\V0 d (X1 (nthN I j) prev)=ac/\Zl4 E all o T (V1 h (X1 (nthN I j) prev)) d)/\
  POk E all I os (j+1) (updO T o.dst d.r.v) (patch h i d.r) (i+d.r.n) ((j,d)::prev) J
 |_,_,_,_,_,_,_=>False
theorem Zhp{h:Hp Y} {un:List (DR Y)} {b:Nat} {x:Blk Y} (I:V1 h un b=ae x):h b=ae x/\∀d∈un,¬(d.i<=b/\b<d.i+d.r.n):=by
 have any:∀l:List (DR Y),Zo5 b l=ab->∀d∈l,¬(d.i<=b/\b<d.i+d.r.n):=by
  intro l
  induction l with
  |nil=>intro _ d hd;simp at hd
  |cons d0 l ih=>
   intro J d hd;simp only[Zo5,Bool.or_eq_false_iff] at J;rcases aH.1 hd with rfl|hd
   ·intro c
    have:d.new b=true:=inNew_iff.2 c;rw[this] at J;cases J.1
   ·exact ih J.2 d hd
 have mem:∀l:List (DR Y),∀d∈l,d∈Za9 l\/d.r.n=0:=by
  intro l
  induction l with
  |nil=>intro d hd;simp at hd
  |cons d0 l ih=>
   intro d hd;simp only[Za9];split
   ·rename_i h0
    rcases aH.1 hd with rfl|hd
    ·exact .inr h0
    ·exact ih d hd
   ·rcases aH.1 hd with rfl|hd
    ·exact .inl (by simp)
    ·exact(ih d hd).imp (λh=>by simp[h]) id
 unfold V1 at I;cases U:Za9 un with
 |nil=>
  rw[U] at I;refine⟨I,λd hd c=> ?_⟩;rcases mem un d hd with R|R
  ·rw[U] at R;simp at R
  ·omega
 |cons q qs=>
  rw[U] at I;simp only at I;cases J:Zo5 b (q::qs) with
  |true=>rw[J] at I;cases I
  |false=>
   rw[J] at I;refine⟨I,λd hd c=> ?_⟩;rcases mem un d hd with R|R
   ·rw[U] at R;exact any _ J d R c
   ·omega
theorem Zd4(i:Nat) (un:List (DR Y)) {v:SV Y}:V0 (⟨i,quiet [] v⟩:DR Y) un=true:=by
 induction un with
 |nil=>rfl
 |cons d un I=>
  simp only[V0,I,Bool.and_true];have n1:∀l,disj l ([]:List Nat)=true:=by
   intro l
   induction l with
   |nil=>rfl
   |cons x l I=>simp[disj,memB,I]
  have R:∀l,Zc3 (⟨i,quiet [] v⟩:DR Y) l=true:=by
   intro l
   induction l with
   |nil=>rfl
   |cons x l I=>
    have:(⟨i,quiet [] v⟩:DR Y).new x=false:=by
     simp only[DR.new,quiet,ei];rw[bp,<-bg,bu,<-bg,aU,bu];omega
    simp[Zc3,I,this]
  cases J:d.r.rd with
  |none=>simp[Zh4,quiet,n1,Zc3,J,Zyt]
  |some l=>
   have:=R l;simp only[quiet] at this;simp[Zh4,quiet,n1,Zc3,J,disj,this]
def msD:List (DR Y)->List Nat->List Nat
 | [],ms=>ms
 |d::I,ms=>msD I (d.r.mods++ms)
def iD:List (DR Y)->Nat->Nat
 | [],i=>i
 |d::I,i=>iD I (i+d.r.n)
theorem Ye8{N:Nat} {d:Option Nat} {r:Res Y} {T:Fr Y} {h:Hp Y} {i:Nat} {ms:List Nat} {k:Fr Y->Hp Y->Nat->List Nat->Prop} (R:DomLt h i) (I:keep N d r T h i ms k):k (updO T d r.v) (patch h i r) (i+r.n) (r.mods++ms)/\(∀x,d=ae x->x<N)/\Za8 r.v=none:=by
 unfold keep at I;split at I
 ·exact I.elim
 rename_i U;unfold Zo4 at I;split at I
 ·exact⟨Uk R I,(λx J=>by cases J),U⟩
 ·split at I
  ·rename_i hd
   rw[Zej] at I;exact⟨Uk R I,(λx J=>by cases J;exact Yq hd),U⟩
  ·exact I.elim
def FrB(I T:Fr Y):Prop:=∀s,I s=T s\/∃l x,T s= .bool l x/\I s= .bool ac x
theorem FrB.refl(T:Fr Y):FrB T T:=λs=> .inl rfl
theorem FrB.updO{I T:Fr Y} (h:FrB I T) (d:Option Nat) (v:SV Y):FrB (updO I d v) (updO T d v):=by
 intro s;cases d with
 |none=>exact h s
 |some d=>
  show upd I d v s=upd T d v s\/∃l x,upd T d v s= .bool l x/\upd I d v s= .bool ac x;rw[Ze,Ze];by_cases e:s=d
  ·rw[jM e,jM e];exact .inl rfl
  ·rw[jJ e,jJ e];exact h s
theorem FrB.bool{J T:Fr Y} (h:FrB J T) {d:Nat} {l x:Bool} (hd:J d= .bool l x):∃I,T d= .bool I x:=by
 rcases h d with e|⟨I,x',U,R⟩
 ·exact⟨l,e▸hd⟩
 ·rw[hd] at R;cases R;exact⟨I,U⟩
theorem FrB.fix{I T:Fr Y} (h:FrB I T) {d:Nat} {l x:Bool} (hd:I d= .bool l x):FrB (upd I d (.bool ac x)) T:=by
 intro s;rw[Ze];by_cases e:s=d
 ·rw[jM e]
  obtain⟨R,J⟩:=h.bool hd;exact .inr ⟨R,x,by rw[e];exact J,rfl⟩
 ·rw[jJ e];exact h s
theorem FrB.den{I T:Fr Y} (h:FrB I T) {σ:Pl} {g:GH} {s:Nat} {u:Value} (hd:Den E σ g (T s) u):Den E σ g (I s) u:=by
 rcases h s with e|⟨l,x,J,R⟩
 ·rw[e];exact hd
 ·rw[J] at hd;rw[R];cases hd;exact .bool _ _
theorem FrB.tri{I T:Fr Y} (h:FrB I T) {o:Oper} {J:Hp Y} {i:Nat} {r:Res Y} (R:OpTri E o I J i r):OpTri E o T J i r:=by
 refine⟨R.1,λB σ g w ρ hp U h2 h3 h4 h5=>R.2 B σ g w ρ hp U h2 h3 h4 λx hx=> ?_⟩;have:=h5 x hx;cases x with
 |tmp s=>exact h.den this
 |_=>exact this
theorem Aft.frB{B N i i':Nat} {ms:List Nat} {σ:Pl} {g:GH} {w:World} {R:List Deferred} {T I:Fr Y} {U:Hp Y} {J:Act} {w':World} (hA:Aft E B N i i' ms σ g w R T U J w') (h:FrB I T):Aft E B N i i' ms σ g w R I U J w':=by
 obtain⟨h1,h2,σ',g',h3,h4,h5⟩:=hA;exact⟨h1,h2,σ',g',h3,h4,λt=>h.den (h5 t)⟩
def PanF(E:Eng Y) (o:Oper) (T:Fr Y) (h:Hp Y) (i:Nat) (r:Res Y) (p:Value):Prop:=
 ∀(B:Nat) (σ:Pl) (g:GH) (w:World) (a:Act) (K:Act->World->Prop) (Q:Exit->Act->World->Prop),Inv E B σ h g w->B<=w.heap.size->(∀b,i<=b->b<i+r.n->σ b=au)->
  (∀x∈o.op.operands.toList,Den E σ g (ev T x) (a.eval x))->(∀I,(∃σ' J,Stp i r.n r.mods σ g w σ' J I/\Inv E B σ' (patch h i r) J I)->Q (.panic [{v:=p,recovered:=false}]) a I)->o.wp E.P a w K Q
def QOk(E:Eng Y) (N:Nat) (h:Hp Y) (i:Nat) (J:List Nat) (I:Nat) (R:Res Y) (p:Value):List Oper->Nat->Fr Y->List (DR Y)->Prop
 | [],_,_,[]=>True
 |o::os,j,T,d::U=>((j=I->PanF E o T h i R p)/\(j≠I->bitB (nthN J j) I=ab->d.r.n=0/\d.r.mods= []/\OpTri E o T h i d.r/\∀x,o.dst=ae x->x<N))/\QOk E N h i J I R p os (j+1) (updO T o.dst d.r.v) U
 |_,_,_,_=>False
theorem Z8p{N:Nat} {d:Option Nat} (h:Yfi N d=ac):∀x,d=ae x->x<N:=by
 rintro x rfl;exact Yq h
theorem Zu7{l:List Nat} (h:Zyt l=ac):l= []:=by cases l<;>first|rfl|cases h
theorem Ye9{N:Nat} {call:Nat->List (SV Y)->Hp Y->Nat->(Res Y->Prop)->Prop} (a2:∀(o:Oper) T h i k,DomLt h i->step E call o.op T h i k->∃r,k r/\OpTri2 E o T h i r) {h:Hp Y} {i:Nat} (hD:DomLt h i) {a1:List Nat} {j0:Nat} {rp:Res Y} {p:Value} {K:Prop}:
 ∀(os:List Oper) (j:Nat) (T:Fr Y),j0<j->rgnX E N call a1 j0 os j T h i K->∃ds,K/\QOk E N h i a1 j0 rp p os j T ds:=by
 intro os
 induction os with
 |nil=>intro j T _ I;exact⟨[],I,jX⟩
 |cons o os ih=>
  intro j T hj I
  unfold rgnX at I
  split at I
  ·rename_i hb
   obtain⟨ds,J,U⟩:=ih (j+1) _ (by omega) I
   refine⟨⟨i,quiet [] .unk⟩::ds,J,⟨⟨λe=>by omega,λ_ a0=> ?_⟩,U⟩⟩
   rw[hb] at a0;cases a0
  ·obtain⟨r,I,a3⟩:=a2 o T h i _ hD I
   split at I
   ·rename_i hn R hp
    rw[Zej] at I
    rw[aq] at R
    obtain⟨ds,J,U⟩:=ih (j+1) _ (by omega) I
    exact⟨⟨i,r⟩::ds,J,⟨⟨λe=>by omega,λ_ _=>⟨hn,Zu7 R.1,a3.tri hp,Z8p R.2⟩⟩,U⟩⟩
   ·exact I.elim
theorem Zc6{m:Nat}:∀{prev:List (Nat×DR Y)},Zko prev=ac->Za9 (X1 m prev)= []
 | [],_=>rfl
 |(j,d)::prev,h=>by
  simp only[Zko,aq] at h
  have I:=Zc6 (m:=m) h.2
  unfold X1
  split
  ·exact I
  ·unfold Za9
   have J:=h.1
   split at J
   ·rename_i e
    first|exact I|(rw[e];exact I)
   ·cases J
theorem Zyk{j:Nat} {d:DR Y} {prev:List (Nat×DR Y)} (h:Zko ((j,d)::prev)=ac):d.r.n=0/\d.r.mods= []/\Zko prev=true:=by
 simp only[Zko,aq] at h;have I:=h.1;split at I
 ·rename_i e
  exact⟨e,Zu7 I,h.2⟩
 ·cases I
theorem FrB.pan{I T:Fr Y} (h:FrB I T) {o:Oper} {J:Hp Y} {i:Nat} {r:Res Y} {p:Value} (ht:PanF E o I J i r p):PanF E o T J i r p:=by
 refineλB σ g w a K Q R U h3 h4=>ht B σ g w a K Q R U h3 λx hx=> ?_;have:=h4 x hx;cases x with
 |tmp s=>exact h.den this
 |_=>exact this
theorem Ydn{t:Nat} {D:List Nat} (R:t∉D):∀{os:List Oper} {I:List (DR Y)} {L:Nat->Bool} {T:Fr Y},(∀o∈os,∀d,o.dst=ae d->d∈D)->tD os I L T t=T t
 | [],I,L,T,_=>by simp[tD]
 |o::os,[],L,T,_=>by simp[tD]
 |o::os,d::I,L,T,J=>by
  simp only[tD]
  rw[Ydn R λo' U=>J o' (aI _ U)]
  cases L 0
  ·rfl
  ·simp only[cond_true]
   rw[Xb,jJ]
   intro e
   exact R (J o (by simp) t e)
def OffEq(D:List Nat) (T I:Fr Y):Prop:=∀t,t∉D->I t=T t
theorem OffEq.updO{D:List Nat} {T I:Fr Y} (h:OffEq D T I) {d:Option Nat} {v:SV Y} (hd:∀x,d=ae x->x∈D):OffEq D T (updO I d v):=by
 intro t J;rw[Xb,jJ (λe=>J (hd t e))];exact h t J
theorem OffEq.upd{D:List Nat} {T I:Fr Y} (h:OffEq D T I) {d:Nat} {v:SV Y} (hd:d∈D):OffEq D T (upd I d v):=by
 intro t J;have R:t≠d:=λe=>J (by rw[e];exact hd);rw[Ze,jJ R];exact h t J
theorem Zg3:∀{ops:List Oper} {o:Oper} {d:Nat},o∈ops->o.dst=ae d->d∈Yd ops
 | [],o,d,h,_=>by cases h
 |x::r,o,d,h,e=>by
  unfold Yd
  rcases aH.1 h with rfl|h
  ·rw[e];simp
  ·have:=Zg3 h e
   split
   ·exact aI _ this
   ·exact this
theorem Zb4{T:Fr Y} {j:Nat}:∀{D:List Nat},Vh D T j=if j∈D then .unk else T j
 | []=>by simp[Vh]
 |d::r=>by
  unfold Vh
  rw[Ze,Zb4]
  by_cases h:j=d
  ·simp[h]
  ·simp[h]
theorem Z8q{D:List Nat} {T I:Fr Y} (h:OffEq D T I):Vh D I=Vh D T:=by
 funext t;rw[Zb4,Zb4];split
 ·rfl
 ·exact h t (by assumption)
theorem Z1o{N:Nat} {h:Hp Y} {i:Nat} {a0:List Nat} {j0:Nat} {rp:Res Y} {p:Value}:∀{os:List Oper} {j:Nat} {I T:Fr Y} {J:List (DR Y)},FrB I T->QOk E N h i a0 j0 rp p os j I J->QOk E N h i a0 j0 rp p os j T J
 | [],_,_,_,[],_,_=>jX
 | [],_,_,_,_::_,_,U=>U.elim
 |_::_,_,_,_,[],_,U=>U.elim
 |o::os,j,I,T,d::J,R,⟨⟨h1,h2⟩,h3⟩=>
  ⟨⟨λe=>R.pan (h1 e),λe hb=>let⟨a,b,c,d⟩:=h2 e hb;⟨a,b,R.tri c,d⟩⟩,Z1o (R.updO _ _) h3⟩
theorem Zyl{all:List Oper} {j d:Nat} (h:Zh3 all j=ae d):d∈Yd all:=by
 unfold Zh3 at h;split at h
 ·rename_i o I
  exact Zg3 (aL I) h
 ·cases h
theorem Zr1{o:Oper} (J:o.guard≠au):∀{all:List Oper},o∈all->¬noG all=ac
 | [],h=>by cases h
 |x::r,h=>by
  intro I
  simp only[noG,aq] at I
  rcases aH.1 h with rfl|h
  ·cases R:o.guard with
   |none=>exact J R
   |some _=>rw[R] at I;cases I.1
  ·exact Zr1 J h I.2
theorem Zu8(N:Nat) (d:Option Nat):(Wy N d:SV Y)= .unk\/(Wy N d:SV Y)= .val undef:=by
 unfold Wy;split
 ·exact .inr rfl
 ·exact .inl rfl
theorem Zu9{N:Nat} {d:Option Nat} (h:(Wy N d:SV Y)≠ .unk) {x:Nat} (I:d=ae x):x<N:=by
 unfold Wy at h;split at h
 ·rename_i q
  subst I;exact gY q
 ·exact ka rfl h
theorem FrB.val{I T:Fr Y} (h:FrB I T) {d:Nat} {u:Value} (hd:I d= .val u):T d= .val u:=by
 rcases h d with e|⟨U,x',R,J⟩
 ·exact e▸hd
 ·rw[hd] at J;cases J
theorem Z1p{N : Nat} {call : Nat → List (SV Y) → Hp Y → Nat → (Res Y → Prop) → Prop} (b0 : ∀ (o : Oper) T h i k, DomLt h i → step E call o.op T h i k → ∃ r, k r ∧ OpTri2 E o T h i r) (all : List Oper) (U : List Nat) :
    ∀ (os : List Oper) (j : Nat) (R T : Fr Y) (h : Hp Y) (i : Nat) (ms : List Nat) (prev : List (Nat × DR Y)) (k : Kont Y) (T0 : Fr Y), (∀ o ∈ os, o ∈ all) → OffEq (Yd all) T0 R → FrB R T → DomLt h i → rgnD E N call all U os j R h i ms prev k →
      (∃ I T2, FrB T2 (tD os I (λ_ => ac) T) ∧ POk E all U os j T h i prev I ∧ k .normal T2 (memD I (λ_ => ac) h) (iD I i) (msD I ms) ∧ (∀ (m : Nat) (o : Oper) (d : DR Y), os[m]? = ae o → I[m]? = ae d → d.r.v ≠ .unk → ∀ x, o.dst = ae x → x < N)) ∨
      (∃ j0 I rp p, j ≤ j0 ∧ j0 < j + os.length ∧ noG all = ac ∧ Zko prev = ac ∧ ROk h rp ∧ QOk E N h i U j0 rp p os j T I ∧ k (.panic [{ v := p, recovered := false }]) (Vh (Yd all) T0) (patch h i rp) (i + rp.n) (rp.mods ++ ms)) := by
  intro os
  induction os with
  | nil => intro j R T h i ms prev k T0 _ _ hT hD J; exact .inl ⟨[], R, hT, jX, J, λm o d h => by simp at h⟩
  | cons o os ih =>
    intro j R T h i ms prev k T0 a6 a1 hT hD J
    have a7 : ∀ o' ∈ os, o' ∈ all := λo' b8 => a6 o' (aI _ b8)
    have a8 : ∀ x, o.dst = ae x → x ∈ Yd all := λx hx => Zg3 (a6 o (by simp)) hx
    have b1 : DomLt (V1 h (X1 (nthN U j) prev)) i := by
      intro b hb
      obtain⟨x, hx⟩ := aY.1 hb
      exact hD b (by rw[(Zhp hx).1]; simp)
    have tail : ∀ (R : Fr Y) (a2 : Res Y), OffEq (Yd all) T0 R → FrB R T → OpTri2 E o R (V1 h (X1 (nthN U j) prev)) i a2 → (∀ d, OpTri E o T (V1 h (X1 (nthN U j) prev)) d.i d.r → Zl4 E all o T (V1 h (X1 (nthN U j) prev)) d) →
        (match V0 ⟨i, a2⟩ (X1 (nthN U j) prev) with
            | true => keep N o.dst a2 R h i ms λT h i' ms => rgnD E N call all U os (j + 1) T h i' ms ((j, ⟨i, a2⟩) :: prev) k
            | false => False) →
        (∃ I T2, FrB T2 (tD (o :: os) I (λ_ => ac) T) ∧ POk E all U (o :: os) j T h i prev I ∧ k .normal T2 (memD I (λ_ => ac) h) (iD I i) (msD I ms) ∧ (∀ (m : Nat) (o' : Oper) (d : DR Y), (o :: os)[m]? = ae o' → I[m]? = ae d → d.r.v ≠ .unk → ∀ x, o'.dst = ae x → x < N)) ∨
        (∃ j0 I rp p, j ≤ j0 ∧ j0 < j + (o :: os).length ∧ noG all = ac ∧ Zko prev = ac ∧ ROk h rp ∧ QOk E N h i U j0 rp p (o :: os) j T I ∧ k (.panic [{ v := p, recovered := false }]) (Vh (Yd all) T0) (patch h i rp) (i + rp.n) (rp.mods ++ ms)) := by
      intro R r a1 hT a0 a3 J
      split at J
      ·rename_i b6
       obtain⟨J, b4, b7⟩ := Ye8 hD J
       have a0 := hT.tri (a0.tri b7)
       have hR : ROk h r := λb hb => by
         obtain⟨x, hx⟩ := aY.1 (a0.1 b hb)
         rw[(Zhp hx).1]; simp
       rcases ih (j + 1) _ (updO T o.dst r.v) _ _ _ _ k T0 a7 (a1.updO a8) (hT.updO _ _) (hD.patch hR) J with⟨I, T2, h0, h1, h2, h3⟩ | ⟨j0, I, rp, p, g1, b2, g2, g3, g4, g5, g6⟩
       ·refine .inl ⟨⟨i, r⟩ :: I, T2, h0, ⟨⟨rfl, hD, hR, b6, a3 ⟨i, r⟩ a0⟩, h1⟩, h2, λm o' d hm hd hv x hx => ?_⟩
        cases m with
        | zero => obtain rfl : o = o' := by simpa using hm
                  exact b4 x hx
        | succ m => exact h3 m o' d (by simpa using hm) (by simpa using hd) hv x hx
       ·obtain⟨q1, q2, q3⟩ := Zyk g3
        have q1 : r.n = 0 := q1
        have q2 : r.mods = [] := q2
        have a9 : patch h i r = h := by
          funext b
          rw[Zp, jJ]
          rw[q1, q2]
          rintro(e | e)
          ·simp at e
          ·omega
        rw[a9] at g4
        rw[a9, q1, ei] at g5
        rw[a9, q1, q2, ei] at g6
        have hv : V1 h (X1 (nthN U j) prev) = h := by unfold V1; rw[Zc6 q3]
        rw[hv] at a0
        exact .inr ⟨j0, ⟨i, r⟩ :: I, rp, p, by omega, by simp only[aE]; omega, g2, q3, g4, ⟨⟨λe => by omega, λ_ _ => ⟨q1, q2, a0, b4⟩⟩, g5⟩, g6⟩
      ·exact J.elim
    have run : ∀ (R : Fr Y), OffEq (Yd all) T0 R → FrB R T → (∀ d, OpTri E o T (V1 h (X1 (nthN U j) prev)) d.i d.r → Zl4 E all o T (V1 h (X1 (nthN U j) prev)) d) →
        step E call o.op R (V1 h (X1 (nthN U j) prev)) i (λa2 => (match V0 ⟨i, a2⟩ (X1 (nthN U j) prev) with
            | true => keep N o.dst a2 R h i ms λT h i' ms => rgnD E N call all U os (j + 1) T h i' ms ((j, ⟨i, a2⟩) :: prev) k
            | false => False)) →
        (∃ I T2, FrB T2 (tD (o :: os) I (λ_ => ac) T) ∧ POk E all U (o :: os) j T h i prev I ∧ k .normal T2 (memD I (λ_ => ac) h) (iD I i) (msD I ms) ∧ (∀ (m : Nat) (o' : Oper) (d : DR Y), (o :: os)[m]? = ae o' → I[m]? = ae d → d.r.v ≠ .unk → ∀ x, o'.dst = ae x → x < N)) ∨
        (∃ j0 I rp p, j ≤ j0 ∧ j0 < j + (o :: os).length ∧ noG all = ac ∧ Zko prev = ac ∧ ROk h rp ∧ QOk E N h i U j0 rp p (o :: os) j T I ∧ k (.panic [{ v := p, recovered := false }]) (Vh (Yd all) T0) (patch h i rp) (i + rp.n) (rp.mods ++ ms)) := λR a1 hT a3 J => by
      obtain⟨r, J, a0⟩ := b0 o R _ i _ b1 J
      exact tail R r a1 hT a0 a3 J
    unfold rgnD at J
    split at J
    ·rename_i hg
     obtain⟨r, J, a0⟩ := b0 o R _ i _ b1 J
     split at J
     ·rename_i p hp
      split at J
      ·rename_i hq
       rw[aq] at hq
       have hv : V1 h (X1 (nthN U j) prev) = h := by unfold V1; rw[Zc6 hq.2]
       rw[hv] at a0
       obtain⟨hR, b9⟩ := a0.pan hp
       obtain⟨I, hK, c0⟩ := Ye9 (rp := r) (p := p) b0 hD os (j + 1) (updO R o.dst .unk) (dC j) J
       have hK := Uk hD hK
       rw[Z8q a1] at hK
       exact .inr ⟨j, ⟨i, quiet [] .unk⟩ :: I, r, p, av _, by simp only[aE]; omega, hq.1, hq.2, hR, ⟨⟨λ_ => hT.pan b9, λe => ka rfl e⟩, Z1o (hT.updO _ _) c0⟩, hK⟩
      ·exact J.elim
     ·exact tail R r a1 hT a0 (λd hd => by unfold Zl4; rw[hg]; exact hd) J
    ·rename_i g b hg
     split at J
     ·rename_i s hs
      split at J
      ·rename_i l x a5
       have J := Y5 J
       obtain⟨l', b3⟩ := hT.bool a5
       have hT := hT.fix a5
       have b5 : OffEq (Yd all) T0 (upd R s (.bool ac x)) := a1.upd (Zyl hs)
       split at J
       ·rename_i a4
        have a4 : x = b := by simpa using a4
        exact run _ b5 hT (λd hd => by unfold Zl4; rw[hg]; exact⟨s, hs, .inl ⟨l', x, b3, a4, hd⟩⟩) J
       ·rename_i a4
        have a4 : x ≠ b := by rintro rfl; simp at a4
        have hp : patch h i (quiet [] (Wy N o.dst)) = h := Y4 h i [] (Wy N o.dst)
        have a3 : (quiet [] (Wy N o.dst) : Res Y) = quiet [] .unk ∨ (quiet [] (Wy N o.dst) : Res Y) = quiet [] (.val undef) := (Zu8 N o.dst).imp (kk (quiet [])) (kk (quiet []))
        rcases ih (j + 1) _ (updO T o.dst (Wy N o.dst)) _ _ _ _ k T0 a7 (b5.updO a8) (hT.updO _ _) hD J with⟨I, T2, h0, h1, h2, h3⟩ | ⟨j0, I, rp, p, g1, b2, g2, g3, g4, g5, g6⟩
        case inr => exact ka g2 (Zr1 (by rw[hg]; simp) (a6 o (by simp)))
        refine .inl ⟨⟨i, quiet [] (Wy N o.dst)⟩ :: I, T2, h0, ⟨⟨rfl, hD, λb hb => by simp[quiet] at hb, Zd4 i _, by unfold Zl4; rw[hg]; exact⟨s, hs, .inr ⟨.inl ⟨l', x, b3, a4⟩, a3⟩⟩⟩, ?_⟩, ?_, λm o' d hm hd hv x hx => ?_⟩
        ·show POk E all U os (j + 1) _ (patch h i (quiet [] (Wy N o.dst))) _ _ I
         rw[hp]; exact h1
        ·show k .normal T2 (memD I _ (patch h i (quiet [] (Wy N o.dst)))) _ _
         rw[hp]; exact h2
        ·cases m with
         | zero => obtain rfl : (⟨i, quiet [] (Wy N o.dst)⟩ : DR Y) = d := by simpa using hd
                   obtain rfl : o = o' := by simpa using hm
                   exact Zu9 hv hx
         | succ m => exact h3 m o' d (by simpa using hm) (by simpa using hd) hv x hx
      ·rename_i u a5
       split at J
       ·exact J.elim
       ·rename_i hu
        have hp : patch h i (quiet [] (Wy N o.dst)) = h := Y4 h i [] (Wy N o.dst)
        have a3 : (quiet [] (Wy N o.dst) : Res Y) = quiet [] .unk ∨ (quiet [] (Wy N o.dst) : Res Y) = quiet [] (.val undef) := (Zu8 N o.dst).imp (kk (quiet [])) (kk (quiet []))
        rcases ih (j + 1) _ (updO T o.dst (Wy N o.dst)) _ _ _ _ k T0 a7 (a1.updO a8) (hT.updO _ _) hD J with⟨I, T2, h0, h1, h2, h3⟩ | ⟨j0, I, rp, p, g1, b2, g2, g3, g4, g5, g6⟩
        case inr => exact ka g2 (Zr1 (by rw[hg]; simp) (a6 o (by simp)))
        refine .inl ⟨⟨i, quiet [] (Wy N o.dst)⟩ :: I, T2, h0, ⟨⟨rfl, hD, λb hb => by simp[quiet] at hb, Zd4 i _, by unfold Zl4; rw[hg]; exact⟨s, hs, .inr ⟨.inr ⟨u, hT.val a5, hu⟩, a3⟩⟩⟩, ?_⟩, ?_, λm o' d hm hd hv x hx => ?_⟩
        ·show POk E all U os (j + 1) _ (patch h i (quiet [] (Wy N o.dst))) _ _ I
         rw[hp]; exact h1
        ·show k .normal T2 (memD I _ (patch h i (quiet [] (Wy N o.dst)))) _ _
         rw[hp]; exact h2
        ·cases m with
         | zero => obtain rfl : (⟨i, quiet [] (Wy N o.dst)⟩ : DR Y) = d := by simpa using hd
                   obtain rfl : o = o' := by simpa using hm
                   exact Zu9 hv hx
         | succ m => exact h3 m o' d (by simpa using hm) (by simpa using hd) hv x hx
      ·exact J.elim
     ·exact J.elim
end
end
section
open Go.RowKit
section
variable {Y:Thy} {E:Eng Y}
def cntF(listed:Array Bool) (n:Nat):Nat:=((dk n).filter λj=> !listed.getD j ac).length
theorem Zy1(listed:Array Bool) (i:Nat) (hs:listed.getD i ac=ab):∀(L:List Nat),L.Nodup->
 (L.filter λj=> !(listed.setIfInBounds i ac).getD j ac).length+(if i∈L then 1 else 0)=(L.filter λj=> !listed.getD j ac).length:=by
 have hb:i<listed.size:=by
  by_cases h:i<listed.size
  ·exact h
  ·simp[ee,h] at hs
 have J:∀j,(listed.setIfInBounds i ac).getD j ac=if j=i then ac else listed.getD j true:=by
  intro j
  simp only[aS,cY]
  by_cases h:i=j
  ·subst h;simp[hb]
  ·rw[jJ h,jJ (λh'=>h h'.symm)]
 intro L
 induction L with
 |nil=>intro _;simp
 |cons x L ih=>
  intro U
  rw[List.nodup_cons] at U
  have I:=ih U.2
  by_cases R:x=i
  ·subst R
   rw[jJ U.1] at I
   simp only[eW,J,kL,hs,kF,iN,aH,true_or,kM,aE]
   simp only[J] at I
   simp at I⊢
   exact I
  ·have hm:(i∈x::L)↔i∈L:=by simp[Ne.symm R]
   simp only[hm]
   by_cases hl:listed.getD x ac=ac
   ·simp only[eW,J,jJ R,hl,kF] at I⊢
    exact I
   ·have a0:listed.getD x ac=false:=by simpa using hl
    simp only[eW,J,jJ R,a0,iN,kL,aE] at I⊢
    omega
theorem Zsj(listed:Array Bool) (i n:Nat) (hi:i<n) (I:listed.getD i ac=ab):cntF (listed.setIfInBounds i ac) n+1=cntF listed n:=by
 have:=Zy1 listed i I (dk n) List.nodup_range;rw[jM (by simpa using hi)] at this;exact this
theorem Stp.join{i i1 i2 n n1 n2:Nat} {m m1 m2:List Nat} {σ σ1 σ2:Pl} {g g1 g2:GH} {w w1 w2:World} (h:Stp i1 n1 m1 σ g w σ1 g1 w1) (k:Stp i2 n2 m2 σ1 g1 w1 σ2 g2 w2) (a1:i<=i1) (b1:i1+n1<=i+n) (a2:i<=i2) (b2:i2+n2<=i+n)
 (a0:∀b∈m1,b∈m) (a4:∀b∈m2,b∈m):Stp i n m σ g w σ2 g2 w2:=by
 have back:∀b∈m2,∀r z,σ1 b=ae (r,z)->w.heap.size<=r\/∃R∈m,∃z',σ R=ae (r,z'):=by
  intro b hb r z a3
  cases hs:σ b with
  |none=>
   rcases h.blk b r z hs a3 with I|⟨R,I,z',J⟩
   ·exact .inl I
   ·exact .inr ⟨R,a0 R I,z',J⟩
  |some p=>
   have:=h.sig _ _ hs
   rw[a3] at this
   obtain rfl:=bd this
   exact .inr ⟨b,a4 b hb,z,hs⟩
 refine⟨h.sig.trans k.sig,?_,h.gle.trans k.gle,?_,?_,?_,bS h.size k.size,k.os.trans h.os,k.tape.trans h.tape,k.output.trans h.output,?_⟩
 ·intro b p hb
  rcases k.snew b p hb with I|I
  ·rcases h.snew b p I with J|J
   ·exact .inl J
   ·right;omega
  ·right;omega
 ·intro r o v hv
  rcases k.gcnew r o v hv with I|I|⟨b,I,z,J⟩
  ·rcases h.gcnew r o v I with J|J|⟨b,J,z,U⟩
   ·exact .inl J
   ·exact .inr (.inl J)
   ·exact .inr (.inr ⟨b,a0 b J,z,U⟩)
  ·exact .inr (.inl (bS h.size I))
  ·exact .inr (back b I r z J)
 ·intro r es hv
  rcases k.gmnew r es hv with I|I
  ·exact h.gmnew r es I
  ·exact .inr (bS h.size I)
 ·intro r hr hm
  rw[k.heap r (ck hr h.size) (λb hb z a3=> ?_),h.heap r hr λb hb z=>hm b (a0 b hb) z]
  rcases back b hb r z a3 with I|⟨R,I,z',J⟩
  ·omega
  ·exact hm R I z' J
 ·intro b r z I J
  cases hs:σ1 b with
  |none=>
   rcases k.blk b r z hs J with U|⟨R,U,z',h4⟩
   ·exact .inl (bS h.size U)
   ·exact back R U r z' h4
  |some p=>
   have:=k.sig _ _ hs
   rw[J] at this
   obtain rfl:=bd this
   rcases h.blk b r z I hs with U|⟨R,U,z',h4⟩
   ·exact .inl U
   ·exact .inr ⟨R,a0 R U,z',h4⟩
theorem Inv.sub{B:Nat} {σ:Pl} {h U:Hp Y} {g:GH} {w:World} (I:Inv E B σ h g w) (R:∀b x,U b=ae x->h b=ae x):Inv E B σ U g w:=by
 have ne:∀b,U b≠au->h b≠none:=λb hb=>by
  obtain⟨x,J⟩:=aY.1 hb;rw[R b x J];simp
 exact⟨I.gc,I.gm,λb x J=>I.blk b x (R b x J),λb b' r z z' h1 h2=>I.inj b b' r z z' (ne b h1) (ne b' h2),I.base,λb x r z o v J=>I.fz b x r z o v (R b x J),λb x r z J=>I.fm b x r z (R b x J),I.glob⟩
theorem Zmq:∀{J R:List Nat},disj J R=ac->∀x∈J,x∉R
 | [],_,_,x,I=>by simp at I
 |y::J,R,h,x,I=>by
  simp only[disj,aq,bj] at h
  rcases aH.1 I with rfl|I
  ·intro U;rw[memB_iff.2 U] at h;cases h.1
  ·exact Zmq h.2 x I
theorem Zpb{d:DR Y}:∀{l:List Nat},Zc3 d l=ac->∀x∈l,¬(d.i<=x/\x<d.i+d.r.n)
 | [],_,x,I=>by simp at I
 |y::l,h,x,I=>by
  simp only[Zc3,aq,bj] at h
  rcases aH.1 I with rfl|I
  ·intro J;have:d.new x=true:=inNew_iff.2 J;rw[this] at h;cases h.1
  ·exact Zpb h.2 x I
theorem Zfs{b:DR Y}:∀{l:List (DR Y)},V0 b l=ac->∀a∈l,Zh4 a b=ac
 | [],_,a,I=>by simp at I
 |y::l,h,a,I=>by
  simp only[V0,aq] at h
  rcases aH.1 I with rfl|I
  ·exact h.1
  ·exact Zfs h.2 a I
theorem Zmr{m:Nat} {j:Nat} {d:DR Y}:∀{l:List (Nat×DR Y)},(j,d)∈l->bitB m j=ab->d∈X1 m l
 | [],h,_=>by simp at h
 |(R,J)::l,h,I=>by
  simp only[X1]
  rcases aH.1 h with e|h
  ·cases e;rw[I];simp
  ·have:=Zmr h I
   split<;>simp[this]
theorem Zib{a b:DR Y} (h:Zh4 a b=ac):(∀x∈a.r.mods,x∉b.r.mods)/\(∀x∈b.r.mods,¬(a.i<=x/\x<a.i+a.r.n))/\(∀x,Rd b.r x->x∉a.r.mods)/\(∀x,Rd a.r x->x∉b.r.mods):=by
 simp only[Zh4,aq] at h;obtain⟨⟨⟨h1,h2⟩,U⟩,h4⟩:=h;refine⟨Zmq h1,Zpb h2,?_,?_⟩
 ·intro x R I
  unfold Rd at R;split at R
  ·rename_i J
   rw[J] at U;cases hq:a.r.mods with
   |nil=>rw[hq] at I;simp at I
   |cons y l=>rw[hq] at U;cases U
  ·rename_i l J
   rw[J] at U;simp only[aq] at U;exact Zmq U.1 x I R
 ·intro x R I
  unfold Rd at R;split at R
  ·rename_i J
   rw[J] at h4;cases hq:b.r.mods with
   |nil=>rw[hq] at I;simp at I
   |cons y l=>rw[hq] at h4;cases h4
  ·rename_i l J
   rw[J] at h4;simp only[aq] at h4;exact Zmq h4.1 x I R
theorem Zsk(m k:Nat):bitB m k=m.testBit k:=by
 unfold bitB Nat.testBit;show(aO ((m>>>k)&&&1) 1)=(1&&&(m>>>k) !=0);rw[Nat.and_comm 1,Nat.and_one_is_mod];rcases Nat.mod_two_eq_zero_or_one (m>>>k) with h|h<;>rw[h]<;>rfl
theorem Zft{k:Nat} {J:List Nat}:∀{ws:List Nat},bitB (Zc2 ws J) k=ac->∃j∈ws,j=k\/bitB (nthN J j) k=ac
 | [],h=>by simp[Zc2,bitB] at h
 |j::ws,h=>by
  rw[Zsk] at h
  have R:(((1<<<j)|||nthN J j)|||Zc2 ws J).testBit k=true:=h
  rw[kG,kG,bm,bm] at R
  rcases R with(I|I)|I
  ·refine⟨j,by simp,.inl ?_⟩
   rw[Nat.one_shiftLeft,Nat.testBit_two_pow] at I
   simpa using I
  ·exact⟨j,by simp,.inr (by rw[Zsk];exact I)⟩
  ·obtain⟨j',U,h3⟩:=Zft (ws:=ws) (by rw[Zsk];exact I)
   exact⟨j',by simp[U],h3⟩
theorem Zic:∀(a b:List Nat) (j:Nat),j<a.length->nthN (a++b) j=nthN a j
 | [],b,j,h=>by simp at h
 |x::a,b,0,h=>rfl
 |x::a,b,j+1,h=>by simpa[nthN] using Zic a b j (by simpa using h)
theorem Z2x:∀(a:List Nat) (x:Nat) (b:List Nat),nthN (a++x::b) a.length=x
 | [],x,b=>rfl
 |y::a,x,b=>by simpa[nthN] using Z2x a x b
theorem Zpc:∀(os:List Oper) (I:List Nat),∃b,Xj os I=I++b
 | [],I=>⟨[],by simp[Xj]⟩
 |o::os,I=>by
  obtain⟨b,J⟩:=Zpc os (I++ [Zc2 (waitsOf o) I])
  exact⟨Zc2 (waitsOf o) I::b,by simp[Xj,J]⟩
theorem Zvu:∀(os:List Oper) (I:List Nat) (j:Nat) (o:Oper),os[j]? =ae o->∃pre,nthN (Xj os I) (I.length+j)=Zc2 (waitsOf o) pre/\∀k,k<I.length+j->nthN pre k=nthN (Xj os I) k:=by
 intro os
 induction os with
 |nil=>intro I j o h;simp at h
 |cons J os ih=>
  intro I j o h;cases j with
  |zero=>
   obtain rfl:J=o:=by simpa using h
   obtain⟨b,hb⟩:=Zpc os (I++ [Zc2 (waitsOf J) I]);refine⟨I,?_,λk hk=> ?_⟩
   ·simp only[Xj,hb,be,je,ei];exact Z2x _ _ _
   ·simp only[Xj,hb,be,je]
    rw[Zic _ _ _ (by simpa using hk)]
  |succ j=>
   obtain⟨pre,R,U⟩:=ih (I++ [Zc2 (waitsOf J) I]) j o (by simpa using h);simp only[az,List.length_singleton] at R U;exact⟨pre,by rw[show I.length+(j+1)=I.length+1+j by omega];exact R,λk hk=>U k (by omega)⟩
theorem Zg7{j:Nat}:∀{l:List Nat},Zys j l=ac->∀x∈l,x<j
 | [],_,x,I=>by simp at I
 |y::l,h,x,I=>by
  simp only[Zys,aq] at h
  rcases aH.1 I with rfl|I
  ·exact Yq h.1
  ·exact Zg7 h.2 x I
theorem Zdf{all:List Oper} {b:Oper} {m:Nat}:∀{l:List Oper} {i k:Nat} {a:Oper},Zb8 all b m l i=ac->l[k]? =ae a->bitB m (i+k)=ac\/Zk5 all a b=ac
 | [],i,k,a,_,h=>by simp at h
 |x::l,i,0,a,h,I=>by
  obtain rfl:x=a:=by simpa using I
  simp only[Zb8,aq,bm] at h
  exact h.1
 |x::l,i,k+1,a,h,I=>by
  simp only[Zb8,aq] at h
  have:=Zdf (k:=k) h.2 (by simpa using I)
  rwa[show i+1+k=i+(k+1) by omega] at this
theorem Zbb{all:List Oper} {ms:List Nat}:∀{l:List Oper} {j k:Nat} {b:Oper},Zge all ms l j=ac->l[k]? =ae b->Zys (j+k) (waitsOf b)=ac/\Zb8 all b (nthN ms (j+k)) (all.take (j+k)) 0=ac
 | [],j,k,b,_,h=>by simp at h
 |x::l,j,0,b,h,I=>by
  obtain rfl:x=b:=by simpa using I
  simp only[Zge,aq] at h
  exact h.1
 |x::l,j,k+1,b,h,I=>by
  simp only[Zge,aq] at h
  have:=Zbb (k:=k) h.2 (by simpa using I)
  rwa[show j+1+k=j+(k+1) by omega] at this
theorem Z2y{all:List Oper} {J:List Nat}:∀{os:List Oper} {j:Nat} {T:Fr Y} {h:Hp Y} {i:Nat} {prev:List (Nat×DR Y)} {I:List (DR Y)},POk E all J os j T h i prev I->os.length=I.length
 | [],_,_,_,_,_,[],_=>rfl
 |_::os,_,_,_,_,_,_::I,h=>by simp[Z2y h.2]
theorem Z9e{all:List Oper} {a3:List Nat}:∀{os:List Oper} {j:Nat} {T:Fr Y} {h:Hp Y} {i:Nat} {prev:List (Nat×DR Y)} {R:List (DR Y)},POk E all a3 os j T h i prev R->
 i<=iD R i/\∀(m:Nat) (d:DR Y),R[m]? =ae d->i<=d.i/\d.i+d.r.n<=iD R i/\∀(I:Nat) (J:DR Y),m<I->R[I]? =ae J->d.i+d.r.n<=J.i
 | [],_,_,_,_,_,[],_=>⟨av _,λm d h=>by simp at h⟩
 |o::os,j,T,h,i,prev,d0::R,hp=>by
  obtain⟨⟨rfl,_⟩,h2⟩:=hp
  obtain⟨a2,a0⟩:=Z9e h2
  simp only[iD]
  refine⟨by omega,λm d hm=> ?_⟩
  cases m with
  |zero=>
   obtain rfl:d0=d:=by simpa using hm
   refine⟨av _,a2,λI J a1 U=> ?_⟩
   cases I with
   |zero=>omega
   |succ I=>exact(a0 I J (by simpa using U)).1
  |succ m=>
   obtain⟨a,b,c⟩:=a0 m d (by simpa using hm)
   refine⟨by omega,b,λI J a1 U=> ?_⟩
   cases I with
   |zero=>omega
   |succ I=>exact c I J (by omega) (by simpa using U)
theorem Z2z:∀(I:List (DR Y)) (ms:List Nat) (m:Nat) (d:DR Y),I[m]? =ae d->∀b∈d.r.mods,b∈msD I ms
 | [],ms,m,d,h=>by simp at h
 |d0::I,ms,0,d,h=>by
  obtain rfl:d0=d:=by simpa using h
  intro b J
  have:∀(I:List (DR Y)) (ms:List Nat),b∈ms->b∈msD I ms:=by
   intro I
   induction I with
   |nil=>intro ms h;exact h
   |cons d I R=>intro ms h;exact R _ (by simp[h])
  exact this I _ (by simp[J])
 |d0::I,ms,m+1,d,h=>Z2z I _ m d (by simpa using h)
theorem Ydv{all : List Oper} {mks : List Nat} : ∀ {os : List Oper} {j0 : Nat} {T : Fr Y} {h : Hp Y} {i : Nat} {prev : List (Nat × DR Y)} {ds : List (DR Y)}, POk E all mks os j0 T h i prev ds → ∀ (m : Nat) (o : Oper) (d : DR Y), os[m]? = ae o → ds[m]? = ae d →
    ∃ I, (∀ p ∈ prev, p ∈ I) ∧ (∀ (m' : Nat) (d' : DR Y), m' < m → ds[m']? = ae d' → (j0 + m', d') ∈ I) ∧ DomLt (memD ds (λx => aU x m) h) d.i ∧ ROk (memD ds (λx => aU x m) h) d.r ∧
      V0 d (X1 (nthN mks (j0 + m)) I) = ac ∧ Zl4 E all o (tD os ds (λx => aU x m) T) (V1 (memD ds (λx => aU x m) h) (X1 (nthN mks (j0 + m)) I)) d := by
  intro os
  induction os with
  | nil => intro j0 T h i prev ds hp m o d hm; simp at hm
  | cons o0 os ih =>
    intro j0 T h i prev ds hp m o d hm hd
    cases ds with
    | nil => exact hp.elim
    | cons d0 ds =>
      obtain⟨⟨hi, hD, hR, hA, hO⟩, h2⟩ := hp
      cases m with
      | zero =>
        obtain rfl : o0 = o := by simpa using hm
        obtain rfl : d0 = d := by simpa using hd
        have e1 : memD (d0 :: ds) (λx => aU x 0) h = h := by
          have : (λx => aU x 0) = λ_ => false := by funext x; rw[← bg, aU, bu]; omega
          rw[this]; exact Zfl _ _
        have e2 : tD (o0 :: os) (d0 :: ds) (λx => aU x 0) T = T := by
          have : (λx => aU x 0) = λ_ => false := by funext x; rw[← bg, aU, bu]; omega
          rw[this]; exact Zd3 _ _ _
        rw[e1, e2]
        exact⟨prev, λp hp => hp, λm' d' h => by omega, by rw[hi]; exact hD, hR, hA, hO⟩
      | succ m =>
        obtain⟨I, p1, p2, p3⟩ := ih h2 m o d (by simpa using hm) (by simpa using hd)
        have eb : (λx => aU (x + 1) (m + 1)) = λx => aU x m := by funext x; rfl
        have e1 : memD (d0 :: ds) (λx => aU x (m + 1)) h = memD ds (λx => aU x m) (patch h i d0.r) := by
          simp only[memD]; rw[eb, hi]; rfl
        have e2 : tD (o0 :: os) (d0 :: ds) (λx => aU x (m + 1)) T = tD os ds (λx => aU x m) (updO T o0.dst d0.r.v) := by
          simp only[tD]; rw[eb]; rfl
        rw[e1, e2, show j0 + (m + 1) = j0 + 1 + m by omega]
        refine⟨I, λp hp => p1 p (by simp[hp]), λm' d' hlt hm' => ?_, p3⟩
        cases m' with
        | zero => obtain rfl : d0 = d' := by simpa using hm'
                  exact p1 _ (by simp)
        | succ m' => have := p2 m' d' (by omega) (by simpa using hm')
                     rwa[show j0 + 1 + m' = j0 + (m' + 1) by omega] at this
end
end
section
open Go.RowKit
section
variable {Y:Thy} {E:Eng Y}
theorem Ziv{listed:Array Bool} {n:Nat} (h:cntF listed n=0):∀j,j<n->listed.getD j ac=true:=by
 intro j J;by_cases I:listed.getD j ac=ac
 ·exact I
 ·have:j∈(dk n).filter λj=> !listed.getD j true:=cM.2 ⟨dU.2 J,by simp[I]⟩
  unfold cntF at h;rw[List.length_eq_zero_iff.1 h] at this;simp at this
theorem Ziw{listed:Array Bool} {n m:Nat} (h:cntF listed n=m+1):∃j,j<n/\listed.getD j ac=ab/\∀k,k<j->listed.getD k ac=true:=by
 have a0:∃j,j<n/\listed.getD j ac=false:=by
  have U:(dk n).filter (λj=> !listed.getD j ac)≠ []:=λe=>by unfold cntF at h;rw[e] at h;simp at h
  obtain⟨j,I⟩:=List.exists_mem_of_ne_nil _ U;obtain⟨a1,a2⟩:=cM.1 I;exact⟨j,dU.1 a1,by simpa using a2⟩
 have:∀k,∀j,j<n->listed.getD j ac=ab->j<=k->∃j,j<n/\listed.getD j ac=ab/\∀k,k<j->listed.getD k ac=true:=by
  intro k
  induction k with
  |zero=>intro j I h hk;exact⟨j,I,h,λk a3=>ka a3 (by omega)⟩
  |succ k a4=>
   intro j I h hk;by_cases R:∃i,i<j/\listed.getD i ac=ab
   ·obtain⟨i,a5,hi⟩:=R
    exact a4 i (by omega) hi (by omega)
   ·refine⟨j,I,h,λi hi=> ?_⟩
    by_cases J:listed.getD i ac=ac
    ·exact J
    ·exact ka ⟨i,hi,by simpa using J⟩ R
 obtain⟨j,I,h⟩:=a0;exact this j j I h (av _)
theorem Zf1:∀{l:List Operand} {t:Nat},Operand.tmp t∈l->t∈Zgd l
 | [],t,h=>by simp at h
 |x::l,t,h=>by
  rcases aH.1 h with rfl|h
  ·simp[Zgd]
  ·have:=Zf1 h
   cases x<;>simp[Zgd,this]
theorem U2{all:List Oper} {a b:Oper} (h:Zk5 all a b=ac):(∀t,a.dst=ae t->t∉Vg all b)/\(∀t,b.dst=ae t->t∉Vg all a)/\(∀t,a.dst=ae t->b.dst≠ae t):=by
 simp only[Zk5,aq,bj] at h;obtain⟨⟨J,R⟩,h3⟩:=h;refine⟨λt I U=> ?_,λt I U=> ?_,λt I hb=> ?_⟩
 ·rw[I] at J;simp only[memO] at J;rw[memB_iff.2 U] at J;cases J
 ·rw[I] at R;simp only[memO] at R;rw[memB_iff.2 U] at R;cases R
 ·rw[I,hb] at h3;simp[Ykz] at h3
theorem Yak{os:List Oper} {T:Fr Y} {h:Hp Y} {i N:Nat} {ms:List Nat} {I:List (DR Y)} (g3:Zge os (Xj os []) os 0=ac) (hp:POk E os (Xj os []) os 0 T h i [] I)
 (g0:∀(m:Nat) (o:Oper) (d:DR Y),os[m]? =ae o->I[m]? =ae d->d.r.v≠ .unk->∀x,o.dst=ae x->x<N)
 (B:Nat) (σ:Pl) (g:GH) (w:World) (a:Act) (Q:Exit->Act->World->Prop) (hI:Inv E B σ h g w) (hB:B<=w.heap.size) (i3:∀b,i<=b->b<iD I i->σ b=au) (hF:FrOk E σ g T a) (hN:a.tmps.size=N)
 (hQ:∀a' w',Aft E B N i (iD I i) (msD I ms) σ g w a.defers (tD os I (λ_=>ac) T) (memD I (λ_=>ac) h) a' w'->Q .normal a' w'):wpAny E.P .any os.toArray Q os.toArray.size (dj os.toArray.size ab) a {w with drawn:=w.drawn+1}:=by
 classical
 have e1:=Z2y hp
 obtain⟨k0,c5⟩:=Z9e hp
 have i4:∀m o,os[m]? =ae o->∃d,I[m]? =ae d:=λm o hm=>⟨I[m]'(by rw[<-e1];exact(ai.1 hm).1),ao _⟩
 have f5:∀m d,I[m]? =ae d->∃o,os[m]? =ae o:=λm d hm=>⟨os[m]'(by rw[e1];exact(ai.1 hm).1),ao _⟩
 have h0:∀m o,os[m]? =ae o->∀k∈waitsOf o,k<m:=λm o hm k J=>by
  have:=(Zbb g3 hm).1
  rw[bq] at this
  exact Zg7 this k J
 have e7:∀(D:Nat->Bool),(∀m o,os[m]? =ae o->D m=ac->∀k∈waitsOf o,D k=ac)->∀m o,os[m]? =ae o->(∀k∈waitsOf o,D k=ac)->∀k,bitB (nthN (Xj os []) m) k=ac->D k=true:=by
  intro D b2 m
  induction m using Nat.strongRecOn with
  |_ m ih=>
   intro o hm c8 k R
   obtain⟨pre,h1,h2⟩:=Zvu os [] m o hm
   simp only[List.length_nil,bq] at h1 h2
   rw[h1] at R
   obtain⟨j,hj,R⟩:=Zft R
   have f8:=h0 m o hm j hj
   rcases R with rfl|R
   ·exact c8 j hj
   ·rw[h2 j f8] at R
    have b0:j<os.length:=by have:=(ai.1 hm).1;omega
    exact ih j f8 os[j] (ao b0) (b2 j _ (ao b0) (c8 j hj)) k R
 have e5:∀m m' o U,m<m'->os[m]? =ae o->os[m']? =ae U->bitB (nthN (Xj os []) m') m=ac\/Zk5 os o U=true:=by
  intro m m' o U c7 hm i7
  have:=(Zbb g3 i7).2
  rw[bq] at this
  have:=Zdf (k:=m) (a:=o) this (by rw[bO,jM c7];exact hm)
  rwa[bq] at this
 have h3:∀m m' d d' U,m<m'->I[m]? =ae d->I[m']? =ae d'->os[m']? =ae U->bitB (nthN (Xj os []) m') m=ac\/Zh4 d d'=true:=by
  intro m m' d d' U c7 hd h8 b4
  obtain⟨prev',_,p2,_,_,hA,_⟩:=Ydv hp m' U d' b4 h8
  by_cases R:bitB (nthN (Xj os []) m') m=ac
  ·exact .inl R
  ·right
   rw[bg] at R
   have:=p2 m d c7 hd
   rw[bq] at this hA
   exact Zfs hA d (Zmr this R)
 have key:∀(m:Nat) (listed:Array Bool) (a1:Act) (w1:World),listed.size=os.length->cntF listed os.length=m->
  (∀k o,os[k]? =ae o->listed.getD k ab=ac->∀x∈waitsOf o,listed.getD x ab=ac)->a1.defers=a.defers->a1.tmps.size=N->
  (∃σ1 g1,Stp i (iD I i-i) (msD I ms) σ g w σ1 g1 w1/\Inv E B σ1 (memD I (λx=>listed.getD x ab) h) g1 w1/\FrOk E σ1 g1 (tD os I (λx=>listed.getD x ab) T) a1/\
   (∀b,σ1 b≠au->σ b≠au\/∃k d,listed.getD k ab=ac/\I[k]? =ae d/\d.i<=b/\b<d.i+d.r.n))->
  wpAny E.P .any os.toArray Q m listed a1 w1:=by
  intro m
  induction m with
  |zero=>
   intro listed a1 w1 e2 hc b2 d6 b5 ⟨σ1,g1,hS,b9,a6,_⟩
   have e9:=Ziv hc
   have f0:∀k,k<os.length->listed.getD k ab=true:=by
    intro k J
    have:=e9 k J
    rw[aS,cX (by omega)] at this⊢
    exact this
   refine⟨?_,?_⟩
   ·unfold iW
    rw[List.filter_eq_nil_iff]
    intro k J
    have i6:k<os.length:=by simpa using J
    rw[e9 k i6]
    simp
   ·refine hQ a1 w1 ⟨d6,b5,σ1,g1,hS,?_,?_⟩
    ·have:memD I (λ_=>ac) h=memD I (λx=>listed.getD x ab) h:=by
      funext b
      exact Zb3 I _ _ h h b (λk d J _=>(f0 k (by rw[e1];exact(ai.1 J).1)).symm) rfl
     rw[this];exact b9
    ·have:tD os I (λ_=>ac) T=tD os I (λx=>listed.getD x ab) T:=by
      funext t
      exact Zd2 os I _ _ T T t (λk o J _=>(f0 k (ai.1 J).1).symm) rfl
     rw[this];exact a6
  |succ m ih=>
   intro listed a1 w1 e2 hc b2 d6 b5 ⟨σ1,g1,hS,b9,a6,g7⟩
   have f4:∀j,j<os.length->listed.getD j ab=listed.getD j true:=by
    intro j hj
    rw[aS,aS,cX (by omega)]
    rfl
   obtain⟨j0,d9,i2,h6⟩:=Ziw hc
   have j4:j0∈iW .any os.toArray listed:=by
    refine cM.2 ⟨dU.2 (by simpa using d9),?_⟩
    rw[i2]
    rw[show(os.toArray[j0]?)=ae os[j0] by simp[d9]]
    simp only[cm,cZ,iN,cz,gk,bm,bj]
    intro e he
    by_cases f1:kC .any os[j0].after[e]=ac
    ·right
     have i9:os[j0].after[e].on∈waitsOf os[j0]:=by
      unfold waitsOf
      exact fw.2 ⟨os[j0].after[e],cM.2 ⟨by simp,f1⟩,rfl⟩
     have:=h0 j0 _ (ao d9) _ i9
     rw[f4 _ (by omega)]
     exact h6 _ this
    ·left;simpa using f1
   refine⟨λe=>ka j4 (by rw[e];simp),λj hj=> ?_⟩
   obtain⟨i5,e0⟩:=cM.1 hj
   have b0:j<os.length:=by simpa using dU.1 i5
   rw[show(os.toArray[j]?)=ae os[j] by simp[b0]] at e0
   simp only[cm,cZ,aq,bj,gk,bm] at e0
   obtain⟨f7,f6⟩:=e0
   have a4:os[j]? =ae os[j]:=ao b0
   generalize ho:os[j]=o at a4 f6
   obtain⟨d,a0⟩:=i4 j o a4
   have b7:listed.getD j ab=false:=by rw[f4 j b0];exact f7
   have c8:∀k∈waitsOf o,listed.getD k ab=true:=by
    intro k J
    unfold waitsOf at J
    obtain⟨e,he,rfl⟩:=fw.1 J
    obtain⟨i1,f2⟩:=cM.1 he
    obtain⟨x,hx,rfl⟩:=dd i1
    have j8:x<o.after.size:=by simpa using hx
    rcases f6 x j8 with c|c
    ·rw[show o.after[x]=o.after.toList[x] by simp] at c;rw[c] at f2;cases f2
    ·simpa using c
   obtain⟨prev',_,p2,e8,hR,hA,b6⟩:=Ydv hp j o d a4 a0
   rw[bq] at hA b6
   have p2:∀(m':Nat) (d':DR Y),m'<j->I[m']? =ae d'->(m',d')∈prev':=λm' d' h1 h2=>by have:=p2 m' d' h1 h2;rwa[bq] at this
   have before:∀k,bitB (nthN (Xj os []) j) k=ac->listed.getD k ab=true:=λk J=>e7 _ b2 j o a4 c8 k J
   have c9:∀k U,os[k]? =ae U->bitB (nthN (Xj os []) k) j=ac->listed.getD k ab=false:=by
    intro k U J R
    cases hq:listed.getD k ab with
    |false=>rfl
    |true=>
     have:=e7 _ b2 k U J (b2 k U J hq) j R
     rw[b7] at this;cases this
   have g5:∀t∈Vg os o,tD os I (λx=>listed.getD x ab) T t=tD os I (λx=>aU x j) T t:=by
    intro t ht
    refine Zd2 os I _ _ T T t (λk U J f9=> ?_) rfl
    rcases gj k j with a3|rfl|a3
    ·rw[show aU k j=ac by rw[aU,bu];exact a3]
     rcases e5 k j U o a3 J a4 with c|c
     ·exact before k c
     ·exact ka ht ((U2 c).1 t f9)
    ·rw[b7];symm;rw[<-bg,aU,bu];omega
    ·rw[show aU k j=ab by rw[<-bg,aU,bu];omega]
     rcases e5 j k o U a3 a4 J with c|c
     ·exact c9 k U J c
     ·exact ka ht ((U2 c).2.1 t f9)
   have g6:∀b x,(Rd d.r b\/b∈d.r.mods)->V1 (memD I (λx=>aU x j) h) (X1 (nthN (Xj os []) j) prev') b=ae x->memD I (λx=>listed.getD x ab) h b=ae x:=by
    intro b x a7 hv
    obtain⟨g9,j7⟩:=Zhp hv
    rw[<-g9]
    have j9:=e8 b (by rw[g9];simp)
    refine Zb3 I _ _ h h b (λk d' J hw=> ?_) rfl
    rcases gj k j with a3|rfl|a3
    ·rw[show aU k j=ac by rw[aU,bu];exact a3]
     by_cases R:bitB (nthN (Xj os []) j) k=ac
     ·exact before k R
     ·rw[bg] at R
      have g8:=Zmr (p2 k d' a3 J) R
      have b1:=Zib (Zfs hA d' g8)
      rcases hw with hw|hw
      ·rcases a7 with a7|a7
       ·exact ka hw (b1.2.2.1 b a7)
       ·exact ka a7 (b1.1 b hw)
      ·exact ka hw (j7 d' g8)
    ·rw[b7];symm;rw[<-bg,aU,bu];omega
    ·rw[show aU k j=ab by rw[<-bg,aU,bu];omega]
     obtain⟨U,b4⟩:=f5 k d' J
     rcases h3 j k d d' U a3 a0 J b4 with c|c
     ·exact c9 k U b4 c
     ·have b1:=Zib c
      rcases hw with hw|hw
      ·rcases a7 with a7|a7
       ·exact ka hw (b1.2.2.2 b a7)
       ·exact ka hw (b1.1 b a7)
      ·have:=(c5 j d a0).2.2 k d' a3 J
       omega
   have d8:∀x,(listed.setIfInBounds j ac).getD x ab=if x=j then ac else listed.getD x false:=by
    intro x
    simp only[aS,cY]
    by_cases c:j=x
    ·subst c;simp[e2,b0]
    ·rw[jJ c,jJ (λh'=>c h'.symm)]
   have g4:(λx=>(listed.setIfInBounds j ac).getD x ab)=λx=>if x=j then ac else listed.getD x false:=funext d8
   have j1:memD I (λx=>(listed.setIfInBounds j ac).getD x ab) h=patch (memD I (λx=>listed.getD x ab) h) d.i d.r:=by
    funext b
    rw[g4]
    refine Z8o b I _ h j d a0 b7 λhw k d' d7 J a9=> ?_
    obtain⟨U,b4⟩:=f5 k d' J
    rcases h3 j k d d' U d7 a0 J b4 with c|c
    ·exact c9 k U b4 c
    ·have b1:=Zib c
     have k6:=(c5 j d a0).2.2 k d' d7 J
     exfalso
     rcases hw with hw|hw
     ·rcases a9 with a9|a9
      ·exact b1.1 b hw a9
      ·have:=e8 b (hR b hw);omega
     ·rcases a9 with a9|a9
      ·exact b1.2.1 b a9 hw
      ·omega
   have j6:tD os I (λx=>(listed.setIfInBounds j ac).getD x ab) T=updO (tD os I (λx=>listed.getD x ab) T) o.dst d.r.v:=by
    funext t
    rw[g4]
    refine Ydm t os I _ T j o d a4 a0 b7 λhw k U d7 J a9=> ?_
    rcases e5 j k o U d7 a4 J with c|c
    ·exact c9 k U J c
    ·exact ka a9 ((U2 c).2.2 t hw)
   have f3:∀b,d.i<=b->b<d.i+d.r.n->σ1 b=none:=by
    intro b h1 h2
    cases hq:σ1 b with
    |none=>rfl
    |some p=>
     exfalso
     have hr:=c5 j d a0
     rcases g7 b (by rw[hq];simp) with c|⟨k,d',c1,c2,c3,c4⟩
     ·exact c (i3 b (by omega) (by omega))
     ·rcases gj k j with a3|rfl|a3
      ·have:=(c5 k d' c2).2.2 j d a3 a0;omega
      ·rw[b7] at c1;cases c1
      ·have:=hr.2.2 k d' a3 c2;omega
   have k7:=c5 j d a0
   have rest:∀(a2:Act) (w2:World) (σ2:Pl) (g2:GH),a2.defers=a.defers->a2.tmps.size=N->Stp d.i d.r.n d.r.mods σ1 g1 w1 σ2 g2 w2->Inv E B σ2 (patch (memD I (λx=>listed.getD x ab) h) d.i d.r) g2 w2->
    FrOk E σ2 g2 (updO (tD os I (λx=>listed.getD x ab) T) o.dst d.r.v) a2->wpAny E.P .any os.toArray Q m (listed.setIfInBounds j ac) a2 w2:=by
    intro a2 w2 σ2 g2 k1 k2 k3 k4 k5
    refine ih _ a2 w2 (by simpa using e2) ?_ ?_ k1 k2 ⟨σ2,g2,?_,?_,?_,?_⟩
    ·have:=Zsj listed j os.length b0 f7
     omega
    ·intro k U J c6 x hx
     rw[d8] at c6⊢
     by_cases c:k=j
     ·subst c
      rw[a4] at J;cases J
      have e4:=c8 x hx
      split<;>simp[e4]
     ·rw[jJ c] at c6
      have e4:=b2 k U J c6 x hx
      split<;>simp[e4]
    ·exact hS.join k3 (av _) (by omega) (by omega) (by omega) (λb R=>R) (λb R=>Z2z I ms j d a0 b R)
    ·rw[j1];exact k4
    ·rw[j6];exact k5
    ·intro b R
     obtain⟨p,j3⟩:=aY.1 R
     rcases k3.snew b p j3 with c|c
     ·rcases g7 b (by rw[c];simp) with c2|⟨k,d',c2,c3⟩
      ·exact .inl c2
      ·exact .inr ⟨k,d',by rw[d8];split<;>simp[c2],c3⟩
     ·exact .inr ⟨j,d,by rw[d8];simp,a0,c⟩
   have runs:OpTri E o (tD os I (λx=>aU x j) T) (V1 (memD I (λx=>aU x j) h) (X1 (nthN (Xj os []) j) prev')) d.i d.r->o.wp E.P a1 w1 (wpAny E.P .any os.toArray Q m (listed.setIfInBounds j ac)) Q:=by
    intro b8
    have h5:Inv E B σ1 (λb=>if Rd d.r b then V1 (memD I (λx=>aU x j) h) (X1 (nthN (Xj os []) j) prev') b else au) g1 w1:=
     b9.sub λb x hx=>by
      by_cases c:Rd d.r b
      ·simp only[c,kL] at hx;exact g6 b x (.inl c) hx
      ·simp only[c,kM] at hx;cases hx
    refine OpPost.wp (b8.2 B σ1 g1 w1 a1.eval _ (λb R=>jM R) h5 (bS hB hS.size) f3 ?_) ?_
    ·intro x hx
     cases x with
     |tmp t=>
      have ht:t∈Vg os o:=by
       have:=Zf1 hx
       unfold Vg
       split
       ·exact this
       ·split<;>simp[this]
      have:=a6 t
      rw[g5 t ht] at this
      exact this
     |const v=>exact X0 E σ1 g1 v
     |global n=>exact .val _
     |func f=>exact(FrOk.ev a6 (.func f))
    ·rintro u w2 ⟨σ2,g2,d5,h4,hv⟩
     refine rest _ w2 σ2 g2 (by rw[W0];exact d6) (by rw[Uj];exact b5) d5 ?_ ?_
     ·have:=Zik (r:=⟨d.r.v,d.r.n,d.r.mods,patch (λb=>if Rd d.r b then V1 (memD I (λx=>aU x j) h) (X1 (nthN (Xj os []) j) prev') b else au) d.i d.r,d.r.rd⟩) b9 h4 d5 (λb R=>by
       obtain⟨x,hx⟩:=aY.1 (b8.1 b R)
       rw[g6 b x (.inr R) hx];simp) f3 rfl rfl rfl
      have e:patch (memD I (λx=>listed.getD x ab) h) d.i ⟨d.r.v,d.r.n,d.r.mods,patch (λb=>if Rd d.r b then V1 (memD I (λx=>aU x j) h) (X1 (nthN (Xj os []) j) prev') b else au) d.i d.r,d.r.rd⟩=patch (memD I (λx=>listed.getD x ab) h) d.i d.r:=by
       funext b
       rw[Zp,Zp]
       by_cases c:b∈d.r.mods\/(d.i<=b/\b<d.i+d.r.n)
       ·rw[jM c,jM c];simp only;rw[Zp,jM c]
       ·rw[jJ c,jJ c]
      rw[e] at this;exact this
     ·have d4:=a6.mono d5.sig d5.gle
      by_cases hu:d.r.v= .unk
      ·rw[hu]
       cases c0:o.dst with
       |none=>exact d4
       |some t=>exact d4.skip t u
      ·cases c0:o.dst with
       |none=>exact d4
       |some t=>exact d4.put (by rw[b5];exact g0 j o d a4 a0 hu t c0) hv
   unfold wpOp
   rw[show(os.toArray[j]?)=ae o by simp[b0,ho]]
   simp only
   unfold Zl4 at b6
   cases b3:o.guard with
   |none=>
    rw[b3] at b6
    rw[jM (by unfold de;rw[b3])]
    exact .inl (runs b6)
   |some gb=>
    obtain⟨gi,gv⟩:=gb
    rw[b3] at b6
    obtain⟨s,hs,h7⟩:=b6
    have j5:s∈Vg os o:=by unfold Vg;rw[b3];simp only;rw[hs];simp
    have a8:=a6 s
    rw[g5 s j5] at a8
    have e6:∀y:Option Bool,(match a1.tmps.getD s undef with| .bool x=>ae x|_=>au)=y->yielded os.toArray a1.tmps gi=y:=by
     intro y hy
     unfold Zh3 at hs
     split at hs
     ·rename_i og j2
      unfold yielded
      rw[aS] at hy
      simp only[bU,j2,fj,hs]
      cases hq:a1.tmps[s]? with
      |none=>rw[hq] at hy;simpa[undef] using hy
      |some u=>rw[hq] at hy;cases u<;>simpa using hy
     ·cases hs
    have hc:(de o (yielded os.toArray a1.tmps)=ac/\OpTri E o (tD os I (λx=>aU x j) T) (V1 (memD I (λx=>aU x j) h) (X1 (nthN (Xj os []) j) prev')) d.i d.r)\/(¬(de o (yielded os.toArray a1.tmps)=ac)/\(d.r=quiet [] .unk\/d.r=quiet [] (.val undef))):=by
     rcases h7 with⟨l,x,hT,e3,b8⟩|⟨⟨l,x,hT,e3⟩|⟨u,hT,hu⟩,hr⟩
     ·rw[hT] at a8
      have yield:=e6 (ae x) (by
       have a5:a1.eval (.tmp s)= .bool x:=by generalize a1.eval (.tmp s)=v at a8;cases a8;rfl
       have a5:a1.tmps.getD s undef= .bool x:=a5
       rw[a5])
      exact .inl ⟨by unfold de;rw[b3];simp[yield,e3],b8⟩
     ·rw[hT] at a8
      have yield:=e6 (ae x) (by
       have a5:a1.eval (.tmp s)= .bool x:=by generalize a1.eval (.tmp s)=v at a8;cases a8;rfl
       have a5:a1.tmps.getD s undef= .bool x:=a5
       rw[a5])
      exact .inr ⟨by unfold de;rw[b3];simp[yield,e3],hr⟩
     ·rw[hT] at a8
      have yield:=e6 au (by
       have a5:a1.eval (.tmp s)=u:=by generalize a1.eval (.tmp s)=v at a8;cases a8;rfl
       have a5:a1.tmps.getD s undef=u:=a5
       rw[a5]
       cases u<;>first|rfl|(simp[Z2d] at hu))
      exact .inr ⟨by unfold de;rw[b3];simp[yield],hr⟩
    rcases hc with⟨hw,b8⟩|⟨hw,hr⟩
    ·rw[jM hw]
     exact .inl (runs b8)
    ·rw[jJ hw]
     refine rest _ w1 σ1 g1 (by rw[W0];exact d6) (by rw[Uj];exact b5) ?_ ?_ ?_
     ·rcases hr with hr|hr<;>(rw[hr];exact Stp.refl _ _ _ _)
     ·rcases hr with hr|hr<;>(rw[hr,Y4];exact b9)
     ·rcases hr with hr|hr
      ·rw[hr]
       cases c0:o.dst with
       |none=>exact a6
       |some t=>exact a6.skip t undef
      ·have c7:=g0 j o d a4 a0 (by rw[hr];intro e;cases e)
       rw[hr]
       cases c0:o.dst with
       |none=>exact a6
       |some t=>exact a6.put (by rw[b5];exact c7 t c0) (.val _)
 have h9:Inv E B σ h g {w with drawn:=w.drawn+1}:=⟨hI.gc,hI.gm,hI.blk,hI.inj,hI.base,hI.fz,hI.fm,hI.glob⟩
 have:=key os.length (dj os.length ab) a {w with drawn:=w.drawn+1} (by simp) ?_ ?_ rfl hN ⟨σ,g,?_,?_,?_,λb R=> .inl R⟩
 ·simpa using this
 ·unfold cntF
  rw[List.filter_eq_self.2,List.length_range]
  intro j hj
  have:j<os.length:=dU.1 hj
  simp[ee,this]
 ·intro k o J c6
  have:k<os.length:=(ai.1 J).1
  simp[ee,this] at c6
 ·exact(⟨.refl _,λ_ _ h=> .inl h,.refl _,λ_ _ _ h=> .inl h,λ_ _ h=> .inl h,λ_ _ _=>rfl,av _,rfl,rfl,rfl,λ_ _ _ h k=>by rw[h] at k;cases k⟩)
 ·have:(λx=>(dj os.length ab).getD x ab)=λ_=>false:=by
   funext x
   by_cases c:x<os.length<;>simp[ee,c]
  rw[this,Zfl];exact h9
 ·have:(λx=>(dj os.length ab).getD x ab)=λ_=>false:=by
   funext x
   by_cases c:x<os.length<;>simp[ee,c]
  rw[this,Zd3];exact hF
theorem Yal(a2:E.P.follows .mixedOrders=ac) {os:List Oper} {T:Fr Y} {h:Hp Y} {i N:Nat} {ms:List Nat} {I:List (DR Y)} (a3:Zge os (Xj os []) os 0=ac) (hp:POk E os (Xj os []) os 0 T h i [] I)
 (a1:∀(m:Nat) (o:Oper) (d:DR Y),os[m]? =ae o->I[m]? =ae d->d.r.v≠ .unk->∀x,o.dst=ae x->x<N) (id:Nat)
 (B:Nat) (σ:Pl) (g:GH) (w:World) (a:Act) (Q:Exit->Act->World->Prop) (hI:Inv E B σ h g w) (U:B<=w.heap.size) (a0:∀b,i<=b->b<iD I i->σ b=au) (hF:FrOk E σ g T a) (hN:a.tmps.size=N)
 (hQ:∀J R,Aft E B N i (iD I i) (msD I ms) σ g w a.defers (tD os I (λ_=>ac) T) (memD I (λ_=>ac) h) J R->Q .normal J R):(Code.region id os.toArray ac).wp E.P Q a w:=wp_region_any a2 (Yak a3 hp a1 B σ g w a Q hI U a0 hF hN hQ)
theorem Z4a{all:List Oper} {a3:List Nat}:∀{os:List Oper} {j:Nat} {T:Fr Y} {h:Hp Y} {i:Nat} {prev:List (Nat×DR Y)} {J:List (DR Y)},DomLt h i->POk E all a3 os j T h i prev J->
 Dom h i (memD J (λ_=>ac) h) (iD J i)/\∀ms,∃m,msD J ms=m++ms/\Xg h i (iD J i) m
 | [],_,_,_,_,_,[],hD,_=>⟨⟨hD,λb I=> .inl I⟩,λms=>⟨[],rfl,λb I=>by simp at I⟩⟩
 |o::os,j,T,h,i,prev,d::J,hD,hp=>by
  obtain⟨⟨rfl,_,R,_,_⟩,h2⟩:=hp
  obtain⟨a0,a2⟩:=Z4a (hD.patch R) h2
  have a4:=(Z9e h2).1
  have a1:∀b,patch h d.i d.r b≠au->h b≠au\/d.i<=b:=by
   intro b U
   rw[Zp] at U
   split at U
   ·rename_i c
    rcases c with c|c
    ·exact .inl (R b c)
    ·exact .inr c.1
   ·exact .inl U
  refine⟨⟨a0.1,λb I=> ?_⟩,λms=> ?_⟩
  ·rcases a0.2 b I with c|c
   ·exact a1 b c
   ·right;omega
  ·obtain⟨m,h3,h4⟩:=a2 (d.r.mods++ms)
   refine⟨m++d.r.mods,by simp[msD,h3],λb I=> ?_⟩
   simp only[iD]
   rcases cf.1 I with I|I
   ·rcases h4 b I with c|c
    ·rw[Zp] at c
     split at c
     ·rename_i c'
      rcases c' with c'|c'
      ·exact .inl (R b c')
      ·right;omega
     ·exact .inl c
    ·right;omega
   ·exact .inl (R b I)
end
end
end Go.Proofs.YtbkgpcknakidkaaGreatDoor
